/- Small lemmas of the law's round. -/
import Derived.Test.YtgbpoehhikiieaaBoth
set_option linter.unusedVariables false
set_option linter.unusedSimpArgs false
namespace Go.Proofs.Ytgbpoehhikiieaa
open Go.RowKit

theorem own_type_blk {w : World} {e T : TypeId} {size : Nat} {v : Value} {n : Nat} {xs : List Value} {b : Nat} {cs : Array Value} (h : w.ownsRow 0 e size v n xs) (hb : Blk w b cs T) (hT : e ≠ T) : v.ownBlock ≠ some b := by
  intro hk
  rcases h.2 with ⟨rfl, _⟩ | ⟨g, cap, cur, rfl, _, hh, _⟩
  · cases hk
  · have := own_blk_eq hk; subst this
    unfold Blk at hb; rw [hh] at hb; injection hb with hb; injection hb with _ h1; exact hT h1

section
variable {w0 : World} {sb tb wb mb : Nat} {CA CA' : Option Addr} {cc cc' : Nat} {v v' v1 : Value} {st st1 : SinkSt} {err err1 : Int} {wr w1 w2 : World} {ab : Nat} {cs : Array Value} {l0 : List UInt8}
theorem Both.keep (h : Both w0 sb tb wb mb CA CA' cc cc' v v' st err wr) (c : Chg (fun _ => False) wr w1) : Both w0 sb tb wb mb CA CA' cc cc' v v' st err w1 := by
  have := c.size
  refine ⟨h.s.keep c, h.t.keep c, h.w.chg c (fun h => h), h.m.chg c (fun h => h), h.ok, h.ge, h.chg.trans c (fun _ _ h => h) (fun _ _ h => h), ?_, ?_, ?_, ?_⟩
  · intro k hk; have a := h.vge k hk; exact ⟨a.1, a.2.1, a.2.2.1, a.2.2.2.1, a.2.2.2.2.1, by omega, a.2.2.2.2.2.2⟩
  · intro k hk; have a := h.vge' k hk; exact ⟨a.1, a.2.1, a.2.2.1, a.2.2.2.1, a.2.2.2.2.1, by omega⟩
  · intro k hk; have a := h.ca k hk; exact ⟨a.1, a.2.1, a.2.2.1, a.2.2.2.1, a.2.2.2.2.1, a.2.2.2.2.2.1, a.2.2.2.2.2.2.1, by omega⟩
  · intro k hk; have a := h.ca' k hk; exact ⟨a.1, a.2.1, a.2.2.1, a.2.2.2.1, a.2.2.2.2.1, a.2.2.2.2.2.1, a.2.2.2.2.2.2.1, by omega⟩
theorem Both.chgAct (h : Both w0 sb tb wb mb CA CA' cc cc' v v' st err wr) (hb : Blk wr ab cs 38) (hab : w0.heap.size ≤ ab) (hca : ∀ ad, CA = some ad → ad.block ≠ ab) (hca' : ∀ ad, CA' = some ad → ad.block ≠ ab)
    (c : Chg (fun k => k = ab) wr w1) : Both w0 sb tb wb mb CA CA' cc cc' v v' st err w1 := by
  have h1 := blk_ne hb h.s.blk (by decide)
  have h2 := blk_ne hb h.t.blk (by decide)
  have h3 := blk_ne hb h.w (by decide)
  have h4 := blk_ne hb h.m (by decide)
  have h5 := own_type_blk h.s.row hb (by decide)
  have h6 := own_type_blk h.t.row hb (by decide)
  have sz := c.size
  refine ⟨h.s.chg c (fun e => h1 e.symm) (fun k hk e => h5 (e ▸ hk)) (fun ad e hh => hca ad e hh), ⟨h.t.nil, h.t.blk.chg c (fun e => h2 e.symm), h.t.chunks.chg c (fun ad e hh => hca' ad e hh), own_chg h.t.row c (fun k hk e => h6 (e ▸ hk)), h.t.ne, fun ad e => Nat.lt_of_lt_of_le (h.t.clt ad e) c.size, h.t.cne⟩, h.w.chg c (fun e => h3 e.symm), h.m.chg c (fun e => h4 e.symm), h.ok, h.ge,
    h.chg.trans c (fun _ _ h => h) (fun i hi e => by omega), ?_, ?_, ?_, ?_⟩
  · intro k hk; have a := h.vge k hk; exact ⟨a.1, a.2.1, a.2.2.1, a.2.2.2.1, a.2.2.2.2.1, by omega, a.2.2.2.2.2.2⟩
  · intro k hk; have a := h.vge' k hk; exact ⟨a.1, a.2.1, a.2.2.1, a.2.2.2.1, a.2.2.2.2.1, by omega⟩
  · intro k hk; have a := h.ca k hk; exact ⟨a.1, a.2.1, a.2.2.1, a.2.2.2.1, a.2.2.2.2.1, a.2.2.2.2.2.1, a.2.2.2.2.2.2.1, by omega⟩
  · intro k hk; have a := h.ca' k hk; exact ⟨a.1, a.2.1, a.2.2.1, a.2.2.2.1, a.2.2.2.2.1, a.2.2.2.2.2.1, a.2.2.2.2.2.2.1, by omega⟩
theorem Both.abMid (h : Both w0 sb tb wb mb CA CA' cc cc' v v' st err wr) (hb : Blk wr ab cs 38) (c : Chg (fun k => k = sb ∨ k = wb ∨ some k = v.ownBlock) wr w1) : Blk w1 ab cs 38 := by
  have h1 := blk_ne hb h.s.blk (by decide)
  have h3 := blk_ne hb h.w (by decide)
  have h5 := own_type_blk h.s.row hb (by decide)
  refine hb.chg c ?_
  rintro (e | e | e)
  · exact h1 e
  · exact h3 e
  · exact h5 e.symm
theorem Mid.abFin (h : Mid w0 sb tb wb mb CA CA' cc cc' v v1 v' st st1 err err1 wr w1) (hb : Blk w1 ab cs 38) (c : Chg (fun k => k = tb ∨ k = mb) w1 w2) : Blk w2 ab cs 38 := by
  have h1 := blk_ne hb h.t.blk (by decide)
  have h3 := blk_ne hb h.m (by decide)
  refine hb.chg c ?_
  rintro (e | e)
  · exact h1 e
  · exact h3 e

/-- The first writer's call, told of 'Both'. -/
theorem Both.callW (h : Both w0 sb tb wb mb CA CA' cc cc' v v' st err wr) {A : Option Addr} {c : Nat} {l : List UInt8} (hl : Rd wr A (by8 l)) (hsz : st.content.length + l.length ≤ 100000000) (hcap : l.length ≤ c)
    (hA : ∀ ad, A = some ad → l ≠ [] → ad.block < w0.heap.size) :
    Calls Try.prog 8 #[.pointer (some ⟨wb, 0, none⟩), .slice A l.length c] wr fun e w1 => e = .returned (.int .i64 (wstep st err l).2) ∧
      ∃ v1, Mid w0 sb tb wb mb CA CA' cc cc' v v1 v' st (wstep st err l).1 err (wstep st err l).2 wr w1 := by
  obtain ⟨d1, d2, d3, d4, d5, d6⟩ := h.dist
  have hg := h.ge
  refine (wrWrite wb sb v CA A cc c st err l wr h.w h.s h.ok hl hsz hcap ?_ (fun e => d2 e.symm) (fun e => (h.vge wb e.symm).2.2.2.1 rfl) (fun ad e => (h.ca ad e).2.2.2.1)).mono ?_
  · intro ad e hn
    have := hA ad e hn
    have hz := h.chg.size
    exact ⟨by omega, by omega, fun e => by have := h.vge _ e.symm; omega, by omega⟩
  · rintro e w1 ⟨rfl, v1, k1, k2, k3, k4⟩
    exact ⟨rfl, v1, h.mid k1 k2 k3 k4⟩

theorem Mid.callM (g : Mid w0 sb tb wb mb CA CA' cc cc' v v1 v' st (wstep st err l0).1 err (wstep st err l0).2 wr w1) (h : Both w0 sb tb wb mb CA CA' cc cc' v v' st err wr) {A : Option Addr} {c : Nat} (hl : Rd wr A (by8 l0)) (hsz : st.content.length + l0.length ≤ 100000000) (hcap : l0.length ≤ c)
    (hA : ∀ ad, A = some ad → l0 ≠ [] → ad.block < w0.heap.size) :
    Calls Try.prog 9 #[.pointer (some ⟨mb, 0, none⟩), .slice A l0.length c] w1 fun e w2 => e = .returned (.int .i64 (wstep st err l0).2) ∧
      ∃ v2, Both w0 sb tb wb mb CA CA' cc cc' v1 v2 (wstep st err l0).1 (wstep st err l0).2 w2 ∧ Chg (fun k => k = tb ∨ k = mb) w1 w2 := by
  obtain ⟨d1, d2, d3, d4, d5, d6⟩ := h.dist
  have hg := h.ge
  have hz := h.chg.size
  have hl1 : Rd w1 A (by8 l0) := by
    rcases hl with e | ⟨g2, o2, rfl, e⟩
    · exact .inl e
    · by_cases hn : l0 = []
      · subst hn; exact .inl rfl
      · refine Rd.chg (.inr ⟨g2, o2, rfl, e⟩) g.chg ?_
        intro ad ea hh
        have := hA ad ea hn
        rcases hh with hh | hh | hh
        · omega
        · omega
        · have := h.vge _ hh.symm; omega
  have hok1 : SinkOk (wstep st err l0).1 := by unfold wstep; split; exact h.ok; exact all_ok h.ok l0
  refine (mrWrite mb tb v' CA' A cc' c st err l0 w1 g.m g.t h.ok hl1 hsz hcap ?_ (fun e => d5 e.symm) (fun e => (h.vge' mb e.symm).2.2.2.2.1 rfl) (fun ad e => (h.ca' ad e).2.2.2.2.1)).mono ?_
  · intro ad e hn; have := hA ad e hn; omega
  · rintro e w2 ⟨rfl, v2, k1, k2, k3, k4⟩
    exact ⟨rfl, v2, h.fin g hok1 k1 k2 k3 k4, k3⟩

theorem wstep_ok {st : SinkSt} (ok : SinkOk st) (err : Int) (l : List UInt8) : SinkOk (wstep st err l).1 := by unfold wstep; split; exact ok; exact all_ok ok l
theorem wstep_len (st : SinkSt) (err : Int) (l : List UInt8) : (wstep st err l).1.content.length ≤ st.content.length + l.length := by
  unfold wstep; split
  · exact Nat.le_add_right _ _
  · exact (all_len st l).2

theorem Both.callP (h : Both w0 sb tb wb mb CA CA' cc cc' v v' st err wr) (hsz : st.content.length ≤ 90000000) :
    Calls Try.prog 10 #[.pointer (some ⟨wb, 0, none⟩)] wr fun e w1 => e = .returned (.int .i64 (wstep st err (List.replicate (padLen st.content.length) 0)).2) ∧
      ∃ v1, Mid w0 sb tb wb mb CA CA' cc cc' v v1 v' st (wstep st err (List.replicate (padLen st.content.length) 0)).1 err (wstep st err (List.replicate (padLen st.content.length) 0)).2 wr w1 := by
  obtain ⟨d1, d2, d3, d4, d5, d6⟩ := h.dist
  refine (wrPad wb sb v CA cc st err wr h.w h.s h.ok hsz (fun e => d2 e.symm) (fun e => (h.vge wb e.symm).2.2.2.1 rfl) (fun ad e => (h.ca ad e).2.2.2.1)).mono ?_
  rintro e w1 ⟨rfl, v1, k1, k2, k3, k4⟩
  exact ⟨rfl, v1, h.mid k1 k2 k3 k4⟩
theorem Mid.callPM (g : Mid w0 sb tb wb mb CA CA' cc cc' v v1 v' st (wstep st err (List.replicate (padLen st.content.length) 0)).1 err (wstep st err (List.replicate (padLen st.content.length) 0)).2 wr w1) (h : Both w0 sb tb wb mb CA CA' cc cc' v v' st err wr) (hsz : st.content.length ≤ 90000000) :
    Calls Try.prog 11 #[.pointer (some ⟨mb, 0, none⟩)] w1 fun e w2 => e = .returned (.int .i64 (wstep st err (List.replicate (padLen st.content.length) 0)).2) ∧
      ∃ v2, Both w0 sb tb wb mb CA CA' cc cc' v1 v2 (wstep st err (List.replicate (padLen st.content.length) 0)).1 (wstep st err (List.replicate (padLen st.content.length) 0)).2 w2 ∧ Chg (fun k => k = tb ∨ k = mb) w1 w2 := by
  obtain ⟨d1, d2, d3, d4, d5, d6⟩ := h.dist
  refine (mrPad mb tb v' CA' cc' st err w1 g.m g.t h.ok hsz (fun e => d5 e.symm) (fun e => (h.vge' mb e.symm).2.2.2.2.1 rfl) (fun ad e => (h.ca' ad e).2.2.2.2.1)).mono ?_
  rintro e w2 ⟨rfl, v2, k1, k2, k3, k4⟩
  exact ⟨rfl, v2, h.fin g (wstep_ok h.ok _ _) k1 k2 k3 k4, k3⟩
theorem Both.callZ (h : Both w0 sb tb wb mb CA CA' cc cc' v v' st err wr) (hsz : st.content.length ≤ 90000000) (n : Nat) (hn : n ≤ 1024) :
    Calls Try.prog 12 #[.pointer (some ⟨wb, 0, none⟩), .int .i64 n] wr fun e w1 => e = .returned (.int .i64 (wstep st err (List.replicate (512 * n) 0)).2) ∧
      ∃ v1, Mid w0 sb tb wb mb CA CA' cc cc' v v1 v' st (wstep st err (List.replicate (512 * n) 0)).1 err (wstep st err (List.replicate (512 * n) 0)).2 wr w1 := by
  obtain ⟨d1, d2, d3, d4, d5, d6⟩ := h.dist
  refine (wrZeros_yes wb sb v CA cc n st err wr hn h.w h.s h.ok hsz (fun e => d2 e.symm) (fun e => (h.vge wb e.symm).2.2.2.1 rfl) (fun ad e => (h.ca ad e).2.2.2.1)).mono ?_
  rintro e w1 ⟨rfl, v1, k1, k2, k3, k4⟩
  exact ⟨rfl, v1, h.mid k1 k2 k3 k4⟩
theorem Mid.callZM {n : Nat} (g : Mid w0 sb tb wb mb CA CA' cc cc' v v1 v' st (wstep st err (List.replicate (512 * n) 0)).1 err (wstep st err (List.replicate (512 * n) 0)).2 wr w1) (h : Both w0 sb tb wb mb CA CA' cc cc' v v' st err wr) (hsz : st.content.length ≤ 90000000) (hn : n ≤ 1024) :
    Calls Try.prog 13 #[.pointer (some ⟨mb, 0, none⟩), .int .i64 n] w1 fun e w2 => e = .returned (.int .i64 (wstep st err (List.replicate (512 * n) 0)).2) ∧
      ∃ v2, Both w0 sb tb wb mb CA CA' cc cc' v1 v2 (wstep st err (List.replicate (512 * n) 0)).1 (wstep st err (List.replicate (512 * n) 0)).2 w2 ∧ Chg (fun k => k = tb ∨ k = mb) w1 w2 := by
  obtain ⟨d1, d2, d3, d4, d5, d6⟩ := h.dist
  refine (mrZeros_yes mb tb v' CA' cc' n st err w1 hn g.m g.t h.ok hsz (fun e => d5 e.symm) (fun e => (h.vge' mb e.symm).2.2.2.2.1 rfl) (fun ad e => (h.ca' ad e).2.2.2.2.1)).mono ?_
  rintro e w2 ⟨rfl, v2, k1, k2, k3, k4⟩
  exact ⟨rfl, v2, h.fin g (wstep_ok h.ok _ _) k1 k2 k3 k4, k3⟩

theorem Both.callZi (h : Both w0 sb tb wb mb CA CA' cc cc' v v' st err wr) (hsz : st.content.length ≤ 90000000) (n : Int) (h0 : 0 ≤ n) (hn : n ≤ 1024) :
    Calls Try.prog 12 #[.pointer (some ⟨wb, 0, none⟩), .int .i64 n] wr fun e w1 => e = .returned (.int .i64 (wstep st err (List.replicate (512 * n.toNat) 0)).2) ∧
      ∃ v1, Mid w0 sb tb wb mb CA CA' cc cc' v v1 v' st (wstep st err (List.replicate (512 * n.toNat) 0)).1 err (wstep st err (List.replicate (512 * n.toNat) 0)).2 wr w1 := by
  have := h.callZ hsz n.toNat (by omega)
  rwa [Int.toNat_of_nonneg h0] at this
theorem Mid.callZMi {n : Int} (h0 : 0 ≤ n) (g : Mid w0 sb tb wb mb CA CA' cc cc' v v1 v' st (wstep st err (List.replicate (512 * n.toNat) 0)).1 err (wstep st err (List.replicate (512 * n.toNat) 0)).2 wr w1) (h : Both w0 sb tb wb mb CA CA' cc cc' v v' st err wr) (hsz : st.content.length ≤ 90000000) (hn : n ≤ 1024) :
    Calls Try.prog 13 #[.pointer (some ⟨mb, 0, none⟩), .int .i64 n] w1 fun e w2 => e = .returned (.int .i64 (wstep st err (List.replicate (512 * n.toNat) 0)).2) ∧
      ∃ v2, Both w0 sb tb wb mb CA CA' cc cc' v1 v2 (wstep st err (List.replicate (512 * n.toNat) 0)).1 (wstep st err (List.replicate (512 * n.toNat) 0)).2 w2 ∧ Chg (fun k => k = tb ∨ k = mb) w1 w2 := by
  have := g.callZM h hsz (by omega)
  rwa [Int.toNat_of_nonneg h0] at this
theorem wlen_rep (st : SinkSt) (err : Int) (n m : Nat) (h : n ≤ m) : (wstep st err (List.replicate n 0)).1.content.length ≤ st.content.length + m := by
  have := wstep_len st err (List.replicate n 0)
  rw [List.length_replicate] at this; omega
theorem padLen_le (n : Nat) : padLen n ≤ 5000 := by unfold padLen; omega
theorem wlen_lst (st : SinkSt) (err : Int) (l : List UInt8) (m : Nat) (h : l.length ≤ m) : (wstep st err l).1.content.length ≤ st.content.length + m := by
  have := wstep_len st err l; omega
end
end Go.Proofs.Ytgbpoehhikiieaa
