/- The source without chunks and failures: New, chunk, Read (what 'alive' needs). -/
import Derived.Test.YtgbpoehhikiieaaClone
set_option linter.unusedVariables false
set_option linter.unusedSimpArgs false
namespace Go.Proofs.Ytgbpoehhikiieaa
open Go.RowKit

theorem srcChunk (b c : Nat) (A : Option Addr) (w : World) (h : w.cell? ⟨b, 1, none⟩ = some (.slice A 0 c)) :
    Calls Try.prog 27 #[.pointer (some ⟨b, 0, none⟩)] w fun e w' => e = .returned (.int .i64 1048576) ∧ w' = w := by
  go_enter Try.func27, Try.ntmps27
  go_wp2_with fail
  go_ret
  exact ⟨rfl, rfl⟩

/-- Block b is a source without chunks that never fails, with l left. -/
structure IsSrc (w : World) (b : Nat) (RA : Option Addr) (rc : Nat) (l : List UInt8) (off reads : Nat) : Prop where
  blk : ∃ A c, Blk w b #[.slice RA l.length rc, .slice A 0 c, .int .i64 (-1), .int .i64 off, .int .i64 reads] 71
  rd : Rd w RA (by8 l)
  cap : l.length ≤ rc
  ne : ∀ ad, RA = some ad → l ≠ [] → ad.block ≠ b

theorem srcRead_end (b : Nat) (RA : Option Addr) (rc off reads n : Nat) (w : World) (h : IsSrc w b RA rc [] off reads) (hn : 1 ≤ n) :
    Calls Try.prog 24 #[.pointer (some ⟨b, 0, none⟩), .int .i64 n] w fun e w' => e = .returned (.tuple #[.slice none 0 0, .int .i64 4]) ∧ ∃ q, w' = w.drewN q := by
  obtain ⟨⟨A, c, hb⟩, hr, _, _⟩ := h
  have c0 := hb.cell 0
  have c1 := hb.cell 1
  have c2 := hb.cell 2
  have c3 := hb.cell 3
  simp only [List.getElem?_toArray, List.getElem?_cons_zero, List.getElem?_cons_succ, List.length_nil] at c0 c1 c2 c3
  have hd : decide ((n : Int) < 1) = false := by simp; omega
  have he : ((off : Int) == -1) = false := by simp
  go_enter Try.func24, Try.ntmps24
  go_wp2_with fail
  go_quiet (fail)
  go_wp2_with fail
  go_ret2
  exact ⟨rfl, _, rfl⟩

theorem src_chg {w w1 : World} {b : Nat} {u0 u3 u4 : Value} (h : Chg (fun _ => False) w w1) : Chg (fun i => i = b) w (((w1.setCell ⟨b, 0, none⟩ u0).setCell ⟨b, 3, none⟩ u3).setCell ⟨b, 4, none⟩ u4) :=
  (((h.mono (U := fun i => i = b) (fun _ _ h => h.elim)).setCell ⟨b, 0, none⟩ u0 (fun _ => rfl)).setCell ⟨b, 3, none⟩ u3 (fun _ => rfl)).setCell ⟨b, 4, none⟩ u4 (fun _ => rfl)

theorem src_own {B : Nat} {w1 : World} {b n : Nat} {v u0 u3 u4 : Value} {xs : List Value} (h : w1.ownsRow 0 5 1 v n xs) (h3 : ∀ i, v.ownBlock = some i → B ≤ i) (hb : b < B) :
    (((w1.setCell ⟨b, 0, none⟩ u0).setCell ⟨b, 3, none⟩ u3).setCell ⟨b, 4, none⟩ u4).ownsRow 0 5 1 v n xs :=
  own_chg h (src_chg (Chg.refl _ w1)) (fun k hk e => by have := h3 k hk; omega)

theorem src_close {w w1 : World} {b : Nat} {RA A : Option Addr} {rc c off reads k : Nat} {l : List UInt8} (hb : Blk w b #[.slice RA l.length rc, .slice A 0 c, .int .i64 (-1), .int .i64 off, .int .i64 reads] 71)
    (hr : Rd w RA (by8 l)) (h : Chg (fun _ => False) w w1) (hk : k ≤ l.length) (hc : l.length ≤ rc) (hne : ∀ ad, RA = some ad → ad.block ≠ b) :
    IsSrc (((w1.setCell ⟨b, 0, none⟩ (.slice (RA.map (·.add k)) (l.length - k) (rc - k))).setCell ⟨b, 3, none⟩ (.int .i64 ((off : Int) + k))).setCell ⟨b, 4, none⟩ (.int .i64 ((reads : Int) + 1))) b (RA.map (·.add k)) (rc - k) (l.drop k) (off + k) (reads + 1) := by
  have hoff : ∀ ad, RA.map (·.add k) = some ad → ad.block ≠ b := by
    intro ad e
    obtain ⟨ad0, e0, rfl⟩ := Option.map_eq_some_iff.1 e
    have := hne ad0 e0
    unfold Addr.add; split <;> simpa using this
  refine ⟨⟨A, c, ?_⟩, ?_, by rw [List.length_drop]; omega, fun ad e _ => hoff ad e⟩
  · have := (((hb.chg h (fun h => h)).set 0 (.slice (RA.map (·.add k)) (l.length - k) (rc - k))).set 3 (.int .i64 ((off : Int) + k))).set 4 (.int .i64 ((reads : Int) + 1))
    rw [List.length_drop]
    simpa using this
  · have h1 := hr.drop k
    rw [← by8_drop] at h1
    exact h1.chg (src_chg h) (fun ad e hh => hoff ad e hh)

theorem src_close_all {w w1 : World} {b : Nat} {RA A : Option Addr} {rc c off reads k : Nat} {l : List UInt8} (hb : Blk w b #[.slice RA l.length rc, .slice A 0 c, .int .i64 (-1), .int .i64 off, .int .i64 reads] 71)
    (hk : l.length ≤ k) (h : Chg (fun _ => False) w w1) (hne : ∀ ad, RA = some ad → ad.block ≠ b) :
    IsSrc (((w1.setCell ⟨b, 0, none⟩ (.slice RA 0 0)).setCell ⟨b, 3, none⟩ (.int .i64 ((off : Int) + k))).setCell ⟨b, 4, none⟩ (.int .i64 ((reads : Int) + 1))) b RA 0 (l.drop k) (off + k) (reads + 1) := by
  have e0 : l.drop k = [] := List.drop_eq_nil_of_le hk
  rw [e0]
  refine ⟨⟨A, c, ?_⟩, .inl rfl, Nat.zero_le _, fun ad e h => absurd rfl h⟩
  have := (((hb.chg h (fun h => h)).set 0 (.slice RA 0 0)).set 3 (.int .i64 ((off : Int) + k))).set 4 (.int .i64 ((reads : Int) + 1))
  simpa using this

theorem src_addr {RA : Option Addr} {k : Nat} : ∀ ad, RA.map (·.add k) = some ad → ∃ ad0, RA = some ad0 ∧ ad.block = ad0.block := by
  intro ad e
  obtain ⟨ad0, e0, rfl⟩ := Option.map_eq_some_iff.1 e
  exact ⟨ad0, e0, by unfold Addr.add; split <;> rfl⟩

set_option maxHeartbeats 1000000 in
theorem srcRead_some (b : Nat) (RA : Option Addr) (rc off reads n k : Nat) (l : List UInt8) (w : World) (h : IsSrc w b RA rc l off reads) (hn : 1 ≤ n) (hn2 : n ≤ 100000) (hl0 : l ≠ []) (hl : l.length ≤ 100000) (hk : k = min n l.length)
    (ho : off ≤ 100000) (hrd : reads ≤ 100000) :
    Calls Try.prog 24 #[.pointer (some ⟨b, 0, none⟩), .int .i64 n] w fun e w' => ∃ A' c' RA' rc', e = .returned (.tuple #[.slice A' k c', .int .i64 0]) ∧ w'.ownsRow 0 5 1 (.slice A' k c') k (by8 (l.take k)) ∧ (∀ i, (Value.slice A' k c').ownBlock = some i → w.heap.size ≤ i) ∧
      IsSrc w' b RA' rc' (l.drop k) (off + k) (reads + 1) ∧ Chg (fun i => i = b) w w' ∧ (∀ ad, RA' = some ad → ∃ ad0, RA = some ad0 ∧ ad.block = ad0.block) := by
  obtain ⟨⟨A, c, hb⟩, hr, hcap, hne⟩ := h
  have hpos : 0 < l.length := by cases hh : l with | nil => exact absurd hh hl0 | cons a t => simp
  have c0 := hb.cell 0
  have c1 := hb.cell 1
  have c2 := hb.cell 2
  have c3 := hb.cell 3
  have c4 := hb.cell 4
  simp only [List.getElem?_toArray, List.getElem?_cons_zero, List.getElem?_cons_succ] at c0 c1 c2 c3 c4
  have f0 := hb.free 0
  have f3 := hb.free 3
  have f4 := hb.free 4
  have hd : decide ((n : Int) < 1) = false := by simp; omega
  have he : ((off : Int) == -1) = false := by simp
  have hz : ((l.length : Int) == 0) = false := by simpa using hl0
  have hk1 : k ≤ l.length := by omega
  have hk0 : 0 < k := by omega
  have hn3 : (n : Int) ≤ 1048576 := by omega
  have hsub : (-1 : Int) - off ≤ 0 := by omega
  have hOne := by8_one (l.take k)
  have hRt := hr.take k
  rw [← by8_take] at hRt
  have hlt : (l.take k).length = k := by rw [List.length_take]; omega
  have hRA : RA = none → l.length = 0 := by
    intro e; rcases hr with h | ⟨g, off, h, _⟩
    · have := by8_length l; rw [h] at this; simpa using this.symm
    · rw [e] at h; cases h
  have HB := Lib.hid hb; clear hb
  have HR := Lib.hid hr; clear hr
  have hcall := fun W (hW : Chg (fun _ => False) w W) => clone8_any RA k rc (by8 (l.take k)) W (by rw [by8_length]; exact hlt) (by omega) hOne (hRt.chg hW (fun _ _ h => h)) (fun e => by have := hRA e; omega)
  have HC := Lib.hid hcall; clear hcall hOne hRt hlt hRA
  have hkc : (k : Int) ≤ rc := by omega
  by_cases hnl : l.length < n
  · obtain rfl : k = l.length := by omega
    clear hk
    go_enter Try.func24, Try.ntmps24
    go_wp2_with fail
    go_quiet (fail)
    go_wp2_with fail
    go_quiet ((go_at_call 27; first | exact quietS rfl (srcChunk b c A _ c1) | exact Calls.quiet_of_same (srcChunk b c A _ c1)))
    go_wp2_with fail
    go_quiet (fail)
    go_wp2_with (go_at_call 23; refine (HC.out _ ?hW).mono ?_)
    case hW => exact (Chg.refl _ _).drewN _
    rintro e w1 ⟨A', c', rfl, h1, h2, h3⟩
    have h2 := h2.of_drewN
    have d0 := cell_keep h2 c0
    have d3 := cell_keep h2 c3
    have d4 := cell_keep h2 c4
    have hbl := World.block_lt_of_cell? w _ c0
    have g0 := free_keep h2 (a := ⟨b, 0, none⟩) hbl f0
    have g3 := free_keep h2 (a := ⟨b, 3, none⟩) hbl f3
    have g4 := free_keep h2 (a := ⟨b, 4, none⟩) hbl f4
    have H1 := Lib.hid h1; clear h1
    have H3 := Lib.hid h3; clear h3
    by_cases hck : rc = l.length
    · obtain rfl : rc = l.length := hck
      go_wp2_with fail
      go_ret2
      exact ⟨A', c', RA, 0, rfl, src_own H1.out H3.out hbl, H3.out, src_close_all HB.out (Nat.le_refl _) h2 (fun ad e => hne ad e hl0), src_chg h2, fun ad e => ⟨ad, e, rfl⟩⟩
    · go_wp2_with fail
      go_ret2
      have hs := src_close (k := l.length) HB.out HR.out h2 (Nat.le_refl _) hcap (fun ad e => hne ad e hl0)
      rw [Nat.sub_self] at hs
      exact ⟨A', c', _, _, rfl, src_own H1.out H3.out hbl, H3.out, hs, src_chg h2, src_addr⟩
  · obtain rfl : k = n := by omega
    clear hk
    go_enter Try.func24, Try.ntmps24
    go_wp2_with fail
    go_quiet (fail)
    go_wp2_with fail
    go_quiet ((go_at_call 27; first | exact quietS rfl (srcChunk b c A _ c1) | exact Calls.quiet_of_same (srcChunk b c A _ c1)))
    go_wp2_with fail
    go_quiet (fail)
    go_wp2_with (go_at_call 23; refine (HC.out _ ?hW).mono ?_)
    case hW => exact (Chg.refl _ _).drewN _
    rintro e w1 ⟨A', c', rfl, h1, h2, h3⟩
    have h2 := h2.of_drewN
    have d0 := cell_keep h2 c0
    have d3 := cell_keep h2 c3
    have d4 := cell_keep h2 c4
    have hbl := World.block_lt_of_cell? w _ c0
    have g0 := free_keep h2 (a := ⟨b, 0, none⟩) hbl f0
    have g3 := free_keep h2 (a := ⟨b, 3, none⟩) hbl f3
    have g4 := free_keep h2 (a := ⟨b, 4, none⟩) hbl f4
    have H1 := Lib.hid h1; clear h1
    have H3 := Lib.hid h3; clear h3
    by_cases hck : rc = k
    · subst hck
      go_wp2_with fail
      go_ret2
      exact ⟨A', c', RA, 0, rfl, src_own H1.out H3.out hbl, H3.out, src_close_all HB.out (by omega) h2 (fun ad e => hne ad e hl0), src_chg h2, fun ad e => ⟨ad, e, rfl⟩⟩
    · go_wp2_with fail
      go_ret2
      exact ⟨A', c', _, _, rfl, src_own H1.out H3.out hbl, H3.out, src_close HB.out HR.out h2 (by omega) hcap (fun ad e => hne ad e hl0), src_chg h2, src_addr⟩
end Go.Proofs.Ytgbpoehhikiieaa
