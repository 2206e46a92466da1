/- slices.Clone at bytes. -/
import Derived.Test.YtfkfeoocglcjgaaGreatDoorBase
set_option linter.unusedVariables false
set_option linter.unusedSimpArgs false
namespace Go.Proofs.YtfkfeoocglcjgaaGreatDoor
open Go.RowKit

theorem infoU8 : (Tryz.prog.info? 5).map (fun i => (i.zero, i.size, i.bytes)) = some (some (.int .u8 0), 1, 1) := by kernel_rfl
theorem chg_grown {w W w2 : World} {row : Option Nat} (h : Chg (fun _ => False) w W) (hg : W.grownBy w2 row) (hr : ∀ k, row = some k → w.heap.size ≤ k) : Chg (fun _ => False) w w2 :=
  ⟨hg.os.trans h.os, hg.tape.trans h.tape, hg.output.trans h.output, Nat.le_trans h.size hg.size, fun k hk _ =>
    (hg.block k (Nat.lt_of_lt_of_le hk h.size) (fun e => by have := hr k e.symm; omega)).trans (h.block k hk (fun h => h))⟩

set_option maxHeartbeats 400000 in
theorem clone8 (g off n c : Nat) (l : List Value) (w : World) (hn : l.length = n) (h0 : 0 < n) (hb : n ≤ 100000000) (hone : ∀ u ∈ l, u.oneCell' = true) (hl : ∀ j u, l[j]? = some u → w.cell? ⟨g, off + j, none⟩ = some u) :
    Calls Tryz.prog 52 #[.slice (some ⟨g, off, none⟩) n c] w fun e w' => ∃ k cap, e = .returned (.slice (some ⟨k, 0, none⟩) n cap) ∧ w'.ownsRow 0 5 1 (.slice (some ⟨k, 0, none⟩) n cap) n l ∧ w.heap.size ≤ k ∧ Chg (fun _ => False) w w' := by
  obtain ⟨i0, hi, hz0, hz1, hz2⟩ := info_parts infoU8
  have hnl : l.length = n * 1 := by omega
  have hnews : ∀ j u, l[j]? = some u → (w.alloc (.cells #[] 5)).cell? ((⟨g, off, none⟩ : Addr).add j) = some u := by
    intro j u hu
    rw [show ((⟨g, off, none⟩ : Addr).add j) = ⟨g, off + j, none⟩ by unfold Addr.add; split <;> simp_all]
    exact cell_keep ((Chg.refl _ w).alloc _) (hl j u hu)
  have hen := fun wx => Lib.run_eql_slice_nil (P := Tryz.prog) wx 24 5 (some ⟨g, off, none⟩) n c 0 0 Tryz.underlying24
  have HL := Lib.hid hnews; clear hnews hl hn
  have HN := Lib.hid hnl; clear hnl
  have HO := Lib.hid hone; clear hone
  go_enter Tryz.func52, Tryz.ntmps52
  go_wp2_with (first | (at_builtin; refine wpList_append_lies _ rfl (.tmp 5) (.tmp 6) 24 rfl 0 5 i0 (.int .u8 0) 1 1 Tryz.underlying24 hi hz0 hz1 hz2 rfl (by decide) (.slice (some ⟨w.heap.size, 0, none⟩) 0 0) 0 [] rfl (World.ownsRow_lit w #[] 0 (Nat.zero_le _) (Nat.zero_le _) rfl) ⟨g, off, none⟩ n c l rfl HN.out HL.out HO.out h0 ?b1 ?b2 (Nat.zero_le _) _ rfl ?_))
  case b1 => unfold maxLen; omega
  case b2 => omega
  intro k cap w1 hown hgrow hor hk
  have hw1 : w.heap.size ≤ k := own_or hor (Nat.le_refl _) (by simp)
  have hc : Chg (fun _ => False) w w1 := chg_grown ((Chg.refl _ w).alloc _) hgrow (own_ge (Nat.le_refl _))
  try simp only [Nat.zero_add, List.nil_append] at hown
  have HOwn := Lib.hid hown; clear hown
  have HC := Lib.hid hc; clear hc hgrow hor
  go_wp2
  go_ret
  exact ⟨k, cap, by simp, HOwn.out, hw1, HC.out⟩

theorem clone8_nil (n' c' : Nat) (w : World) :
    Calls Tryz.prog 52 #[.slice none n' c'] w fun e w' => e = .returned (.slice none 0 0) ∧ w' = w := by
  have hen := fun wx => Lib.run_eql_slice_nil (P := Tryz.prog) wx 24 5 none n' c' 0 0 Tryz.underlying24
  go_enter Tryz.func52, Tryz.ntmps52
  go_wp2_with fail
  go_ret
  exact ⟨rfl, rfl⟩

theorem clone8_zero (a : Addr) (c : Nat) (w : World) :
    Calls Tryz.prog 52 #[.slice (some a) 0 c] w fun e w' => e = .returned (.slice (some ⟨w.heap.size, 0, none⟩) 0 0) ∧ w' = w.alloc (.cells #[] 5) := by
  have hen := fun wx => Lib.run_eql_slice_nil (P := Tryz.prog) wx 24 5 (some a) 0 c 0 0 Tryz.underlying24
  go_enter Tryz.func52, Tryz.ntmps52
  go_wp2_with fail
  go_ret
  exact ⟨rfl, rfl⟩

theorem clone8_any (A : Option Addr) (n c : Nat) (l : List Value) (w : World) (hn : l.length = n) (hb : n ≤ 100000000) (hone : ∀ u ∈ l, u.oneCell' = true) (hl : Rd w A l) (hA : A = none → n = 0) :
    Calls Tryz.prog 52 #[.slice A n c] w fun e w' => ∃ A' c', e = .returned (.slice A' n c') ∧ w'.ownsRow 0 5 1 (.slice A' n c') n l ∧ Chg (fun _ => False) w w' ∧ (∀ k, (Value.slice A' n c').ownBlock = some k → w.heap.size ≤ k) := by
  by_cases h0 : 0 < n
  · rcases hl with h | ⟨g, off, rfl, h⟩
    · subst h; simp at hn; omega
    · refine (clone8 g off n c l w hn h0 hb hone h).mono ?_
      rintro e w' ⟨k, cap, rfl, h1, h2, h3⟩
      exact ⟨_, _, rfl, h1, h3, own_ge h2⟩
  · obtain rfl : n = 0 := by omega
    obtain rfl : l = [] := List.eq_nil_of_length_eq_zero hn
    cases A with
    | none =>
      refine (clone8_nil 0 c w).mono ?_
      rintro e w' ⟨rfl, rfl⟩
      exact ⟨none, 0, rfl, World.ownsRow_nil _ _ _ _, Chg.refl _ _, fun k hk => by cases hk⟩
    | some a =>
      refine (clone8_zero a c w).mono ?_
      rintro e w' ⟨rfl, rfl⟩
      exact ⟨_, _, rfl, World.ownsRow_lit w #[] 0 (Nat.zero_le _) (Nat.zero_le _) rfl, (Chg.refl _ _).alloc _, own_ge (Nat.le_refl _)⟩

end Go.Proofs.YtfkfeoocglcjgaaGreatDoor
