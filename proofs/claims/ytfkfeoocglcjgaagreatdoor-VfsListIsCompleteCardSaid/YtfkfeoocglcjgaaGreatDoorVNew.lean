/- vfs.New. -/
import Derived.Test.YtfkfeoocglcjgaaGreatDoorVLnk
set_option linter.unusedVariables false
set_option linter.unusedSimpArgs false
namespace Go.Proofs.YtfkfeoocglcjgaaGreatDoor
open Go.RowKit

theorem neg_spec (n : Int) (w : World) : Calls Tryz.prog 25 #[.int .i64 n] w fun e w' => e = .returned (.bool (decide (n < 0))) ∧ w' = w := by
  go_enter Tryz.func25, Tryz.ntmps25
  go_wp2
  go_ret
  exact ⟨rfl, rfl⟩

structure IdxRel (p : Value) (n : Nat) (l : List Int) : Prop where
  out : ∃ k : Nat, p = .int .i64 k ∧ k ≤ n ∧ ∀ j, j < k → 0 ≤ l.getD j 0

theorem IndexFunc_zero (A : Option Addr) (c : Nat) (w : World) :
    Calls Tryz.prog 51 #[.slice A 0 c, .func (.func 25) #[] #[]] w fun e w' => e = .returned (.int .i64 (-1)) ∧ w' = w := by
  go_enter Tryz.func51, Tryz.ntmps51
  go_wp2_with fail
  go_loopw [8] (fun p wr => p = .int .i64 0 ∧ wr = w) (fun p _ => 0)
  case atStart => exact ⟨rfl, rfl⟩
  case round =>
    obtain ⟨rfl, rfl⟩ := hrel
    go_wp2_with fail
    go_ret
    exact ⟨rfl, rfl⟩

theorem IndexFunc_spec (n c : Nat) (l : List Int) (w : World) (hn : l.length = n) (hb : n ≤ 1000000) (g off : Nat) (hl' : ∀ j, j < n → w.cell? ⟨g, off + j, none⟩ = some (.int .i64 (l.getD j 0))) :
    Calls Tryz.prog 51 #[.slice (some ⟨g, off, none⟩) n c, .func (.func 25) #[] #[]] w fun e w' => ∃ r : Int, e = .returned (.int .i64 r) ∧ (r = -1 ↔ ∀ j, j < n → 0 ≤ l.getD j 0) ∧ -1 ≤ r ∧ w' = w := by
  go_enter Tryz.func51, Tryz.ntmps51
  go_wp2_with fail
  go_loopw [8] (fun p wr => IdxRel p n l ∧ wr = w) (fun p _ => n - (match p with | .int _ k => k.toNat | _ => 0))
  case atStart => exact ⟨⟨0, rfl, Nat.zero_le _, fun j hj => absurd hj (Nat.not_lt_zero _)⟩, rfl⟩
  case round =>
    obtain ⟨⟨k, rfl, hk, hpos⟩, rfl⟩ := hrel
    by_cases hkn : k < n
    · have t1 : decide ((k : Int) < n) = true := by simpa using hkn
      have hc := hl' k hkn
      have hkb : IntKind.i64.wrap ((k : Int) + 1) = k + 1 := by rw [IntKind.wrap_i64]; omega
      have i0 : (0 : Int) ≤ k := by omega
      have i1 : (k : Int) < n := by omega
      generalize hv : l.getD k 0 = v at hc
      by_cases hneg : v < 0
      · have t2 : decide (v < 0) = true := by simpa using hneg
        have HP := Lib.hid hpos; clear hpos
        have HL := Lib.hid hl'; clear hl'
        clear hneg
        go_wp2_with (go_at_call 25; refine (neg_spec v _).mono ?_; rintro e w' ⟨rfl, rfl⟩)
        go_ret
        refine ⟨k, rfl, ⟨fun h => by omega, fun h => by have := h k hkn; rw [hv] at this; simp at t2; omega⟩, by omega, rfl⟩
      · have t2 : decide (v < 0) = false := by simpa using hneg
        have HP := Lib.hid hpos; clear hpos
        have HL := Lib.hid hl'; clear hl'
        go_wp2_with (go_at_call 25; refine (neg_spec v _).mono ?_; rintro e w' ⟨rfl, rfl⟩)
        go_roundw
        case rel =>
          refine ⟨⟨k + 1, by simp, hkn, fun j hj => ?_⟩, by trivial⟩
          rcases Nat.lt_or_ge j k with h | h
          · exact HP.out j h
          · have e : j = k := by omega
            rw [e, hv]; omega
        case measure => simp; omega
    · have t1 : decide ((k : Int) < n) = false := by simp; omega
      have HP := Lib.hid hpos; clear hpos
      have HL := Lib.hid hl'; clear hl'
      go_wp2_with fail
      go_ret
      exact ⟨-1, rfl, ⟨fun _ j hj => HP.out j (by omega), fun _ => rfl⟩, by omega, rfl⟩

/-- What ContainsFunc of New$1 answers. -/
def anyNeg (l : List Int) : Bool := l.any fun x => decide (x < 0)
theorem anyNeg_false (l : List Int) : anyNeg l = false ↔ ∀ j, j < l.length → 0 ≤ l.getD j 0 := by
  unfold anyNeg
  rw [List.any_eq_false]
  constructor
  · intro h j hj
    have := h (l.getD j 0) (by rw [List.getD_eq_getElem?_getD, List.getElem?_eq_getElem hj]; exact List.getElem_mem hj)
    simpa using this
  · intro h x hx
    obtain ⟨j, hj, rfl⟩ := List.mem_iff_getElem.1 hx
    have := h j hj
    rw [List.getD_eq_getElem?_getD, List.getElem?_eq_getElem hj] at this
    simpa using this

theorem ContainsFunc_spec (A : Option Addr) (n c : Nat) (l : List Int) (w : World) (hn : l.length = n) (hb : n ≤ 1000000) (hl : Rd w A (i64s l)) :
    Calls Tryz.prog 24 #[.slice A n c, .func (.func 25) #[] #[]] w fun e w' => e = .returned (.bool (anyNeg l)) ∧ w' = w := by
  by_cases h0 : n = 0
  · subst h0
    obtain rfl : l = [] := List.eq_nil_of_length_eq_zero hn
    have e1 : anyNeg [] = false := rfl
    rw [e1]; clear hl e1
    go_enter Tryz.func24, Tryz.ntmps24
    go_wp2_with (go_at_call 51; refine (IndexFunc_zero A c w).mono ?_; rintro e w' ⟨rfl, rfl⟩)
    go_ret
    exact ⟨rfl, rfl⟩
  · rcases hl with h | ⟨g, off, rfl, h⟩
    · have : l = [] := by simpa [i64s] using h
      subst this; simp at hn; omega
    · have hI := IndexFunc_spec n c l w hn hb g off (fun j hj => h j _ (by simp [i64s, List.getD_eq_getElem?_getD, List.getElem?_eq_getElem (show j < l.length by omega)]))
      clear h
      go_enter Tryz.func24, Tryz.ntmps24
      go_wp2_with (go_at_call 51; refine hI.mono ?_; rintro e w' ⟨r, rfl, hr, hr1, rfl⟩)
      go_ret
      refine ⟨?_, rfl⟩
      have e1 : decide (0 ≤ r) = anyNeg l := by
        cases ha : anyNeg l with
        | false => have := hr.2 (by rw [← hn]; exact (anyNeg_false l).1 ha); simp; omega
        | true =>
          have : r ≠ -1 := fun e => by have := (anyNeg_false l).2 (by rw [hn]; exact hr.1 e); rw [ha] at this; cases this
          simp; omega
      rw [← e1]; rfl

theorem clone64_any (A : Option Addr) (n c : Nat) (l : List Int) (w : World) (hn : l.length = n) (hb : n ≤ 1000000) (hl : Rd w A (i64s l)) (hA : A = none → n = 0) :
    Calls Tryz.prog 26 #[.slice A n c] w fun e w' => ∃ A' c', e = .returned (.slice A' n c') ∧ w'.ownsRow 0 3 1 (.slice A' n c') n (i64s l) ∧ Chg (fun _ => False) w w' ∧ (∀ k, (Value.slice A' n c').ownBlock = some k → w.heap.size ≤ k) := by
  have own0 : ∀ {w' : World} {v' : Value} {xs : List Value}, w'.ownsRow w.heap.size 3 1 v' n xs → w'.ownsRow 0 3 1 v' n xs ∧ (∀ k, v'.ownBlock = some k → w.heap.size ≤ k) := by
    intro w' v' xs ⟨h1, h2⟩
    refine ⟨⟨h1, ?_⟩, ?_⟩
    · rcases h2 with h2 | ⟨g, cap, cur, e, _, h3⟩
      · exact .inl h2
      · exact .inr ⟨g, cap, cur, e, Nat.zero_le _, h3⟩
    · intro k hk
      rcases h2 with ⟨e, _⟩ | ⟨g, cap, cur, e, h3, _⟩
      · rw [e] at hk; cases hk
      · rw [e] at hk; have := own_blk_eq hk; omega
  by_cases h0 : 0 < n
  · rcases hl with h | ⟨g, off, rfl, h⟩
    · have : l = [] := by simpa [i64s] using h
      subst this; simp at hn; omega
    · refine (Tryz.slices_Clone_int g off n c l w (by omega) (by omega) (fun j hj => h j _ (by simp [i64s, List.getD_eq_getElem?_getD, List.getElem?_eq_getElem hj]))).mono ?_
      rintro e w' ⟨v', rfl, h1, h2, h3⟩
      rw [List.take_of_length_le (by omega)] at h1
      have h1b := (own0 h1).1
      obtain ⟨A', c', rfl, _, _⟩ := own_form h1b
      exact ⟨A', c', rfl, (own0 h1).1, (Chg.of_below h3).mono (fun k hk h => by omega), (own0 h1).2⟩
  · obtain rfl : n = 0 := by omega
    obtain rfl : l = [] := List.eq_nil_of_length_eq_zero hn
    cases A with
    | none =>
      refine (Tryz.slices_Clone_int_nil 0 c w).mono ?_
      rintro e w' ⟨rfl, rfl⟩
      exact ⟨_, _, rfl, World.ownsRow_nil _ _ _ _, Chg.refl _ _, fun k hk => by cases hk⟩
    | some a =>
      refine (Tryz.slices_Clone_int_zero a c w).mono ?_
      rintro e w' ⟨v', rfl, h1, h2, h3⟩
      have h1b := (own0 h1).1
      obtain ⟨A', c', rfl, _, _⟩ := own_form h1b
      exact ⟨A', c', rfl, (own0 h1).1, (Chg.of_below h3).mono (fun k hk h => by omega), (own0 h1).2⟩
end Go.Proofs.YtfkfeoocglcjgaaGreatDoor
