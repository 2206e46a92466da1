/- The reference's New: its error. -/
import Derived.Test.YtfkfeoocglcjgaaGreatDoorVAlv
set_option linter.unusedVariables false
set_option linter.unusedSimpArgs false
namespace Go.Proofs.YtfkfeoocglcjgaaGreatDoor
open Go.RowKit

theorem infoInt : (Tryz.prog.info? 3).map (fun i => (i.zero, i.size, i.bytes)) = some (some (.int .i64 0), 1, 8) := by kernel_rfl
theorem i64s_length (l : List Int) : (i64s l).length = l.length := by simp [i64s]
theorem i64s_one (l : List Int) : ∀ u ∈ i64s l, u.oneCell' = true := by
  intro u hu
  obtain ⟨b, _, rfl⟩ := List.mem_map.1 hu
  rfl

structure NegRel (p : Value) (n : Nat) (l : List Int) : Prop where
  out : ∃ k : Nat, p = .int .i64 k ∧ k ≤ n ∧ ∀ j, j < k → ¬ l.getD j 0 < 0

set_option maxRecDepth 100000 in
set_option maxHeartbeats 4000000 in
theorem RNew_opt (first step : Int) (A : Option Addr) (n c : Nat) (l : List Int) (w : World) (hbad : first < 1 ∨ 1000000 < first ∨ step < 1 ∨ 1000000 < step) :
    Calls Tryz.prog 9 #[.int .i64 first, .int .i64 step, .slice A n c] w fun e w' => e = .returned (.tuple #[.pointer none, .int .i64 2]) ∧ Chg (fun _ => False) w w' := by
  by_cases h1 : first < 1
  · have t1 : decide (first < 1) = true := by simpa using h1
    clear h1 hbad
    go_enter Tryz.func9, Tryz.ntmps9
    go_wp2_with fail
    go_ret2
    exact ⟨rfl, Chg.refl _ _⟩
  · have t1 : decide (first < 1) = false := by simpa using h1
    by_cases h2 : 1000000 < first
    · have t2 : decide (1000000 < first) = true := by simpa using h2
      clear h1 hbad
      go_enter Tryz.func9, Tryz.ntmps9
      go_wp2_with fail
      go_ret2
      exact ⟨rfl, Chg.refl _ _⟩
    · have t2 : decide (1000000 < first) = false := by simpa using h2
      by_cases h3 : step < 1
      · have t3 : decide (step < 1) = true := by simpa using h3
        clear h1 h2 hbad
        go_enter Tryz.func9, Tryz.ntmps9
        go_wp2_with fail
        go_ret2
        exact ⟨rfl, Chg.refl _ _⟩
      · have t3 : decide (step < 1) = false := by simpa using h3
        have t4 : decide (1000000 < step) = true := by simp; omega
        clear h1 h2 h3 hbad
        go_enter Tryz.func9, Tryz.ntmps9
        go_wp2_with fail
        go_ret2
        exact ⟨rfl, Chg.refl _ _⟩

/-- What is behind the loop over the rotations. -/
def RNewPost (w : World) (first step : Int) (l : List Int) (e : Ending) (w' : World) : Prop :=
  (anyNeg l = true ∧ e = .returned (.tuple #[.pointer none, .int .i64 2]) ∨ anyNeg l = false ∧ ∃ p, e = .returned (.tuple #[p, .int .i64 0])) ∧ Chg (fun _ => False) w w'

set_option maxRecDepth 100000 in
set_option maxHeartbeats 4000000 in
theorem RNew_loop (first step : Int) (A : Option Addr) (n c : Nat) (l : List Int) (w : World) (hn : l.length = n) (hb : n ≤ 1000000) (hl : Rd w A (i64s l)) (hA : A = none → n = 0)
    (hf1 : 1 ≤ first) (hf2 : first ≤ 1000000) (hs1 : 1 ≤ step) (hs2 : step ≤ 1000000) :
    Calls Tryz.prog 9 #[.int .i64 first, .int .i64 step, .slice A n c] w (RNewPost w first step l) := by
  obtain ⟨i0, hi, hz0, hz1, hz2⟩ := info_parts infoInt
  have t1 : decide (first < 1) = false := by simp; omega
  have t2 : decide (1000000 < first) = false := by simp; omega
  have t3 : decide (step < 1) = false := by simp; omega
  have t4 : decide (1000000 < step) = false := by simp; omega
  have HL := Lib.hid hl; clear hl
  have HA := Lib.hid hA; clear hA
  have HN := Lib.hid hn; clear hn
  go_enter Tryz.func9, Tryz.ntmps9
  go_wp2_with fail
  go_loopw [8] (fun p wr => NegRel p n l ∧ wr = w) (fun p _ => n - (match p with | .int _ k => k.toNat | _ => 0))
  case atStart => exact ⟨⟨0, rfl, Nat.zero_le _, fun j hj => absurd hj (Nat.not_lt_zero _)⟩, rfl⟩
  case round =>
    obtain ⟨⟨k, rfl, hk, hpos⟩, rfl⟩ := hrel
    by_cases hkn : k < n
    · have hkb : IntKind.i64.wrap ((k : Int) + 1) = k + 1 := by rw [IntKind.wrap_i64]; omega
      have i0 : (0 : Int) ≤ k := by omega
      have i1 : (k : Int) < n := by omega
      have tk : decide ((k : Int) < n) = true := by simpa using hkn
      obtain ⟨g, off, rfl, hc⟩ : ∃ g off, A = some ⟨g, off, none⟩ ∧ wr.cell? ⟨g, off + k, none⟩ = some (.int .i64 (l.getD k 0)) := by
        rcases HL.out with h | ⟨g, off, rfl, h⟩
        · have : l = [] := by simpa [i64s] using h
          subst this; have := HN.out; simp at this; omega
        · exact ⟨g, off, rfl, h k _ (by simp [i64s, List.getD_eq_getElem?_getD, List.getElem?_eq_getElem (show k < l.length by have := HN.out; omega)])⟩
      generalize hv : l.getD k 0 = v at hc
      by_cases hneg : v < 0
      · have t5 : decide (v < 0) = true := by simpa using hneg
        have HP := Lib.hid hpos; clear hpos
        have HV := Lib.hid hv; clear hv
        clear hneg
        go_wp2_with fail
        go_ret2
        refine ⟨.inl ⟨?_, rfl⟩, Chg.refl _ _⟩
        cases hh : anyNeg l with
        | true => rfl
        | false => have := (anyNeg_false l).1 hh k (by have := HN.out; omega); rw [HV.out] at this; simp at t5; omega
      · have t5 : decide (v < 0) = false := by simpa using hneg
        have HP := Lib.hid hpos; clear hpos
        have HV := Lib.hid hv; clear hv
        go_wp2_with fail
        go_roundw
        case rel =>
          refine ⟨⟨k + 1, by simp, hkn, fun j hj => ?_⟩, by trivial⟩
          rcases Nat.lt_or_ge j k with h | h
          · exact HP.out j h
          · have e : j = k := by omega
            rw [e, HV.out]; omega
        case measure => simp; omega
    · have tk : decide ((k : Int) < n) = false := by simp; omega
      have hneg : anyNeg l = false := (anyNeg_false l).2 (fun j hj => by have := hpos j (by have := HN.out; omega); omega)
      have HP := Lib.hid (And.intro hpos hneg); clear hpos hneg
      by_cases h0 : n = 0
      · subst h0
        cases A with
        | none =>
          go_wp2_with fail
          go_ret2
          refine ⟨.inr ⟨HP.out.2, _, rfl⟩, ?_⟩
          exact ((((Chg.refl _ _).alloc _).alloc _).alloc _).alloc _
        | some ad =>
          go_wp2_with fail
          go_ret2
          refine ⟨.inr ⟨HP.out.2, _, rfl⟩, ?_⟩
          exact ((((Chg.refl _ _).alloc _).alloc _).alloc _).alloc _
      · obtain ⟨g, off, rfl, hc⟩ : ∃ g off, A = some ⟨g, off, none⟩ ∧ ∀ j u, (i64s l)[j]? = some u → wr.cell? ⟨g, off + j, none⟩ = some u := by
          rcases HL.out with h | h
          · have : l = [] := by simpa [i64s] using h
            subst this; have := HN.out; simp at this; omega
          · exact h
        have hnews : ∀ j u, (i64s l)[j]? = some u → (wr.alloc (.cells #[] 3)).cell? ((⟨g, off, none⟩ : Addr).add j) = some u := by
          intro j u hu
          rw [show ((⟨g, off, none⟩ : Addr).add j) = ⟨g, off + j, none⟩ by unfold Addr.add; split <;> simp_all]
          exact cell_keep ((Chg.refl _ wr).alloc _) (hc j u hu)
        have HNw := Lib.hid hnews; clear hnews hc
        have HO := Lib.hid (i64s_one l)
        have HLn := Lib.hid (show (i64s l).length = n * 1 by rw [i64s_length]; have := HN.out; omega)
        go_wp2_with (first | (at_builtin; refine wpList_append_lies _ rfl (.tmp 37) (.tmp 38) 28 rfl 0 3 i0 (.int .i64 0) 1 8 Tryz.underlying28 hi hz0 hz1 hz2 rfl (by decide) (.slice (some ⟨wr.heap.size, 0, none⟩) 0 0) 0 [] rfl (World.ownsRow_lit wr #[] 0 (Nat.zero_le _) (Nat.zero_le _) rfl) ⟨g, off, none⟩ n c (i64s l) rfl HLn.out HNw.out HO.out (by omega) ?b1 ?b2 (Nat.zero_le _) _ rfl ?_))
        case b1 => unfold maxLen; omega
        case b2 => omega
        intro kk cap w1 hown hgrow hor hkk
        have hc1 : Chg (fun _ => False) wr w1 := chg_grown ((Chg.refl _ wr).alloc _) hgrow (own_ge (Nat.le_refl _))
        have HC := Lib.hid hc1
        clear hown hgrow hor hkk hc1
        go_wp2
        go_ret2
        refine ⟨.inr ⟨HP.out.2, _, rfl⟩, ?_⟩
        exact ((HC.out.alloc _).alloc _).alloc _

theorem RNew_err (first step : Int) (A : Option Addr) (n c : Nat) (l : List Int) (w : World) (hn : l.length = n) (hb : n ≤ 1000000) (hl : Rd w A (i64s l)) (hA : A = none → n = 0) :
    Calls Tryz.prog 9 #[.int .i64 first, .int .i64 step, .slice A n c] w fun e w' => (∃ p, e = .returned (.tuple #[p, .int .i64 (newErr first step l)])) ∧ Chg (fun _ => False) w w' := by
  by_cases h : first < 1 ∨ 1000000 < first ∨ step < 1 ∨ 1000000 < step
  · refine (RNew_opt first step A n c l w h).mono ?_
    rintro e w' ⟨rfl, hc⟩
    exact ⟨⟨_, by unfold newErr; rw [if_pos (by omega)]⟩, hc⟩
  · refine (RNew_loop first step A n c l w hn hb hl hA (by omega) (by omega) (by omega) (by omega)).mono ?_
    rintro e w' ⟨⟨ha, rfl⟩ | ⟨ha, p, rfl⟩, hc⟩
    · exact ⟨⟨_, by unfold newErr; rw [if_pos (.inr (.inr (.inr (.inr ha))))]⟩, hc⟩
    · exact ⟨⟨p, by unfold newErr; rw [if_neg (by rw [ha]; simp; omega)]⟩, hc⟩
end Go.Proofs.YtfkfeoocglcjgaaGreatDoor
