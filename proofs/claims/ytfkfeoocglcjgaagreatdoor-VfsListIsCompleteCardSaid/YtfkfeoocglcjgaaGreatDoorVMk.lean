/- make, at every input. -/
import Derived.Test.YtfkfeoocglcjgaaGreatDoorVRec
import Derived.Test.YtfkfeoocglcjgaaGreatDoorVChown
set_option linter.unusedVariables false
set_option linter.unusedSimpArgs false
namespace Go.Proofs.YtfkfeoocglcjgaaGreatDoor
open Go.RowKit

theorem placeErr_cases (S : FSt) (p : List UInt8) : S.placeErr p = 0 ∨ S.placeErr p = 13 ∨ S.placeErr p = 14 := by
  unfold FSt.placeErr; split
  · split <;> simp
  · simp

theorem place_bad {S : FSt} {role : Nat → Option (Nat × Nat)} (p : ByteArray) (w : World) (h : IsFS w S role) (hs : p.size < 4611686018427387904) (hne : S.placeErr p.data.toList ≠ 0) :
    Calls Tryz.prog 49 #[.pointer (some ⟨S.B, 0, none⟩), .string p] w fun e w' => e = .returned (.tuple #[.pointer none, .int .i64 (S.placeErr p.data.toList)]) ∧ ∃ k, w' = w.drewN k := by
  cases hF : S.F (parentB p.data.toList) with
  | none =>
    have e1 : S.placeErr p.data.toList = 13 := by unfold FSt.placeErr FSt.kindAt; simp [hF]
    rw [e1]; exact place_none p w h hs hF
  | some b =>
    obtain ⟨i, hi⟩ := h.mem _ _ hF
    by_cases hk : i.kind = 0
    · cases hD : S.F p.data.toList with
      | none => exact absurd (by unfold FSt.placeErr FSt.kindAt; simp [hF, hi, hk, hD]) hne
      | some c =>
        have e1 : S.placeErr p.data.toList = 14 := by unfold FSt.placeErr FSt.kindAt; simp [hF, hi, hk, hD]
        rw [e1]; exact place_dup p w h hs b i hF hi hk c hD
    · have e1 : S.placeErr p.data.toList = 13 := by unfold FSt.placeErr FSt.kindAt; simp [hF, hi, hk]
      rw [e1]; exact place_kind p w h hs b i hF hi hk

theorem place_zero {S : FSt} {role : Nat → Option (Nat × Nat)} {w : World} (h : IsFS w S role) {p : List UInt8} (h0 : S.placeErr p = 0) : ∃ b i, S.F (parentB p) = some b ∧ S.ino b = some i ∧ i.kind = 0 ∧ S.F p = none := by
  unfold FSt.placeErr at h0
  split at h0
  · next hk =>
    split at h0
    · simp at h0
    · next hn =>
      unfold FSt.kindAt at hk
      cases hF : S.F (parentB p) with
      | none => simp [hF] at hk
      | some b =>
        obtain ⟨i, hi⟩ := h.mem _ _ hF
        simp [hF, hi] at hk
        exact ⟨b, i, rfl, hi, hk, by simpa using hn⟩
  · simp at h0

/-- What make answers. -/
def FSt.makeErr (S : FSt) (p : List UInt8) (kind mode : Int) (t : List UInt8) : Int :=
  if pathErr p ≠ 0 then pathErr p else if mode < 0 ∨ 4095 < mode then 16 else if kind = 2 ∧ recErr t ≠ 0 then recErr t else S.placeErr p

theorem kindCell {w : World} {b : Nat} {i : Ino} (h : Blk w b i.cells 91) : w.cell? ⟨b, 0, none⟩ = some (.int .i64 i.kind) := h.cell 0

set_option maxRecDepth 100000 in
set_option maxHeartbeats 2000000 in
theorem make_bad {S : FSt} {role : Nat → Option (Nat × Nat)} (p : ByteArray) (kind mode : Int) (target : ByteArray) (dv : Value) (w : World) (h : IsFS w S role) (hs : p.size < 4611686018427387904) (hk : kind = 2 → Keys w ∧ target.size ≤ maxLen)
    (herr : S.makeErr p.data.toList kind mode target.data.toList ≠ 0) :
    Calls Tryz.prog 47 #[.pointer (some ⟨S.B, 0, none⟩), .string p, .agg #[.int .i64 kind, .int .i64 mode, .int .i64 0, .int .i64 0, .int .i64 0, .string target, .int .i64 0, .int .i64 0], dv] w fun e w' =>
      e = .returned (.int .i64 (S.makeErr p.data.toList kind mode target.data.toList)) ∧ Chg (fun _ => False) w w' := by
  have hbox := Blk.new w #[.int .i64 kind, .int .i64 mode, .int .i64 0, .int .i64 0, .int .i64 0, .string target, .int .i64 0, .int .i64 0] 52
  have hc0 : Chg (fun _ => False) w (w.alloc (.cells #[.int .i64 kind, .int .i64 mode, .int .i64 0, .int .i64 0, .int .i64 0, .string target, .int .i64 0, .int .i64 0] 52)) := (Chg.refl _ w).alloc _
  have hCheck := fun W => Check_spec p W hs
  have HX := Lib.hid hbox; clear hbox
  have H0 := Lib.hid hc0; clear hc0
  have HS := Lib.hid h; clear h
  have HK := Lib.hid hk; clear hk
  by_cases h1 : pathErr p.data.toList = 0
  · rw [h1] at hCheck
    by_cases h2 : mode < 0 ∨ 4095 < mode
    · have e1 : S.makeErr p.data.toList kind mode target.data.toList = 16 := by unfold FSt.makeErr; rw [if_neg (by simpa using h1), if_pos h2]
      rw [e1]
      clear herr h1 e1
      by_cases h3 : mode < 0
      · have t1 : decide (mode < 0) = true := by simpa using h3
        clear h2
        go_enter Tryz.func47, Tryz.ntmps47
        go_wp2_with (first | (go_at_call 48; refine (hCheck _).mono ?_; rintro e w1 ⟨rfl, hc1⟩; have m1 := (HX.out.chg hc1 (fun h => h)).cell 1; simp only [List.getElem?_toArray, List.getElem?_cons_zero, List.getElem?_cons_succ] at m1))
        go_ret
        exact ⟨rfl, H0.out.trans hc1 (fun _ _ h => h) (fun _ _ h => h)⟩
      · have t1 : decide (mode < 0) = false := by simpa using h3
        have t2 : 4095 < mode := by omega
        clear h2
        go_enter Tryz.func47, Tryz.ntmps47
        go_wp2_with (first | (go_at_call 48; refine (hCheck _).mono ?_; rintro e w1 ⟨rfl, hc1⟩; have m1 := (HX.out.chg hc1 (fun h => h)).cell 1; simp only [List.getElem?_toArray, List.getElem?_cons_zero, List.getElem?_cons_succ] at m1))
        go_ret
        exact ⟨rfl, H0.out.trans hc1 (fun _ _ h => h) (fun _ _ h => h)⟩
    · have t1 : decide (mode < 0) = false := by simp; omega
      have t2 : decide (4095 < mode) = false := by simp; omega
      by_cases h3 : kind = 2 ∧ recErr target.data.toList ≠ 0
      · have e1 : S.makeErr p.data.toList kind mode target.data.toList = recErr target.data.toList := by unfold FSt.makeErr; rw [if_neg (by simpa using h1), if_neg h2, if_pos h3]
        rw [e1]
        obtain ⟨rfl, h4⟩ := h3
        have HK1 := Lib.hid (HK.out rfl)
        have hRec := fun W (h : Keys W) => Rec_spec target W h HK1.out.2
        simp only [sLink] at hRec
        have t5 : (recErr target.data.toList == 0) = false := by simpa using h4
        have t6 : (recErr target.data.toList != 0) = true := by simpa using h4
        generalize recErr target.data.toList = re at *
        have HR := Lib.hid hRec; clear hRec h2 h1 herr e1 h4
        go_enter Tryz.func47, Tryz.ntmps47
        go_wp2_with (first | (go_at_call 48; refine (hCheck _).mono ?_; rintro e w1 ⟨rfl, hc1⟩; have m0 := (HX.out.chg hc1 (fun h => h)).cell 0; have m1 := (HX.out.chg hc1 (fun h => h)).cell 1; have m5 := (HX.out.chg hc1 (fun h => h)).cell 5; simp only [List.getElem?_toArray, List.getElem?_cons_zero, List.getElem?_cons_succ] at m0 m1 m5) | (go_at_call 72; refine (HR.out _ (HK1.out.1.chg (H0.out.trans hc1 (fun _ _ h => h) (fun _ _ h => h)) (fun h => h))).mono ?_; rintro e w2 ⟨rfl, hc2⟩))
        go_ret
        exact ⟨rfl, (H0.out.trans hc1 (fun _ _ h => h) (fun _ _ h => h)).trans hc2 (fun _ _ h => h) (fun _ _ h => h)⟩
      · have e1 : S.makeErr p.data.toList kind mode target.data.toList = S.placeErr p.data.toList := by unfold FSt.makeErr; rw [if_neg (by simpa using h1), if_neg h2, if_neg h3]
        rw [e1] at herr ⊢
        have hP := fun W (h : IsFS W S role) => place_bad p W h hs herr
        have t5 : (S.placeErr p.data.toList == 0) = false := by simpa using herr
        have t6 : (S.placeErr p.data.toList != 0) = true := by simpa using herr
        generalize S.placeErr p.data.toList = pe at *
        have HP := Lib.hid hP; clear hP
        by_cases h4 : kind = 2
        · subst h4
          have h5 : recErr target.data.toList = 0 := by
            by_cases h6 : recErr target.data.toList = 0
            · exact h6
            · exact absurd ⟨rfl, h6⟩ h3
          have HK1 := Lib.hid (HK.out rfl)
          have hRec := fun W (h : Keys W) => Rec_spec target W h HK1.out.2
          simp only [sLink] at hRec
          rw [h5] at hRec
          have HR := Lib.hid hRec; clear hRec h2 h1 herr e1 h3 h5
          go_enter Tryz.func47, Tryz.ntmps47
          go_wp2_with (first | (go_at_call 48; refine (hCheck _).mono ?_; rintro e w1 ⟨rfl, hc1⟩; have m0 := (HX.out.chg hc1 (fun h => h)).cell 0; have m1 := (HX.out.chg hc1 (fun h => h)).cell 1; have m5 := (HX.out.chg hc1 (fun h => h)).cell 5; simp only [List.getElem?_toArray, List.getElem?_cons_zero, List.getElem?_cons_succ] at m0 m1 m5) | (go_at_call 72; refine (HR.out _ (HK1.out.1.chg (H0.out.trans hc1 (fun _ _ h => h) (fun _ _ h => h)) (fun h => h))).mono ?_; rintro e w2 ⟨rfl, hc2⟩) | (go_at_call 49; refine (HP.out w2 (HS.out.chg ((H0.out.trans hc1 (fun _ _ h => h) (fun _ _ h => h)).trans hc2 (fun _ _ h => h) (fun _ _ h => h)) (fun _ _ _ h => h))).mono ?_; rintro e w' ⟨rfl, k, rfl⟩))
          go_ret
          exact ⟨rfl, ((H0.out.trans hc1 (fun _ _ h => h) (fun _ _ h => h)).trans hc2 (fun _ _ h => h) (fun _ _ h => h)).drewN k⟩
        · have t3 : (kind == 2) = false := by simpa using h4
          clear h2 h1 herr e1 h3 h4
          go_enter Tryz.func47, Tryz.ntmps47
          go_wp2_with (first | (go_at_call 48; refine (hCheck _).mono ?_; rintro e w1 ⟨rfl, hc1⟩; have m0 := (HX.out.chg hc1 (fun h => h)).cell 0; have m1 := (HX.out.chg hc1 (fun h => h)).cell 1; have m5 := (HX.out.chg hc1 (fun h => h)).cell 5; simp only [List.getElem?_toArray, List.getElem?_cons_zero, List.getElem?_cons_succ] at m0 m1 m5) | (go_at_call 49; refine (HP.out w1 (HS.out.chg (H0.out.trans hc1 (fun _ _ h => h) (fun _ _ h => h)) (fun _ _ _ h => h))).mono ?_; rintro e w' ⟨rfl, k, rfl⟩))
          go_ret
          exact ⟨rfl, (H0.out.trans hc1 (fun _ _ h => h) (fun _ _ h => h)).drewN k⟩
  · have e1 : S.makeErr p.data.toList kind mode target.data.toList = pathErr p.data.toList := by unfold FSt.makeErr; rw [if_pos (by simpa using h1)]
    rw [e1]
    have t5 : (pathErr p.data.toList == 0) = false := by simpa using h1
    have t6 : (pathErr p.data.toList != 0) = true := by simpa using h1
    generalize pathErr p.data.toList = pe at *
    clear h1 herr e1
    go_enter Tryz.func47, Tryz.ntmps47
    go_wp2_with (first | (go_at_call 48; refine (hCheck _).mono ?_; rintro e w1 ⟨rfl, hc1⟩))
    go_ret
    exact ⟨rfl, H0.out.trans hc1 (fun _ _ h => h) (fun _ _ h => h)⟩
end Go.Proofs.YtfkfeoocglcjgaaGreatDoor
