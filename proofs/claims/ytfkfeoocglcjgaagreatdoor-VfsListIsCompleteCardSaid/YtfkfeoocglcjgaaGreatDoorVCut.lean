/- strings.Cut at a slash. -/
import Derived.Test.YtfkfeoocglcjgaaGreatDoorVPath
set_option linter.unusedVariables false
namespace Go.Proofs.YtfkfeoocglcjgaaGreatDoor
open Go.RowKit

/-- The place of the first slash, or -1. -/
def fslash (s : List UInt8) : Int := Lib.indexByte s 47
theorem fslash_bounds (s : List UInt8) : -1 ≤ fslash s ∧ fslash s < s.length := by
  unfold fslash
  induction s with
  | nil => simp [Lib.indexByte]
  | cons a t ih =>
    unfold Lib.indexByte
    simp only [List.length_cons]
    split
    · omega
    · split <;> omega
def cut1 (s : List UInt8) : List UInt8 := if 0 ≤ fslash s then s.take (fslash s).toNat else s
def cut2 (s : List UInt8) : List UInt8 := if 0 ≤ fslash s then s.drop (fslash s + 1).toNat else []
def cut3 (s : List UInt8) : Bool := decide (0 ≤ fslash s)

theorem FirstSlash (s : ByteArray) (w : World) :
    Calls Tryz.prog 71 #[.string s, .string ⟨#[47]⟩] w fun e w' => e = .returned (.int .i64 (fslash s.data.toList)) ∧ w' = w :=
  Tryz.stringslite_Index_one s 47 w

theorem lCut_spec (s : ByteArray) (w : World) (hs : s.size < 4611686018427387904) :
    Calls Tryz.prog 102 #[.string s, .string ⟨#[47]⟩] w fun e w' => e = .returned (.tuple #[.string ⟨(cut1 s.data.toList).toArray⟩, .string ⟨(cut2 s.data.toList).toArray⟩, .bool (cut3 s.data.toList)]) ∧ ∃ n, w' = w.drewN n := by
  have hb := fslash_bounds s.data.toList
  have hl : s.data.toList.length = s.size := by simp
  have hc := FirstSlash s w
  have k1 : cut1 s.data.toList = if 0 ≤ fslash s.data.toList then s.data.toList.take (fslash s.data.toList).toNat else s.data.toList := rfl
  have k2 : cut2 s.data.toList = if 0 ≤ fslash s.data.toList then s.data.toList.drop (fslash s.data.toList + 1).toNat else [] := rfl
  have k3 : cut3 s.data.toList = decide (0 ≤ fslash s.data.toList) := rfl
  rw [k1, k2, k3]; clear k1 k2 k3
  generalize fslash s.data.toList = i at hb hc ⊢
  rw [hl] at hb; clear hl
  by_cases hn : 0 ≤ i
  · have h1 : decide (0 ≤ i) = true := by simpa using hn
    have h4 : i ≤ s.size := by omega
    have h5 := extract_take s i.toNat
    have h6 : IntKind.i64.wrap (i + 1) = i + 1 := by rw [IntKind.wrap_i64]; omega
    have h7 : 0 ≤ i + 1 := by omega
    have h8 : i + 1 ≤ s.size := by omega
    have h9 := extract_drop s (i + 1).toNat
    rw [if_pos hn, if_pos hn, h1]
    clear hb
    go_enter Tryz.func102, Tryz.ntmps102
    go_wp2_with (go_at_call 71; refine hc.mono ?_; rintro e w' ⟨rfl, rfl⟩)
    go_region
    go_wp2
    go_ret3
    exact ⟨rfl, 1, rfl⟩
  · have h1 : decide (0 ≤ i) = false := by simpa using hn
    rw [if_neg hn, if_neg hn, h1]
    have h9 : s = ⟨(s.data.toList).toArray⟩ := by apply ByteArray.ext; simp
    rw [← h9]
    clear hb h9 hn
    go_enter Tryz.func102, Tryz.ntmps102
    go_wp2_with (go_at_call 71; refine hc.mono ?_; rintro e w' ⟨rfl, rfl⟩)
    go_ret3
    exact ⟨rfl, 0, rfl⟩

theorem Cut_spec (s : ByteArray) (w : World) (hs : s.size < 4611686018427387904) :
    Calls Tryz.prog 93 #[.string s, .string ⟨#[47]⟩] w fun e w' => e = .returned (.tuple #[.string ⟨(cut1 s.data.toList).toArray⟩, .string ⟨(cut2 s.data.toList).toArray⟩, .bool (cut3 s.data.toList)]) ∧ ∃ n, w' = w.drewN n := by
  have hc := lCut_spec s w hs
  generalize cut1 s.data.toList = a at hc ⊢
  generalize cut2 s.data.toList = b at hc ⊢
  generalize cut3 s.data.toList = c at hc ⊢
  go_enter Tryz.func93, Tryz.ntmps93
  go_wp2_with (go_at_call 102; refine hc.mono ?_; rintro e w' ⟨rfl, n, rfl⟩)
  go_ret3
  exact ⟨rfl, n, rfl⟩
end Go.Proofs.YtfkfeoocglcjgaaGreatDoor
