/- pathname.Parent, pathname.Base. -/
import Derived.Test.YtfkfeoocglcjgaaGreatDoorBase
import Derived.Test.YtfkfeoocglcjgaaGreatDoorShelf
set_option linter.unusedVariables false
namespace Go.Proofs.YtfkfeoocglcjgaaGreatDoor
open Go.RowKit

theorem lastOcc_bounds (s sub : List UInt8) : ∀ k : Nat, -1 ≤ Lib.lastOcc s sub k ∧ Lib.lastOcc s sub k < k
  | 0 => by simp [Lib.lastOcc]
  | k + 1 => by
    have h := lastOcc_bounds s sub k
    unfold Lib.lastOcc
    split
    · omega
    · omega
/-- The place of the last slash, or -1. -/
def slash (s : List UInt8) : Int := Lib.lastIndex s [47]
theorem slash_bounds (s : List UInt8) : -1 ≤ slash s ∧ slash s < s.length := by
  unfold slash Lib.lastIndex
  split
  · next h =>
    have h1 := lastOcc_bounds s [47] (s.length - [(47 : UInt8)].length + 1)
    simp only [List.length_cons, List.length_nil] at h h1 ⊢
    omega
  · next h => simp only [List.length_cons, List.length_nil] at h; omega
def parentB (s : List UInt8) : List UInt8 := s.take (slash s).toNat
def baseB (s : List UInt8) : List UInt8 := s.drop (slash s + 1).toNat

theorem LastSlash (s : ByteArray) (w : World) (hs : s.size < 4611686018427387904) :
    Calls Tryz.prog 94 #[.string s, .string ⟨#[47]⟩] w fun e w' => e = .returned (.int .i64 (slash s.data.toList)) ∧ w' = w :=
  Tryz.strings_LastIndex s ⟨#[47]⟩ hs w

theorem extract_take (s : ByteArray) (n : Nat) : s.extract 0 n = ⟨(s.data.toList.take n).toArray⟩ := by
  apply ByteArray.ext
  apply Array.toList_inj.1
  simp
theorem extract_drop (s : ByteArray) (n : Nat) : s.extract n s.size = ⟨(s.data.toList.drop n).toArray⟩ := by
  apply ByteArray.ext
  apply Array.toList_inj.1
  simp only [ByteArray.data_extract, Array.toList_extract, List.extract_eq_take_drop]
  exact List.take_of_length_le (by simp)

theorem Parent_spec (s : ByteArray) (w : World) (hs : s.size < 4611686018427387904) :
    Calls Tryz.prog 75 #[.string s] w fun e w' => e = .returned (.string ⟨(parentB s.data.toList).toArray⟩) ∧ w' = w := by
  have hb := slash_bounds s.data.toList
  have hl : s.data.toList.length = s.size := by simp
  have hc := LastSlash s w hs
  have h2 : parentB s.data.toList = s.data.toList.take (slash s.data.toList).toNat := rfl
  rw [h2]; clear h2
  generalize slash s.data.toList = i at hb hc ⊢
  rw [hl] at hb; clear hl
  by_cases hn : i < 0
  · have h1 : decide (i < 0) = true := by simpa using hn
    rw [Int.toNat_of_nonpos (by omega)]
    clear hb hn
    go_enter Tryz.func75, Tryz.ntmps75
    go_wp2_with (go_at_call 94; refine hc.mono ?_; rintro e w' ⟨rfl, rfl⟩)
    go_ret
    exact ⟨rfl, rfl⟩
  · have h1 : decide (i < 0) = false := by simpa using hn
    have h3 : 0 ≤ i := by omega
    have h4 : i ≤ s.size := by omega
    have h5 := extract_take s i.toNat
    clear hb hn
    go_enter Tryz.func75, Tryz.ntmps75
    go_wp2_with (go_at_call 94; refine hc.mono ?_; rintro e w' ⟨rfl, rfl⟩)
    go_ret
    exact ⟨rfl, rfl⟩

theorem Base_spec (s : ByteArray) (w : World) (hs : s.size < 4611686018427387904) :
    Calls Tryz.prog 76 #[.string s] w fun e w' => e = .returned (.string ⟨(baseB s.data.toList).toArray⟩) ∧ w' = w := by
  have hb := slash_bounds s.data.toList
  have hl : s.data.toList.length = s.size := by simp
  have hc := LastSlash s w hs
  have h2 : baseB s.data.toList = s.data.toList.drop (slash s.data.toList + 1).toNat := rfl
  rw [h2]; clear h2
  generalize slash s.data.toList = i at hb hc ⊢
  rw [hl] at hb; clear hl
  have h3 : 0 ≤ i + 1 := by omega
  have h4 : i + 1 ≤ s.size := by omega
  have h5 := extract_drop s (i + 1).toNat
  have h6 : IntKind.i64.wrap (i + 1) = i + 1 := by rw [IntKind.wrap_i64]; omega
  clear hb
  go_enter Tryz.func76, Tryz.ntmps76
  go_wp2_with (go_at_call 94; refine hc.mono ?_; rintro e w' ⟨rfl, rfl⟩)
  go_ret
  exact ⟨rfl, rfl⟩
end Go.Proofs.YtfkfeoocglcjgaaGreatDoor
