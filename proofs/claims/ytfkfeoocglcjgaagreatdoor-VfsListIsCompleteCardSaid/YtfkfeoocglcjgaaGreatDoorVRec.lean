/- paxrec.Check at the key linkpath. -/
import Derived.Test.YtfkfeoocglcjgaaGreatDoorVEnt
set_option linter.unusedVariables false
set_option linter.unusedSimpArgs false
namespace Go.Proofs.YtfkfeoocglcjgaaGreatDoor
open Go.RowKit

def sLink : ByteArray := ⟨#[108, 105, 110, 107, 112, 97, 116, 104]⟩
def sPath : ByteArray := ⟨#[112, 97, 116, 104]⟩
def sSize : ByteArray := ⟨#[115, 105, 122, 101]⟩
def keyL : List ByteArray := [sLink, sPath, sSize]
/-- The permitted keys stand in their variable. -/
structure Keys (w : World) : Prop where
  out : ∀ j, j < keyL.length → w.cell? ⟨1, 0 + j, none⟩ = some (.string (keyL.getD j ByteArray.empty))
theorem Keys.chg {S : Nat → Prop} {w w' : World} (h : Keys w) (c : Chg S w w') (hS : ¬ S 1) : Keys w' :=
  ⟨fun j hj => by
    have h1 := h.out j hj
    rw [cell_of_block (w := w) (c.block _ (World.block_lt_of_cell? w _ h1) hS)]; exact h1⟩
theorem Keys.lt {w : World} (h : Keys w) : 1 < w.heap.size := World.block_lt_of_cell? w _ (h.out 0 (by decide))

/-- What paxrec.Check answers for a link's target. -/
def recErr (t : List UInt8) : Int := if 65536 < t.length then 7 else if t = [] ∨ 0 ≤ Lib.indexByte t 0 then 6 else 0

set_option maxRecDepth 100000 in
theorem Rec_spec (t : ByteArray) (w : World) (hk : Keys w) (ht : t.size ≤ maxLen) :
    Calls Tryz.prog 72 #[.agg #[.string sLink, .string t]] w fun e w' => e = .returned (.int .i64 (recErr t.data.toList)) ∧ Chg (fun _ => False) w w' := by
  have hcont := fun W (h : Keys W) => Tryz.slices_Contains_string 1 0 3 3 keyL sLink W (by decide) (by decide) h.out
  have e1 : Lib.containsS (keyL.take 3) sLink = true := by decide +kernel
  rw [e1] at hcont
  have e2 : (sLink.toList == [115, 105, 122, 101]) = false := by decide +kernel
  have hc0 : Chg (fun _ => False) w (w.alloc (.cells #[.string sLink, .string t] 106)) := (Chg.refl _ w).alloc _
  have hK := fun k => hk.chg (hc0.drewN k) (fun h => h)
  have hC := fun k => hcont _ (hK k)
  have hl : t.data.toList.length = t.size := by simp
  have HC := Lib.hid hC; clear hC hK hcont hk
  have hib := fun W => Tryz.strings_IndexByte t 0 W
  by_cases h1 : 65536 < t.size
  · have t1 : decide ((65536 : Int) < t.size) = true := by simp; omega
    have hR : recErr t.data.toList = 7 := by unfold recErr; rw [if_pos (by rw [hl]; exact h1)]
    rw [hR]; clear h1 hl hR
    go_enter Tryz.func72, Tryz.ntmps72
    go_wp2_with fail
    go_quiet ((go_at_call 17; exact Calls.quiet_of_same (HC.out _)))
    go_wp2_with fail
    go_ret
    exact ⟨rfl, hc0.drewN _⟩
  · have t1 : decide ((65536 : Int) < t.size) = false := by simp; omega
    have htl : t.toList = t.data.toList := ByteArray.toList_eq t
    by_cases h2 : t.data.toList = []
    · have hR : recErr t.data.toList = 6 := by unfold recErr; rw [if_neg (by rw [hl]; exact h1), if_pos (.inl h2)]
      have h2a : t.toList.isEmpty = true := by rw [htl, h2]; rfl
      have h2b : t.toList = [] := by rw [htl, h2]
      rw [hR]; clear h1 hl hR htl
      go_enter Tryz.func72, Tryz.ntmps72
      go_wp2_with fail
      go_quiet ((go_at_call 17; exact Calls.quiet_of_same (HC.out _)))
      go_wp2_with fail
      go_ret
      exact ⟨rfl, hc0.drewN _⟩
    · have h2' : t.toList.isEmpty = false := by rw [htl]; simpa using h2
      by_cases h3 : 0 ≤ Lib.indexByte t.data.toList 0
      · have hR : recErr t.data.toList = 6 := by unfold recErr; rw [if_neg (by rw [hl]; exact h1), if_pos (.inr h3)]
        have t3 : decide (0 ≤ Lib.indexByte t.data.toList 0) = true := by simpa using h3
        rw [hR]; clear h1 hl hR h3 h2 htl
        go_enter Tryz.func72, Tryz.ntmps72
        go_wp2_with fail
        go_quiet ((go_at_call 17; exact Calls.quiet_of_same (HC.out _)))
        go_wp2_with (go_at_call 74; refine (hib _).mono ?_; rintro e w' ⟨rfl, rfl⟩)
        go_ret
        exact ⟨rfl, hc0.drewN _⟩
      · have hR : recErr t.data.toList = 0 := by unfold recErr; rw [if_neg (by rw [hl]; exact h1), if_neg (by rintro (h | h); exact h2 h; exact h3 h)]
        have t3 : decide (0 ≤ Lib.indexByte t.data.toList 0) = false := by simpa using h3
        rw [hR]; clear h1 hl hR h3 h2 htl
        go_enter Tryz.func72, Tryz.ntmps72
        go_wp2_with fail
        go_quiet ((go_at_call 17; exact Calls.quiet_of_same (HC.out _)))
        go_wp2_with (go_at_call 74; refine (hib _).mono ?_; rintro e w' ⟨rfl, rfl⟩)
        go_ret
        exact ⟨rfl, hc0.drewN _⟩
end Go.Proofs.YtfkfeoocglcjgaaGreatDoor
