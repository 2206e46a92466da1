/- Chown and ReadFile. -/
import Derived.Test.YtfkfeoocglcjgaaGreatDoorVStep
set_option linter.unusedVariables false
set_option linter.unusedSimpArgs false
namespace Go.Proofs.YtfkfeoocglcjgaaGreatDoor
open Go.RowKit

set_option maxRecDepth 100000 in
theorem Chown_some {S : FSt} {role : Nat → Option (Nat × Nat)} (p : ByteArray) (u m : Int) (w : World) (h : IsFS w S role) (hs : p.size ≤ maxLen) (b : Nat) (i : Ino) (hF : S.F p.data.toList = some b) (hi : S.ino b = some i) :
    Calls Tryz.prog 31 #[.pointer (some ⟨S.B, 0, none⟩), .string p, .int .i64 u, .int .i64 m] w fun e w' => e = .returned (.int .i64 0) ∧
      Blk w' b ({ i with uid := u, mtime := m }).cells 91 ∧ Chg (fun k => k = b) w w' := by
  have hf := find_spec p w h hs
  have hb := h.inos b i hi
  rw [hF] at hf
  simp only [Option.isSome_some, ptrOf, Option.map_some, if_true] at hf
  clear h hs hF hi
  have c6 : w.cell? ⟨b, 6, none⟩ = some (.int .i64 i.uid) := hb.cell 6
  have c7 : w.cell? ⟨b, 7, none⟩ = some (.int .i64 i.mtime) := hb.cell 7
  have f6 := hb.free 6
  have f7 := hb.free 7
  have HB := Lib.hid hb; clear hb
  go_enter Tryz.func31, Tryz.ntmps31
  go_wp2_with (go_at_call 38; refine hf.mono ?_; rintro e w' ⟨rfl, rfl⟩)
  go_ret
  refine ⟨rfl, ?_, ?_⟩
  · simpa [Ino.cells] using (HB.out.set 6 (.int .i64 u)).set 7 (.int .i64 m)
  · exact ((Chg.refl (fun k => k = b) _).setCell ⟨b, 6, none⟩ _ (fun _ => rfl)).setCell ⟨b, 7, none⟩ _ (fun _ => rfl)

set_option maxRecDepth 100000 in
theorem ReadFile_file {S : FSt} {role : Nat → Option (Nat × Nat)} (p : ByteArray) (w : World) (h : IsFS w S role) (hs : p.size ≤ maxLen) (b : Nat) (i : Ino) (hF : S.F p.data.toList = some b) (hi : S.ino b = some i) (hk : i.kind = 1) (hb8 : i.data.length ≤ 100000000) :
    Calls Tryz.prog 35 #[.pointer (some ⟨S.B, 0, none⟩), .string p] w fun e w' => ∃ A c, e = .returned (.tuple #[.slice A i.data.length c, .int .i64 0]) ∧
      w'.ownsRow 0 5 1 (.slice A i.data.length c) i.data.length (by8 i.data) ∧ (∀ k, (Value.slice A i.data.length c).ownBlock = some k → w.heap.size ≤ k) ∧ Chg (fun _ => False) w w' := by
  have hf := find_spec p w h hs
  have hb := h.inos b i hi
  have hd := h.datas b i hi
  rw [hF] at hf
  simp only [Option.isSome_some, ptrOf, Option.map_some, if_true] at hf
  clear h hs hF hi
  obtain ⟨A, c, hv, hnc, hA⟩ := own_form hd
  have c0 : w.cell? ⟨b, 0, none⟩ = some (.int .i64 1) := by rw [hb.cell 0, ← hk]; rfl
  have c8 : w.cell? ⟨b, 8, none⟩ = some (.slice A i.data.length c) := by rw [hb.cell 8, ← hv]; rfl
  have hcl := clone8_any A i.data.length c (by8 i.data) w (by8_length _) hb8 (by8_one _) (Rd.of_own hd hv) (fun e => (hA e).1)
  clear hb hd hv hnc hA hk
  have HC := Lib.hid hcl; clear hcl
  go_enter Tryz.func35, Tryz.ntmps35
  go_wp2_with (first | (go_at_call 38; refine hf.mono ?_; rintro e w' ⟨rfl, rfl⟩) | (go_at_call 52; refine HC.out.mono ?_; rintro e w2 ⟨A', c', rfl, h1, h2, h3⟩))
  go_ret2
  exact ⟨A', c', rfl, h1, h3, h2⟩
end Go.Proofs.YtfkfeoocglcjgaaGreatDoor
