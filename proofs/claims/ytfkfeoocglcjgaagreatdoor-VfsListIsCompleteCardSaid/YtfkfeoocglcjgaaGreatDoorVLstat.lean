/- Lstat. -/
import Derived.Test.YtfkfeoocglcjgaaGreatDoorVState
set_option linter.unusedVariables false
set_option linter.unusedSimpArgs false
namespace Go.Proofs.YtfkfeoocglcjgaaGreatDoor
open Go.RowKit

def infoOf (l : List Value) : Value := .agg l.toArray
def noInfo : List Value := [.int .i64 0, .int .i64 0, .int .i64 0, .int .i64 0, .int .i64 0, .string ⟨#[]⟩, .int .i64 0, .int .i64 0]

theorem results8 {w : World} {B : Nat} {c0 c1 c2 c3 c4 c5 c6 c7 e : Value} {tmps : Array Value} (h : Blk w B #[c0, c1, c2, c3, c4, c5, c6, c7] 52) (h4 : tmps[4]? = some (.pointer (some ⟨B, 0, none⟩))) (h5 : tmps[5]? = some e) :
    (results Tryz.f16 tmps).run Tryz.prog w = .ok (.tuple #[.agg #[c0, c1, c2, c3, c4, c5, c6, c7], e]) w := by
  have d0 : w.cell? ⟨B, 0, none⟩ = some c0 := h.cell 0
  have d1 : w.cell? ⟨B, 1, none⟩ = some c1 := h.cell 1
  have d2 : w.cell? ⟨B, 2, none⟩ = some c2 := h.cell 2
  have d3 : w.cell? ⟨B, 3, none⟩ = some c3 := h.cell 3
  have d4 : w.cell? ⟨B, 4, none⟩ = some c4 := h.cell 4
  have d5 : w.cell? ⟨B, 5, none⟩ = some c5 := h.cell 5
  have d6 : w.cell? ⟨B, 6, none⟩ = some c6 := h.cell 6
  have d7 : w.cell? ⟨B, 7, none⟩ = some c7 := h.cell 7
  simp [results, Tryz.f16, go_sem, h4, h5, d0, d1, d2, d3, d4, d5, d6, d7]

set_option maxRecDepth 100000 in
theorem Lstat_nil (p : ByteArray) (w : World) : Calls Tryz.prog 16 #[.pointer none, .string p] w fun e w' => e = .returned (.tuple #[infoOf noInfo, .int .i64 1]) ∧ Chg (fun _ => False) w w' := by
  go_enter Tryz.func16, Tryz.ntmps16
  go_wp2_with (go_at_call 38; refine (find_nil p _).mono ?_; rintro e w' ⟨rfl, rfl⟩)
  have hB := Blk.new w noInfo.toArray 52
  refine bodyPost_ret (v := .tuple #[infoOf noInfo, .int .i64 1]) ?_ rfl ⟨rfl, (Chg.refl _ w).alloc _⟩
  exact results8 hB rfl rfl

set_option maxRecDepth 100000 in
theorem Lstat_none {S : FSt} {role : Nat → Option (Nat × Nat)} (p : ByteArray) (w : World) (h : IsFS w S role) (hs : p.size ≤ maxLen) (hF : S.F p.data.toList = none) :
    Calls Tryz.prog 16 #[.pointer (some ⟨S.B, 0, none⟩), .string p] w fun e w' => e = .returned (.tuple #[infoOf noInfo, .int .i64 19]) ∧ Chg (fun _ => False) w w' := by
  have hf := find_spec p (w.alloc (.cells #[.int .i64 0, .int .i64 0, .int .i64 0, .int .i64 0, .int .i64 0, .string ⟨#[]⟩, .int .i64 0, .int .i64 0] 52)) (h.chg ((Chg.refl (fun _ => False) w).alloc _) (fun _ _ _ h => h)) hs
  rw [hF] at hf
  simp only [Option.isSome_none, ptrOf, Option.map_none, Bool.false_eq_true, if_false] at hf
  clear h hs hF
  go_enter Tryz.func16, Tryz.ntmps16
  go_wp2_with (go_at_call 38; refine hf.mono ?_; rintro e w' ⟨rfl, rfl⟩)
  have hB := Blk.new w noInfo.toArray 52
  refine bodyPost_ret (v := .tuple #[infoOf noInfo, .int .i64 19]) ?_ rfl ⟨rfl, (Chg.refl _ w).alloc _⟩
  exact results8 hB rfl rfl

set_option maxRecDepth 100000 in
theorem Lstat_some {S : FSt} {role : Nat → Option (Nat × Nat)} (p : ByteArray) (w : World) (h : IsFS w S role) (hs : p.size ≤ maxLen) (b : Nat) (i : Ino) (hF : S.F p.data.toList = some b) (hi : S.ino b = some i) :
    Calls Tryz.prog 16 #[.pointer (some ⟨S.B, 0, none⟩), .string p] w fun e w' => e = .returned (.tuple #[infoOf i.info, .int .i64 0]) ∧ Chg (fun _ => False) w w' := by
  have h2 := h.chg ((Chg.refl (fun _ => False) w).alloc (.cells #[.int .i64 0, .int .i64 0, .int .i64 0, .int .i64 0, .int .i64 0, .string ⟨#[]⟩, .int .i64 0, .int .i64 0] 52)) (fun _ _ _ h => h)
  have hf := find_spec p _ h2 hs
  have hb := h2.inos b i hi
  rw [hF] at hf
  simp only [Option.isSome_some, ptrOf, Option.map_some, if_true] at hf
  clear h hs hF h2 hi
  have c0 := hb.cell 0
  have c1 := hb.cell 1
  have c2 := hb.cell 2
  have c3 := hb.cell 3
  have c4 := hb.cell 4
  have c5 := hb.cell 5
  have c6 := hb.cell 6
  have c7 := hb.cell 7
  simp only [Ino.cells, List.getElem?_toArray, List.getElem?_cons_zero, List.getElem?_cons_succ] at c0 c1 c2 c3 c4 c5 c6 c7
  go_enter Tryz.func16, Tryz.ntmps16
  go_wp2_with (go_at_call 38; refine hf.mono ?_; rintro e w' ⟨rfl, rfl⟩)
  have hB := Blk.new w i.info.toArray 52
  refine bodyPost_ret (v := .tuple #[infoOf i.info, .int .i64 0]) ?_ rfl ⟨rfl, (Chg.refl _ w).alloc _⟩
  exact results8 hB rfl rfl
end Go.Proofs.YtfkfeoocglcjgaaGreatDoor
