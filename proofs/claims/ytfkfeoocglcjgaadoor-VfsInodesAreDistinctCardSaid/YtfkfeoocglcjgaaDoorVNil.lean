/- The methods on a nil file system. -/
import Derived.Test.YtfkfeoocglcjgaaDoorVState
set_option linter.unusedVariables false
set_option linter.unusedSimpArgs false
namespace Go.Proofs.YtfkfeoocglcjgaaDoor
open Go.RowKit

set_option maxRecDepth 100000 in
theorem ReadFile_nil (p : ByteArray) (w : World) : Calls Tryd.prog 16 #[.pointer none, .string p] w fun e w' => e = .returned (.tuple #[.slice none 0 0, .int .i64 1]) ∧ w' = w := by
  go_enter Tryd.func16, Tryd.ntmps16
  go_wp2_with (go_at_call 28; refine (find_nil p _).mono ?_; rintro e w' ⟨rfl, rfl⟩)
  go_ret2
  exact ⟨rfl, rfl⟩

set_option maxRecDepth 100000 in
theorem List_nil (p : ByteArray) (w : World) : Calls Tryd.prog 20 #[.pointer none, .string p] w fun e w' => e = .returned (.tuple #[.slice none 0 0, .int .i64 1]) ∧ w' = w := by
  go_enter Tryd.func20, Tryd.ntmps20
  go_wp2_with (go_at_call 28; refine (find_nil p _).mono ?_; rintro e w' ⟨rfl, rfl⟩)
  go_ret2
  exact ⟨rfl, rfl⟩

set_option maxRecDepth 100000 in
theorem Chown_nil (p : ByteArray) (u m : Int) (w : World) : Calls Tryd.prog 15 #[.pointer none, .string p, .int .i64 u, .int .i64 m] w fun e w' => e = .returned (.int .i64 1) ∧ w' = w := by
  go_enter Tryd.func15, Tryd.ntmps15
  go_wp2_with (go_at_call 28; refine (find_nil p _).mono ?_; rintro e w' ⟨rfl, rfl⟩)
  go_ret
  exact ⟨rfl, rfl⟩

set_option maxRecDepth 100000 in
theorem Link_nil (p q : ByteArray) (w : World) : Calls Tryd.prog 14 #[.pointer none, .string p, .string q] w fun e w' => e = .returned (.int .i64 1) ∧ w' = w := by
  go_enter Tryd.func14, Tryd.ntmps14
  go_wp2
  go_ret
  exact ⟨rfl, rfl⟩

set_option maxRecDepth 100000 in
theorem make_nil (p : ByteArray) (c0 c1 c2 c3 c4 c6 c7 : Int) (t : ByteArray) (d : Value) (w : World) :
    Calls Tryd.prog 29 #[.pointer none, .string p, .agg #[.int .i64 c0, .int .i64 c1, .int .i64 c2, .int .i64 c3, .int .i64 c4, .string t, .int .i64 c6, .int .i64 c7], d] w fun e w' => e = .returned (.int .i64 1) ∧ Chg (fun _ => False) w w' := by
  go_enter Tryd.func29, Tryd.ntmps29
  go_wp2
  go_ret
  exact ⟨rfl, (Chg.refl _ w).alloc _⟩

theorem Mkdir_nil (p : ByteArray) (m : Int) (w : World) : Calls Tryd.prog 19 #[.pointer none, .string p, .int .i64 m] w fun e w' => e = .returned (.int .i64 1) ∧ Chg (fun _ => False) w w' := by
  go_enter Tryd.func19, Tryd.ntmps19
  go_wp2_with (go_at_call 29; refine (make_nil p _ _ _ _ _ _ _ _ _ _).mono ?_; rintro e w' ⟨rfl, hch⟩)
  go_ret
  exact ⟨rfl, hch⟩
theorem Create_nil (p : ByteArray) (m : Int) (d : Value) (w : World) : Calls Tryd.prog 13 #[.pointer none, .string p, .int .i64 m, d] w fun e w' => e = .returned (.int .i64 1) ∧ Chg (fun _ => False) w w' := by
  go_enter Tryd.func13, Tryd.ntmps13
  go_wp2_with (go_at_call 29; refine (make_nil p _ _ _ _ _ _ _ _ _ _).mono ?_; rintro e w' ⟨rfl, hch⟩)
  go_ret
  exact ⟨rfl, hch⟩
theorem Symlink_nil (p t : ByteArray) (w : World) : Calls Tryd.prog 21 #[.pointer none, .string p, .string t] w fun e w' => e = .returned (.int .i64 1) ∧ Chg (fun _ => False) w w' := by
  go_enter Tryd.func21, Tryd.ntmps21
  go_wp2_with (go_at_call 29; refine (make_nil p _ _ _ _ _ _ _ _ _ _).mono ?_; rintro e w' ⟨rfl, hch⟩)
  go_ret
  exact ⟨rfl, hch⟩
theorem Mknod_nil (p : ByteArray) (m : Int) (w : World) : Calls Tryd.prog 22 #[.pointer none, .string p, .int .i64 m] w fun e w' => e = .returned (.int .i64 1) ∧ Chg (fun _ => False) w w' := by
  go_enter Tryd.func22, Tryd.ntmps22
  go_wp2_with (go_at_call 29; refine (make_nil p _ _ _ _ _ _ _ _ _ _).mono ?_; rintro e w' ⟨rfl, hch⟩)
  go_ret
  exact ⟨rfl, hch⟩
end Go.Proofs.YtfkfeoocglcjgaaDoor
