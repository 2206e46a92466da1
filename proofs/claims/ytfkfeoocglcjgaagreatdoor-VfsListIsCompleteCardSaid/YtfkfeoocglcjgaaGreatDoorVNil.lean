/- The methods on a nil file system. -/
import Derived.Test.YtfkfeoocglcjgaaGreatDoorVState
set_option linter.unusedVariables false
set_option linter.unusedSimpArgs false
namespace Go.Proofs.YtfkfeoocglcjgaaGreatDoor
open Go.RowKit

set_option maxRecDepth 100000 in
theorem ReadFile_nil (p : ByteArray) (w : World) : Calls Tryz.prog 35 #[.pointer none, .string p] w fun e w' => e = .returned (.tuple #[.slice none 0 0, .int .i64 1]) ∧ w' = w := by
  go_enter Tryz.func35, Tryz.ntmps35
  go_wp2_with (go_at_call 38; refine (find_nil p _).mono ?_; rintro e w' ⟨rfl, rfl⟩)
  go_ret2
  exact ⟨rfl, rfl⟩

set_option maxRecDepth 100000 in
theorem List_nil (p : ByteArray) (w : World) : Calls Tryz.prog 13 #[.pointer none, .string p] w fun e w' => e = .returned (.tuple #[.slice none 0 0, .int .i64 1]) ∧ w' = w := by
  go_enter Tryz.func13, Tryz.ntmps13
  go_wp2_with (go_at_call 38; refine (find_nil p _).mono ?_; rintro e w' ⟨rfl, rfl⟩)
  go_ret2
  exact ⟨rfl, rfl⟩

set_option maxRecDepth 100000 in
theorem Chown_nil (p : ByteArray) (u m : Int) (w : World) : Calls Tryz.prog 31 #[.pointer none, .string p, .int .i64 u, .int .i64 m] w fun e w' => e = .returned (.int .i64 1) ∧ w' = w := by
  go_enter Tryz.func31, Tryz.ntmps31
  go_wp2_with (go_at_call 38; refine (find_nil p _).mono ?_; rintro e w' ⟨rfl, rfl⟩)
  go_ret
  exact ⟨rfl, rfl⟩

set_option maxRecDepth 100000 in
theorem Link_nil (p q : ByteArray) (w : World) : Calls Tryz.prog 23 #[.pointer none, .string p, .string q] w fun e w' => e = .returned (.int .i64 1) ∧ w' = w := by
  go_enter Tryz.func23, Tryz.ntmps23
  go_wp2
  go_ret
  exact ⟨rfl, rfl⟩

set_option maxRecDepth 100000 in
theorem make_nil (p : ByteArray) (c0 c1 c2 c3 c4 c6 c7 : Int) (t : ByteArray) (d : Value) (w : World) :
    Calls Tryz.prog 47 #[.pointer none, .string p, .agg #[.int .i64 c0, .int .i64 c1, .int .i64 c2, .int .i64 c3, .int .i64 c4, .string t, .int .i64 c6, .int .i64 c7], d] w fun e w' => e = .returned (.int .i64 1) ∧ Chg (fun _ => False) w w' := by
  go_enter Tryz.func47, Tryz.ntmps47
  go_wp2
  go_ret
  exact ⟨rfl, (Chg.refl _ w).alloc _⟩

theorem Mkdir_nil (p : ByteArray) (m : Int) (w : World) : Calls Tryz.prog 28 #[.pointer none, .string p, .int .i64 m] w fun e w' => e = .returned (.int .i64 1) ∧ Chg (fun _ => False) w w' := by
  go_enter Tryz.func28, Tryz.ntmps28
  go_wp2_with (go_at_call 47; refine (make_nil p _ _ _ _ _ _ _ _ _ _).mono ?_; rintro e w' ⟨rfl, hch⟩)
  go_ret
  exact ⟨rfl, hch⟩
theorem Create_nil (p : ByteArray) (m : Int) (d : Value) (w : World) : Calls Tryz.prog 22 #[.pointer none, .string p, .int .i64 m, d] w fun e w' => e = .returned (.int .i64 1) ∧ Chg (fun _ => False) w w' := by
  go_enter Tryz.func22, Tryz.ntmps22
  go_wp2_with (go_at_call 47; refine (make_nil p _ _ _ _ _ _ _ _ _ _).mono ?_; rintro e w' ⟨rfl, hch⟩)
  go_ret
  exact ⟨rfl, hch⟩
theorem Symlink_nil (p t : ByteArray) (w : World) : Calls Tryz.prog 29 #[.pointer none, .string p, .string t] w fun e w' => e = .returned (.int .i64 1) ∧ Chg (fun _ => False) w w' := by
  go_enter Tryz.func29, Tryz.ntmps29
  go_wp2_with (go_at_call 47; refine (make_nil p _ _ _ _ _ _ _ _ _ _).mono ?_; rintro e w' ⟨rfl, hch⟩)
  go_ret
  exact ⟨rfl, hch⟩
theorem Mknod_nil (p : ByteArray) (m : Int) (w : World) : Calls Tryz.prog 30 #[.pointer none, .string p, .int .i64 m] w fun e w' => e = .returned (.int .i64 1) ∧ Chg (fun _ => False) w w' := by
  go_enter Tryz.func30, Tryz.ntmps30
  go_wp2_with (go_at_call 47; refine (make_nil p _ _ _ _ _ _ _ _ _ _).mono ?_; rintro e w' ⟨rfl, hch⟩)
  go_ret
  exact ⟨rfl, hch⟩
end Go.Proofs.YtfkfeoocglcjgaaGreatDoor
