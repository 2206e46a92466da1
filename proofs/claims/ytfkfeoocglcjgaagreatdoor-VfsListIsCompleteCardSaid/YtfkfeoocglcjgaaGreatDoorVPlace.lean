/- place. -/
import Derived.Test.YtfkfeoocglcjgaaGreatDoorVLstat
set_option linter.unusedVariables false
set_option linter.unusedSimpArgs false
namespace Go.Proofs.YtfkfeoocglcjgaaGreatDoor
open Go.RowKit

def FSt.kindAt (S : FSt) (p : List UInt8) : Option Int := (S.F p).bind fun b => (S.ino b).map (·.kind)
/-- What place answers. -/
def FSt.placeErr (S : FSt) (p : List UInt8) : Int := if S.kindAt (parentB p) = some 0 then (if (S.F p).isSome then 14 else 0) else 13

theorem parent_len (p : ByteArray) (hs : p.size < 4611686018427387904) : (ByteArray.mk (parentB p.data.toList).toArray).size ≤ maxLen := by
  have h1 : p.data.toList.length = p.size := by simp
  have h2 : (parentB p.data.toList).length ≤ p.data.toList.length := by unfold parentB; rw [List.length_take]; omega
  rw [size_of]; unfold maxLen; omega

set_option maxRecDepth 100000 in
theorem place_none {S : FSt} {role : Nat → Option (Nat × Nat)} (p : ByteArray) (w : World) (h : IsFS w S role) (hs : p.size < 4611686018427387904) (hF : S.F (parentB p.data.toList) = none) :
    Calls Tryz.prog 49 #[.pointer (some ⟨S.B, 0, none⟩), .string p] w fun e w' => e = .returned (.tuple #[.pointer none, .int .i64 13]) ∧ ∃ k, w' = w.drewN k := by
  have hl := fun k => (h.files.chg ((Chg.refl (fun _ => False) w).drewN k) (fun h => h)).look ⟨(parentB p.data.toList).toArray⟩ (parent_len p hs)
  have hc4 : w.cell? ⟨S.B, 4, none⟩ = some (.map (some S.M)) := h.blk.cell 4
  simp only [ptrOf, hF, Option.isSome_none, Option.map_none] at hl
  clear h hF
  go_enter Tryz.func49, Tryz.ntmps49
  go_wp2_with fail
  go_quiet ((go_at_call 75; first | exact quietS rfl (Parent_spec p _ hs) | exact Calls.quiet_of_same (Parent_spec p _ hs)))
  go_wp2
  go_ret2
  exact ⟨rfl, nq, rfl⟩

set_option maxRecDepth 100000 in
theorem place_kind {S : FSt} {role : Nat → Option (Nat × Nat)} (p : ByteArray) (w : World) (h : IsFS w S role) (hs : p.size < 4611686018427387904) (b : Nat) (i : Ino) (hF : S.F (parentB p.data.toList) = some b) (hi : S.ino b = some i) (hkd : i.kind ≠ 0) :
    Calls Tryz.prog 49 #[.pointer (some ⟨S.B, 0, none⟩), .string p] w fun e w' => e = .returned (.tuple #[.pointer none, .int .i64 13]) ∧ ∃ k, w' = w.drewN k := by
  have hl := fun k => (h.files.chg ((Chg.refl (fun _ => False) w).drewN k) (fun h => h)).look ⟨(parentB p.data.toList).toArray⟩ (parent_len p hs)
  have hc4 : w.cell? ⟨S.B, 4, none⟩ = some (.map (some S.M)) := h.blk.cell 4
  have hk : w.cell? ⟨b, 0, none⟩ = some (.int .i64 i.kind) := (h.inos b i hi).cell 0
  simp only [ptrOf, hF, Option.isSome_some, Option.map_some] at hl
  have ht : (i.kind == 0) = false := by simpa using hkd
  clear h hF hi hkd
  go_enter Tryz.func49, Tryz.ntmps49
  go_wp2_with fail
  go_quiet ((go_at_call 75; first | exact quietS rfl (Parent_spec p _ hs) | exact Calls.quiet_of_same (Parent_spec p _ hs)))
  go_wp2
  go_ret2
  exact ⟨rfl, nq, rfl⟩

set_option maxRecDepth 100000 in
theorem place_dup {S : FSt} {role : Nat → Option (Nat × Nat)} (p : ByteArray) (w : World) (h : IsFS w S role) (hs : p.size < 4611686018427387904) (b : Nat) (i : Ino) (hF : S.F (parentB p.data.toList) = some b) (hi : S.ino b = some i) (hkd : i.kind = 0) (c : Nat) (hD : S.F p.data.toList = some c) :
    Calls Tryz.prog 49 #[.pointer (some ⟨S.B, 0, none⟩), .string p] w fun e w' => e = .returned (.tuple #[.pointer none, .int .i64 14]) ∧ ∃ k, w' = w.drewN k := by
  have hl := fun k => (h.files.chg ((Chg.refl (fun _ => False) w).drewN k) (fun h => h)).look ⟨(parentB p.data.toList).toArray⟩ (parent_len p hs)
  have hc4 : w.cell? ⟨S.B, 4, none⟩ = some (.map (some S.M)) := h.blk.cell 4
  have hl2 := fun k => (h.files.chg ((Chg.refl (fun _ => False) w).drewN k) (fun h => h)).look p (by unfold maxLen; omega)
  have hk : w.cell? ⟨b, 0, none⟩ = some (.int .i64 i.kind) := (h.inos b i hi).cell 0
  simp only [ptrOf, hF, Option.isSome_some, Option.map_some] at hl
  simp only [ptrOf, hD, Option.isSome_some, Option.map_some] at hl2
  rw [hkd] at hk
  clear h hF hi hkd hD
  go_enter Tryz.func49, Tryz.ntmps49
  go_wp2_with fail
  go_quiet ((go_at_call 75; first | exact quietS rfl (Parent_spec p _ hs) | exact Calls.quiet_of_same (Parent_spec p _ hs)))
  go_wp2
  go_ret2
  exact ⟨rfl, nq, rfl⟩

set_option maxRecDepth 100000 in
theorem place_ok {S : FSt} {role : Nat → Option (Nat × Nat)} (p : ByteArray) (w : World) (h : IsFS w S role) (hs : p.size < 4611686018427387904) (b : Nat) (i : Ino) (hF : S.F (parentB p.data.toList) = some b) (hi : S.ino b = some i) (hkd : i.kind = 0) (hD : S.F p.data.toList = none) :
    Calls Tryz.prog 49 #[.pointer (some ⟨S.B, 0, none⟩), .string p] w fun e w' => e = .returned (.tuple #[.pointer (some ⟨b, 0, none⟩), .int .i64 0]) ∧ ∃ k, w' = w.drewN k := by
  have hl := fun k => (h.files.chg ((Chg.refl (fun _ => False) w).drewN k) (fun h => h)).look ⟨(parentB p.data.toList).toArray⟩ (parent_len p hs)
  have hc4 : w.cell? ⟨S.B, 4, none⟩ = some (.map (some S.M)) := h.blk.cell 4
  have hl2 := fun k => (h.files.chg ((Chg.refl (fun _ => False) w).drewN k) (fun h => h)).look p (by unfold maxLen; omega)
  have hk : w.cell? ⟨b, 0, none⟩ = some (.int .i64 i.kind) := (h.inos b i hi).cell 0
  simp only [ptrOf, hF, Option.isSome_some, Option.map_some] at hl
  simp only [ptrOf, hD, Option.isSome_none, Option.map_none] at hl2
  rw [hkd] at hk
  clear h hF hi hkd hD
  go_enter Tryz.func49, Tryz.ntmps49
  go_wp2_with fail
  go_quiet ((go_at_call 75; first | exact quietS rfl (Parent_spec p _ hs) | exact Calls.quiet_of_same (Parent_spec p _ hs)))
  go_wp2
  go_ret2
  exact ⟨rfl, nq, rfl⟩
end Go.Proofs.YtfkfeoocglcjgaaGreatDoor
