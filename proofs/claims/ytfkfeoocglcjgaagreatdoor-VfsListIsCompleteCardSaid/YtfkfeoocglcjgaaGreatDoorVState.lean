/- The file system in memory; find. -/
import Derived.Test.YtfkfeoocglcjgaaGreatDoorVFiles
set_option linter.unusedVariables false
set_option linter.unusedSimpArgs false
namespace Go.Proofs.YtfkfeoocglcjgaaGreatDoor
open Go.RowKit

structure Ino where
  kind : Int
  mode : Int
  num : Int
  links : Int
  size : Int
  target : ByteArray
  uid : Int
  mtime : Int
  dv : Value
  nv : Value
  data : List UInt8
  names : List ByteArray

def Ino.info (i : Ino) : List Value := [.int .i64 i.kind, .int .i64 i.mode, .int .i64 i.num, .int .i64 i.links, .int .i64 i.size, .string i.target, .int .i64 i.uid, .int .i64 i.mtime]
def Ino.cells (i : Ino) : Array Value := #[.int .i64 i.kind, .int .i64 i.mode, .int .i64 i.num, .int .i64 i.links, .int .i64 i.size, .string i.target, .int .i64 i.uid, .int .i64 i.mtime, i.dv, i.nv]

structure FSt where
  B : Nat
  M : Nat
  next : Int
  step : Int
  lists : Int
  rv : Value
  rot : List Int
  n : Nat
  F : List UInt8 → Option Nat
  ino : Nat → Option Ino

/-- The file system lies in memory; 'role' tells what each of its blocks is for. -/
structure IsFS (w : World) (S : FSt) (role : Nat → Option (Nat × Nat)) : Prop where
  blk : Blk w S.B #[.int .i64 S.next, .int .i64 S.step, S.rv, .int .i64 S.lists, .map (some S.M)] 68
  files : Files w S.M S.n S.F
  inos : ∀ b i, S.ino b = some i → Blk w b i.cells 91
  datas : ∀ b i, S.ino b = some i → w.ownsRow 0 5 1 i.dv i.data.length (by8 i.data)
  namess : ∀ b i, S.ino b = some i → w.ownsRow 0 9 1 i.nv i.names.length (i.names.map .string)
  rots : w.ownsRow 0 3 1 S.rv S.rot.length (i64s S.rot)
  mem : ∀ p b, S.F p = some b → ∃ i, S.ino b = some i
  rB : role S.B = some (S.B, 3)
  rM : role S.M = some (S.B, 4)
  rI : ∀ b i, S.ino b = some i → role b = some (b, 0)
  rD : ∀ b i k, S.ino b = some i → i.dv.ownBlock = some k → role k = some (b, 1)
  rN : ∀ b i k, S.ino b = some i → i.nv.ownBlock = some k → role k = some (b, 2)
  rR : ∀ k, S.rv.ownBlock = some k → role k = some (S.B, 5)
  rlt : ∀ k r, role k = some r → k < w.heap.size

theorem IsFS.chg {P : Nat → Prop} {w w' : World} {S : FSt} {role : Nat → Option (Nat × Nat)} (h : IsFS w S role) (c : Chg P w w') (hP : ∀ k r, role k = some r → ¬ P k) : IsFS w' S role where
  blk := h.blk.chg c (hP _ _ h.rB)
  files := h.files.chg c (hP _ _ h.rM)
  inos := fun b i hb => (h.inos b i hb).chg c (hP _ _ (h.rI b i hb))
  datas := fun b i hb => own_chg (h.datas b i hb) c (fun k hk => hP _ _ (h.rD b i k hb hk))
  namess := fun b i hb => own_chg (h.namess b i hb) c (fun k hk => hP _ _ (h.rN b i k hb hk))
  rots := own_chg h.rots c (fun k hk => hP _ _ (h.rR k hk))
  mem := h.mem
  rB := h.rB
  rM := h.rM
  rI := h.rI
  rD := h.rD
  rN := h.rN
  rR := h.rR
  rlt := fun k r hk => Nat.lt_of_lt_of_le (h.rlt k r hk) c.size

theorem find_nil (p : ByteArray) (w : World) : Calls Tryz.prog 38 #[.pointer none, .string p] w fun e w' => e = .returned (.tuple #[.pointer none, .int .i64 1]) ∧ w' = w := by
  go_enter Tryz.func38, Tryz.ntmps38
  go_wp2
  go_ret2
  exact ⟨rfl, rfl⟩

set_option maxRecDepth 100000 in
theorem find_spec {S : FSt} {role : Nat → Option (Nat × Nat)} (p : ByteArray) (w : World) (h : IsFS w S role) (hs : p.size ≤ maxLen) :
    Calls Tryz.prog 38 #[.pointer (some ⟨S.B, 0, none⟩), .string p] w fun e w' =>
      e = .returned (.tuple #[ptrOf (S.F p.data.toList), .int .i64 (if (S.F p.data.toList).isSome then 0 else 19)]) ∧ w' = w := by
  have hl := h.files.look p hs
  have hc4 : w.cell? ⟨S.B, 4, none⟩ = some (.map (some S.M)) := h.blk.cell 4
  cases hF : S.F p.data.toList with
  | none =>
    rw [hF] at hl
    simp only [Option.isSome_none, ptrOf, Option.map_none] at hl ⊢
    clear h hs hF
    go_enter Tryz.func38, Tryz.ntmps38
    go_wp2
    go_ret2
    exact ⟨rfl, rfl⟩
  | some b =>
    rw [hF] at hl
    simp only [Option.isSome_some, ptrOf, Option.map_some] at hl ⊢
    clear h hs hF
    go_enter Tryz.func38, Tryz.ntmps38
    go_wp2
    go_ret2
    exact ⟨rfl, rfl⟩
end Go.Proofs.YtfkfeoocglcjgaaGreatDoor
