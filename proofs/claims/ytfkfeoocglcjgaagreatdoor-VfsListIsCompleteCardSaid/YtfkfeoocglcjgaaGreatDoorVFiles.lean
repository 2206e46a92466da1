/- A map from paths to pointers. -/
import Derived.Test.YtfkfeoocglcjgaaGreatDoorVInsert
import Derived.Test.YtfkfeoocglcjgaaGreatDoorShelfB
import Derived.Maps.OwnSet
import Derived.StringKeys
set_option linter.unusedVariables false
set_option linter.unusedSimpArgs false
namespace Go.Proofs.YtfkfeoocglcjgaaGreatDoor
open Go.RowKit Go.Maps

/-- How an element reads: the block that the pointer leads to; nil: -1. -/
def ptrElem : Value → Option (DataW Unit × List MemPlace)
  | .pointer none => some (.lit (.int .i64 (-1)), [])
  | .pointer (some ⟨b, 0, none⟩) => some (.lit (.int .i64 b), [])
  | _ => none
def ptrOf (o : Option Nat) : Value := .pointer (o.map fun b => ⟨b, 0, none⟩)
def numOf (o : Option Nat) : Int := match o with | some b => b | none => -1
theorem ptrElem_of (o : Option Nat) : ptrElem (ptrOf o) = some (.lit (.int .i64 (numOf o)), []) := by cases o <;> rfl
theorem ptrElem_inv {v : Value} {o : Option Nat} {ps : List MemPlace} (h : ptrElem v = some (.lit (.int .i64 (numOf o)), ps)) : v = ptrOf o := by
  unfold ptrElem at h
  split at h
  · cases o with
    | none => rfl
    | some b => simp [numOf] at h
  · rename_i b
    cases o with
    | none => simp [numOf] at h
    | some c =>
      simp [numOf] at h
      obtain rfl : b = c := by omega
      rfl
  · cases h

/-- Block M is a map of at most n paths; F tells the inode's block at each. -/
structure Files (w : World) (M n : Nat) (F : List UInt8 → Option Nat) : Prop where
  out : ∃ D : DataW Unit, w.ownsMap Tryz.prog 9 ptrElem M n D ∧ ∀ s : List UInt8, has D (.string s) = (F s).isSome ∧ D.atKey (.string s) (.lit (.int .i64 (-1))) = .lit (.int .i64 (numOf (F s)))

theorem Files.lt {w : World} {M n : Nat} {F : List UInt8 → Option Nat} (h : Files w M n F) : M < w.heap.size := by
  obtain ⟨D, hD, _⟩ := h; exact hD.lt
theorem ownsMap_chg {S : Nat → Prop} {w w' : World} {k : TypeId} {R : Value → Option (DataW Unit × List MemPlace)} {b n : Nat} {D : DataW Unit} (h : w.ownsMap Tryz.prog k R b n D) (c : Chg S w w') (hS : ¬ S b) : w'.ownsMap Tryz.prog k R b n D := by
  have hlt := h.lt
  obtain ⟨es, clock, hb, F, hs, hD⟩ := h
  exact ⟨es, clock, (c.block b hlt hS).trans hb, F, hs, hD⟩
theorem Files.chg {S : Nat → Prop} {w w' : World} {M n : Nat} {F : List UInt8 → Option Nat} (h : Files w M n F) (c : Chg S w w') (hS : ¬ S M) : Files w' M n F := by
  obtain ⟨D, hD, hF⟩ := h
  exact ⟨D, ownsMap_chg hD c hS, hF⟩
theorem Files.made (w : World) : Files (w.alloc (.map #[] 0)) w.heap.size 0 (fun _ => none) :=
  ⟨.map [], World.ownsMap_made w _ _ _, fun s => ⟨rfl, rfl⟩⟩

theorem zeroPtr (w : World) : (zeroValue 69).run Tryz.prog w = .ok (.pointer none) w := by kernel_rfl

theorem Files.look {w : World} {M n : Nat} {F : List UInt8 → Option Nat} (h : Files w M n F) (s : ByteArray) (hs : s.size ≤ maxLen) :
    (Instr.lookup 66 (.map (some M)) (.string s) true).run Tryz.prog w = .ok (.tuple #[ptrOf (F s.data.toList), .bool (F s.data.toList).isSome]) w := by
  obtain ⟨D, hD, hF⟩ := h
  obtain ⟨v, ps, hrun, hv⟩ := hD.look_ok (string_keyed Tryz.underlying9) Tryz.underlying66 (zeroPtr w) (zd := .lit (.int .i64 (-1))) (zp := []) rfl (WideMaps.keyOf_string_mk Tryz.underlying9 hs)
  rw [(hF _).2] at hv
  rw [hrun, ptrElem_inv hv, (hF _).1]

theorem Files.store {w : World} {M n : Nat} {F : List UInt8 → Option Nat} (h : Files w M n F) (hn : n < maxLen) (s : ByteArray) (hs : s.size ≤ maxLen) (i : Nat) :
    ∃ w', (Instr.mapUpdate 66 (.map (some M)) (.string s) (.pointer (some ⟨i, 0, none⟩))).run Tryz.prog w = .ok () w' ∧ Files w' M (n + 1) (fun t => if t = s.data.toList then some i else F t) ∧ Chg (fun k => k = M) w w' := by
  obtain ⟨D, hD, hF⟩ := h
  obtain ⟨w', hrun, hD', hg⟩ := hD.store (string_keyed Tryz.underlying9) Tryz.underlying66 hn (WideMaps.keyOf_string_mk Tryz.underlying9 hs) (val := .pointer (some ⟨i, 0, none⟩)) (d := .lit (.int .i64 i)) (ps := []) rfl
  refine ⟨w', hrun, ⟨_, hD', fun t => ?_⟩, (Chg.of_grown hg.grown).mono (fun k _ h => by cases h; rfl)⟩
  have hkey : WideAt.IsKeyLit (.string s.data.toList) := by trivial
  by_cases ht : t = s.data.toList
  · subst ht
    simp only [if_true]
    exact ⟨has_put_same hD.isMap hkey _, atKey_put_same hD.isMap hkey _ _⟩
  · rw [if_neg ht]
    have hne : (Lit.string t) ≠ .string s.data.toList := fun e => ht (by injection e)
    exact ⟨(has_put_other hne _).trans (hF t).1, (atKey_put_other hne _ _).trans (hF t).2⟩
end Go.Proofs.YtfkfeoocglcjgaaGreatDoor
