/- Small laws: bytes as a string; equality of metadata; rows that are written. -/
import Derived.Test.YtfkfeoocglcjgaaGreatDoorVOp
import Derived.Laws.BytesArg
import Derived.Shelf.Bytes.SlSmallAll
set_option linter.unusedVariables false
set_option linter.unusedSimpArgs false
namespace Go.Proofs.YtfkfeoocglcjgaaGreatDoor
open Go.RowKit

def strB (l : List UInt8) : ByteArray := ⟨l.toArray⟩
theorem strOf_by (l : List UInt8) : strOfNums (l.map fun b => (b.toNat : Int)) = strB l := by
  unfold strOfNums strB
  congr 1
  rw [List.map_map]
  have : (fun n : Int => UInt8.ofNat n.toNat) ∘ (fun b : UInt8 => (b.toNat : Int)) = id := by
    funext b; simp
  rw [this, List.map_id]
theorem conv_rd (w : World) (A : Option Addr) (n c : Nat) (l : List UInt8) (hn : l.length = n) (h : Rd w A (by8 l)) :
    (convert 24 9 (.slice A n c)).run Tryz.prog w = .ok (.string (strB l)) w := by
  subst hn
  by_cases h0 : l = []
  · subst h0
    exact run_convert_bytes_zero w 24 5 Tryz.underlying24 Tryz.underlying5 A c 9 Tryz.underlying9
  · rcases h with h | ⟨g, off, rfl, h⟩
    · exact absurd h (by8_ne h0)
    · have := run_convert_bytes_arg (P := Tryz.prog) w 24 5 Tryz.underlying24 Tryz.underlying5 g off l.length c (l.map fun b => (b.toNat : Int)) (by simp) (fun i hi => by
        rw [h i (.int .u8 (l[i].toNat : Int)) (by simp [by8, hi])]
        simp [List.getD_eq_getElem?_getD, hi]) 9 Tryz.underlying9
      rw [this, strOf_by]

def Info8.beq (i j : Info8) : Bool := i.kind == j.kind && (i.mode == j.mode && (i.num == j.num && (i.links == j.links && (i.size == j.size && (i.target.toList == j.target.toList && (i.uid == j.uid && i.mtime == j.mtime))))))
theorem bytes_eq {a b : ByteArray} (h : a.toList = b.toList) : a = b := by
  rw [ByteArray.toList_eq, ByteArray.toList_eq] at h
  exact ByteArray.ext (Array.toList_inj.1 h)
theorem Info8.beq_true {i j : Info8} : i.beq j = true ↔ i = j := by
  unfold Info8.beq
  obtain ⟨a, b, c, d, e, f, g, h⟩ := i
  obtain ⟨a', b', c', d', e', f', g', h'⟩ := j
  simp only [Bool.and_eq_true, beq_iff_eq, Info8.mk.injEq]
  constructor
  · rintro ⟨h1, h2, h3, h4, h5, h6, h7, h8⟩; exact ⟨h1, h2, h3, h4, h5, bytes_eq h6, h7, h8⟩
  · rintro ⟨h1, h2, h3, h4, h5, h6, h7, h8⟩; exact ⟨h1, h2, h3, h4, h5, by rw [h6], h7, h8⟩

theorem ite_ok (p : Prop) [Decidable p] (b : Bool) (w : World) : (if p then Result.ok (Value.bool b) w else Result.ok (Value.bool false) w) = Result.ok (Value.bool (decide p && b)) w := by
  split <;> simp [*]
theorem eql_info (i j : Info8) (w : World) : (binOp .eql 52 i.val j.val).run Tryz.prog w = .ok (.bool (i.beq j)) w := by
  unfold Info8.val Info8.beq
  simp [go_sem, Tryz.underlying52]
  rw [show (if i.mtime = j.mtime then Result.ok (Value.bool true) w else Result.ok (Value.bool false) w) = Result.ok (Value.bool (decide (i.mtime = j.mtime) && true)) w from ite_ok _ _ _]
  rw [ite_ok, ite_ok, ite_ok, ite_ok, ite_ok, ite_ok, ite_ok]
  congr 2
  rw [Bool.eq_iff_iff]
  simp
theorem neq_info (i j : Info8) (w : World) : (binOp .neq 52 i.val j.val).run Tryz.prog w = .ok (.bool (!(i.beq j))) w := by
  have h := eql_info i j w
  unfold Info8.val at *
  rw [run_eql_struct] at h
  rw [run_neq_struct]
  generalize (Op.equalIn 10000 52 _ _).run Tryz.prog w = r at *
  cases r with
  | ok b w2 =>
    simp only [Result.andThen_ok, Result.ok.injEq, Value.bool.injEq] at h ⊢
    exact ⟨by rw [h.1], h.2⟩
  | halt x w2 => simp [Result.andThen] at h

/-- Bytes whose values are left open. -/
def i8 (l : List Int) : List Value := l.map fun x => .int .u8 x
theorem i8_of_by8 (l : List UInt8) : by8 l = i8 (l.map fun b => (b.toNat : Int)) := by simp [by8, i8]

/-- A slice of the call's own whose bytes are left open. -/
structure OwnB (w : World) (g n cap : Nat) : Prop where
  out : ∃ l : List Int, w.ownsRow 0 5 1 (.slice (some ⟨g, 0, none⟩) n cap) n (i8 l)
theorem OwnB.chg {S : Nat → Prop} {w w' : World} {g n cap : Nat} (h : OwnB w g n cap) (c : Chg S w w') (hS : ¬ S g) : OwnB w' g n cap := by
  obtain ⟨l, h⟩ := h
  exact ⟨l, own_chg h c (fun k hk => by have := own_blk_eq hk; subst this; exact hS)⟩
theorem OwnB.lt {w : World} {g n cap : Nat} (h : OwnB w g n cap) : g < w.heap.size := by
  obtain ⟨l, h⟩ := h
  exact (h.lt g rfl).2
theorem OwnB.cell {w : World} {g n cap : Nat} (h : OwnB w g n cap) (k : Nat) (hk : k < n) : ∃ x, w.cell? ⟨g, k, none⟩ = some (.int .u8 x) ∧ w.frozen? ⟨g, k, none⟩ = false := by
  obtain ⟨l, h⟩ := h
  obtain ⟨cur, hB, hnc, hcm, hsz, htk⟩ := own_blk h
  have hl : l.length = n := by have := h.1; simp [i8] at this; omega
  refine ⟨l[k], ?_, hB.free k⟩
  rw [hB.cell]
  have e : (cur.toList.take n)[k]? = (i8 l)[k]? := by rw [htk]
  rw [List.getElem?_take, if_pos hk] at e
  simp [i8, hl, hk] at e
  simpa using e
theorem OwnB.set {w : World} {g n cap : Nat} (h : OwnB w g n cap) (k : Nat) (hk : k < n) (x : Int) : OwnB (w.setCell ⟨g, k, none⟩ (.int .u8 x)) g n cap := by
  obtain ⟨l, h⟩ := h
  obtain ⟨cur, hB, hnc, hcm, hsz, htk⟩ := own_blk h
  refine ⟨l.set k x, own_of_blk (hB.set k (.int .u8 x)) hnc hcm (by simpa using hsz) ?_⟩
  rw [Array.toList_setIfInBounds, List.take_set, htk]
  simp [i8, List.map_set]
end Go.Proofs.YtfkfeoocglcjgaaGreatDoor
