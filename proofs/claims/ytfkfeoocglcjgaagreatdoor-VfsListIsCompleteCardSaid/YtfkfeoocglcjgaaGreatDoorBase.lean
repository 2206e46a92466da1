/- Small words on worlds that the walks share: what changed ('Chg'), a whole block ('Blk'), a run of cells that a slice reads ('Rd'). -/
import Derived.Test.YtfkfeoocglcjgaaGreatDoorRows
import Derived.WalkKit
import Derived.WalkSpells
import Derived.WalkLawsBesides
import Derived.Outline
import Derived.Lib.Hide
import Derived.Deep.AppendLies
import Derived.Deep.RegionLaw
import Derived.Deep.RegionLawGrows
import Derived.Deep.RegionWith
import Derived.Deep.RegionHeld3
import Derived.Deep.QuietTactic
import Derived.Deep.DeepFit
import Derived.BigQuiet
import Derived.StillTailTactics
import Derived.IntWalk
set_option linter.unusedVariables false
namespace Go.Proofs.YtfkfeoocglcjgaaGreatDoor
open Go.RowKit

/-- A quiet callee's contract where the region itself stands behind draws. -/
theorem quietD {P : Program} {f : FuncId} {args : Array Value} {w W : World} {a n : Nat} {v : Value} (hW : W = w.drewN (a + n))
    (h : Calls P f args W fun e w' => e = .returned v ∧ ∃ m, w' = W.drewN m) : Calls P f args W fun e w'' => e = .returned v ∧ ∃ m, w'' = w.drewN (a + m) :=
  h.mono fun _ _ ⟨he, m, hm⟩ => ⟨he, n + m, by rw [hm, hW, World.drewN_drewN, Nat.add_assoc]⟩
theorem quietS {P : Program} {f : FuncId} {args : Array Value} {w W : World} {a n : Nat} {v : Value} (hW : W = w.drewN (a + n))
    (h : Calls P f args W fun e w' => e = .returned v ∧ w' = W) : Calls P f args W fun e w'' => e = .returned v ∧ ∃ m, w'' = w.drewN (a + m) :=
  h.mono fun _ _ ⟨he, hm⟩ => ⟨he, n, by rw [hm, hW]⟩

/-- w' is w but for the blocks in S and new ones. -/
structure Chg (S : Nat → Prop) (w w' : World) : Prop where
  os : w'.os = w.os
  tape : w'.tape = w.tape
  output : w'.output = w.output
  size : w.heap.size ≤ w'.heap.size
  block : ∀ k, k < w.heap.size → ¬ S k → w'.heap[k]? = w.heap[k]?

theorem Chg.refl (S : Nat → Prop) (w : World) : Chg S w w := ⟨rfl, rfl, rfl, Nat.le_refl _, fun _ _ _ => rfl⟩
theorem Chg.trans {S T U : Nat → Prop} {a b c : World} (h : Chg S a b) (k : Chg T b c) (hS : ∀ i, i < a.heap.size → S i → U i) (hT : ∀ i, i < a.heap.size → T i → U i) : Chg U a c :=
  ⟨k.os.trans h.os, k.tape.trans h.tape, k.output.trans h.output, Nat.le_trans h.size k.size, fun i hi hn =>
    (k.block i (Nat.lt_of_lt_of_le hi h.size) (fun ht => hn (hT i hi ht))).trans (h.block i hi (fun hs => hn (hS i hi hs)))⟩
theorem Chg.mono {S U : Nat → Prop} {a b : World} (h : Chg S a b) (hS : ∀ i, i < a.heap.size → S i → U i) : Chg U a b :=
  ⟨h.os, h.tape, h.output, h.size, fun i hi hn => h.block i hi (fun hs => hn (hS i hi hs))⟩
theorem Chg.drew {S : Nat → Prop} {a b : World} (h : Chg S a b) : Chg S a b.drew := ⟨h.os, h.tape, h.output, h.size, h.block⟩
theorem Chg.drewN {S : Nat → Prop} {a b : World} (h : Chg S a b) (n : Nat) : Chg S a (b.drewN n) := ⟨h.os, h.tape, h.output, h.size, h.block⟩
theorem Chg.alloc {S : Nat → Prop} {a b : World} (h : Chg S a b) (o : Obj) : Chg S a (b.alloc o) :=
  ⟨h.os, h.tape, h.output, by simp; have := h.size; omega, fun k hk hn => by
    rw [Below.heap_alloc b o k (Nat.lt_of_lt_of_le hk h.size)]; exact h.block k hk hn⟩
theorem Chg.setCell {S : Nat → Prop} {a b : World} (h : Chg S a b) (p : Addr) (u : Value) (hp : p.block < a.heap.size → S p.block) : Chg S a (b.setCell p u) :=
  ⟨h.os, h.tape, h.output, by simpa using h.size, fun k hk hn => by
    rw [Below.heap_setCell b p u k (fun e => hn (e ▸ hp (e ▸ hk)))]; exact h.block k hk hn⟩
theorem Chg.of_grown {w w' : World} {row : Option Nat} (h : w.grownBy w' row) : Chg (fun k => some k = row) w w' := ⟨h.os, h.tape, h.output, h.size, h.block⟩
theorem Chg.of_below {w w' : World} {B : Nat} (h : Below B w w') : Chg (fun k => B ≤ k) w w' := ⟨h.os, h.tape, h.output, h.size, fun k _ hn => h.block k (by omega)⟩
theorem Chg.below {S : Nat → Prop} {w w' : World} (h : Chg S w w') {B : Nat} (hB : B ≤ w.heap.size) (hS : ∀ k, k < B → ¬ S k) : Below B w w' :=
  ⟨h.os, h.tape, h.output, h.size, fun k hk => h.block k (by omega) (hS k hk)⟩

/-- Block b holds these cells, and none is frozen. -/
def Blk (w : World) (b : Nat) (cs : Array Value) (T : TypeId) : Prop := w.heap[b]? = some (.cells cs T (0, 0))
theorem Blk.lt {w : World} {b : Nat} {cs : Array Value} {T : TypeId} (h : Blk w b cs T) : b < w.heap.size := (Array.getElem?_eq_some_iff.1 h).1
theorem Blk.cell {w : World} {b : Nat} {cs : Array Value} {T : TypeId} (h : Blk w b cs T) (o : Nat) : w.cell? ⟨b, o, none⟩ = cs[o]? := by
  unfold Blk at h; simp [World.cell?, h]
theorem Blk.free {w : World} {b : Nat} {cs : Array Value} {T : TypeId} (h : Blk w b cs T) (o : Nat) : w.frozen? ⟨b, o, none⟩ = false := by
  unfold Blk at h; simp [World.frozen?, h]
theorem Blk.chg {S : Nat → Prop} {w w' : World} {b : Nat} {cs : Array Value} {T : TypeId} (h : Blk w b cs T) (c : Chg S w w') (hS : ¬ S b) : Blk w' b cs T :=
  (c.block b h.lt hS).trans h
theorem Blk.drew {w : World} {b : Nat} {cs : Array Value} {T : TypeId} (h : Blk w b cs T) : Blk w.drew b cs T := h
theorem Blk.drewN {w : World} {b : Nat} {cs : Array Value} {T : TypeId} (h : Blk w b cs T) (n : Nat) : Blk (w.drewN n) b cs T := h
theorem Blk.alloc {w : World} {b : Nat} {cs : Array Value} {T : TypeId} (h : Blk w b cs T) (o : Obj) : Blk (w.alloc o) b cs T :=
  (Below.heap_alloc w o b h.lt).trans h
theorem Blk.new (w : World) (cs : Array Value) (T : TypeId) : Blk (w.alloc (.cells cs T)) w.heap.size cs T := by
  unfold Blk World.alloc; simp
theorem Blk.set {w : World} {b : Nat} {cs : Array Value} {T : TypeId} (h : Blk w b cs T) (o : Nat) (v : Value) : Blk (w.setCell ⟨b, o, none⟩ v) b (cs.setIfInBounds o v) T := by
  unfold Blk at *
  show (w.heap.modify b _)[b]? = _
  rw [Array.getElem?_modify, if_pos rfl, h]
  rfl
theorem Blk.set_ne {w : World} {b : Nat} {cs : Array Value} {T : TypeId} (h : Blk w b cs T) (p : Addr) (v : Value) (hne : b ≠ p.block) : Blk (w.setCell p v) b cs T :=
  (Below.heap_setCell w p v b hne).trans h

/-- From this address on these cells stand. -/
def Rd (w : World) (A : Option Addr) (xs : List Value) : Prop := xs = [] ∨ ∃ g off, A = some ⟨g, off, none⟩ ∧ ∀ j u, xs[j]? = some u → w.cell? ⟨g, off + j, none⟩ = some u
/-- The address's block, if there is one, is none of S. -/
def Off (A : Option Addr) (S : Nat → Prop) : Prop := ∀ ad, A = some ad → ¬ S ad.block
theorem cell_of_block {w w' : World} {a : Addr} (h : w'.heap[a.block]? = w.heap[a.block]?) : w'.cell? a = w.cell? a := by simp [World.cell?, h]
theorem Rd.chg {S : Nat → Prop} {w w' : World} {A : Option Addr} {xs : List Value} (h : Rd w A xs) (c : Chg S w w') (hS : Off A S) : Rd w' A xs := by
  rcases h with h | ⟨g, off, rfl, h⟩
  · exact .inl h
  · refine .inr ⟨g, off, rfl, fun j u hu => ?_⟩
    have h1 := h j u hu
    have hlt : g < w.heap.size := World.block_lt_of_cell? w _ h1
    rw [cell_of_block (w := w) (c.block g hlt (hS _ rfl))]; exact h1
theorem Rd.drew {w : World} {A : Option Addr} {xs : List Value} (h : Rd w A xs) : Rd w.drew A xs := h
theorem Rd.take {w : World} {A : Option Addr} {xs : List Value} (h : Rd w A xs) (n : Nat) : Rd w A (xs.take n) := by
  rcases h with h | ⟨g, off, rfl, h⟩
  · subst h; exact .inl (by simp)
  · refine .inr ⟨g, off, rfl, fun j u hu => h j u ?_⟩
    rw [List.getElem?_take] at hu
    split at hu
    · exact hu
    · cases hu
theorem Rd.of_own {w : World} {e : TypeId} {size : Nat} {v : Value} {n : Nat} {xs : List Value} {A : Option Addr} {m c : Nat} (h : w.ownsRow 0 e size v n xs) (hv : v = .slice A m c) : Rd w A xs := by
  subst hv
  obtain ⟨hl, h⟩ := h
  rcases h with ⟨hv, rfl⟩ | ⟨g, cap, cur, hv, _, hb, hn, hc, hs, ht⟩
  · simp at hl; exact .inl hl
  · injection hv with h1 h2 h3
    subst h1
    refine .inr ⟨g, 0, rfl, fun j u hu => ?_⟩
    rw [← ht] at hu
    simp only [World.cell?, hb]
    rw [List.getElem?_take] at hu
    split at hu
    · simpa using hu
    · cases hu

/-- Bytes as cells. -/
def by8 (l : List UInt8) : List Value := l.map fun b => .int .u8 (b.toNat : Int)
theorem by8_length (l : List UInt8) : (by8 l).length = l.length := by simp [by8]
theorem by8_append (a b : List UInt8) : by8 (a ++ b) = by8 a ++ by8 b := by simp [by8]
theorem by8_take (a : List UInt8) (n : Nat) : by8 (a.take n) = (by8 a).take n := by simp [by8, List.map_take]
theorem by8_drop (a : List UInt8) (n : Nat) : by8 (a.drop n) = (by8 a).drop n := by simp [by8, List.map_drop]
/-- Whole numbers as cells. -/
def i64s (l : List Int) : List Value := l.map fun b => .int .i64 b

theorem own_chg {S : Nat → Prop} {w w' : World} {e : TypeId} {size : Nat} {v : Value} {n : Nat} {xs : List Value} (h : w.ownsRow 0 e size v n xs) (c : Chg S w w') (hS : ∀ k, v.ownBlock = some k → ¬ S k) : w'.ownsRow 0 e size v n xs := by
  obtain ⟨hl, h⟩ := h
  refine ⟨hl, ?_⟩
  rcases h with h | ⟨g, cap, cur, rfl, h0, hb, h1⟩
  · exact .inl h
  · refine .inr ⟨g, cap, cur, rfl, h0, ?_, h1⟩
    rw [c.block g (Array.getElem?_eq_some_iff.1 hb).1 (hS g rfl)]; exact hb

theorem own_form {w : World} {e : TypeId} {size : Nat} {v : Value} {n : Nat} {xs : List Value} (h : w.ownsRow 0 e size v n xs) : ∃ A cap, v = .slice A n cap ∧ n ≤ cap ∧ (A = none → n = 0 ∧ cap = 0) := by
  rcases h.2 with ⟨rfl, rfl⟩ | ⟨g, cap, cur, rfl, _, _, h, _⟩
  · exact ⟨none, 0, rfl, Nat.le_refl _, fun _ => ⟨rfl, rfl⟩⟩
  · exact ⟨_, _, rfl, h, fun h => by cases h⟩

theorem cell_keep {w w' : World} {a : Addr} {v : Value} (h : Chg (fun _ => False) w w') (hc : w.cell? a = some v) : w'.cell? a = some v :=
  (cell_of_block (w := w) (h.block a.block (World.block_lt_of_cell? w a hc) (fun h => h))).trans hc
theorem free_keep {w w' : World} {a : Addr} (h : Chg (fun _ => False) w w') (hl : a.block < w.heap.size) (hc : w.frozen? a = false) : w'.frozen? a = false :=
  (World.frozen?_of_block (w := w) (h.block a.block hl (fun h => h))).trans hc

theorem Chg.of_drewN {S : Nat → Prop} {w w' : World} {n : Nat} (h : Chg S (w.drewN n) w') : Chg S w w' := ⟨h.os, h.tape, h.output, h.size, h.block⟩
theorem Chg.of_drew {S : Nat → Prop} {w w' : World} (h : Chg S w.drew w') : Chg S w w' := ⟨h.os, h.tape, h.output, h.size, h.block⟩

theorem own_blk_eq {g n c k : Nat} (h : (Value.slice (some ⟨g, 0, none⟩) n c).ownBlock = some k) : g = k := by simpa [Value.ownBlock] using h
theorem own_ge {g n c B : Nat} (hB : B ≤ g) (k : Nat) (h : (Value.slice (some ⟨g, 0, none⟩) n c).ownBlock = some k) : B ≤ k := own_blk_eq h ▸ hB
theorem own_or {g n c B g' H : Nat} (h : (Value.slice (some ⟨g, 0, none⟩) n c).ownBlock = some g' ∨ g' = H) (hB : B ≤ g) (hH : B ≤ H) : B ≤ g' := by
  rcases h with h | h
  · exact own_blk_eq h ▸ hB
  · exact h ▸ hH

theorem Rd.drop {w : World} {A : Option Addr} {xs : List Value} (h : Rd w A xs) (n : Nat) : Rd w (A.map (·.add n)) (xs.drop n) := by
  rcases h with h | ⟨g, off, rfl, h⟩
  · subst h; exact .inl (by simp)
  · refine .inr ⟨g, off + n, ?_, fun j u hu => ?_⟩
    · simp only [Option.map_some, Addr.add]; split <;> simp_all
    · rw [Nat.add_assoc]; exact h _ u (by rw [List.getElem?_drop] at hu; exact hu)

end Go.Proofs.YtfkfeoocglcjgaaGreatDoor
