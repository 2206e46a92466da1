/- Two file systems side by side. -/
import Derived.Test.YtfkfeoocglcjgaaGreatDoorVSort
import Derived.Test.YtfkfeoocglcjgaaGreatDoorVTl
import Derived.Test.YtfkfeoocglcjgaaGreatDoorVOp
import Derived.Test.YtfkfeoocglcjgaaGreatDoorVAlv
set_option linter.unusedVariables false
set_option linter.unusedSimpArgs false
namespace Go.Proofs.YtfkfeoocglcjgaaGreatDoor
open Go.RowKit

structure Pair (w0 wr : World) (B1 B2 : Nat) (P Q : PFS) (O1 O2 : Nat → Prop) : Prop where
  m1 : Mine w0 wr B1 P O1
  m2 : Mine w0 wr B2 Q O2
  dis : ∀ k, O1 k → ¬ O2 k
theorem Pair.keep {w0 wr w' : World} {B1 B2 : Nat} {P Q : PFS} {O1 O2 : Nat → Prop} (h : Pair w0 wr B1 B2 P Q O1 O2) (c : Chg (fun _ => False) wr w') : Pair w0 w' B1 B2 P Q O1 O2 := ⟨h.m1.keep c, h.m2.keep c, h.dis⟩
theorem Pair.left {w0 wr w' : World} {B1 B2 : Nat} {P P' Q : PFS} {O1 O1' O2 : Nat → Prop} (h : Pair w0 wr B1 B2 P Q O1 O2) (f : HasFS w' B1 P' O1') (n : Next wr w' O1 O1') : Pair w0 w' B1 B2 P' Q O1' O2 :=
  ⟨h.m1.next f n, ⟨h.m2.fs.chg n.chg (fun k hk h1 => h.dis k h1 hk), (h.m1.next f n).chg, h.m2.ge⟩, fun k h1 h2 => (n.own k h1).elim (fun hh => h.dis k hh h2) (fun hh => by have := h.m2.fs.lt h2; omega)⟩
theorem Pair.right {w0 wr w' : World} {B1 B2 : Nat} {P Q Q' : PFS} {O1 O2 O2' : Nat → Prop} (h : Pair w0 wr B1 B2 P Q O1 O2) (f : HasFS w' B2 Q' O2') (n : Next wr w' O2 O2') : Pair w0 w' B1 B2 P Q' O1 O2' :=
  ⟨⟨h.m1.fs.chg n.chg (fun k hk h1 => h.dis k hk h1), (h.m2.next f n).chg, h.m1.ge⟩, h.m2.next f n, fun k h1 h2 => (n.own k h2).elim (fun hh => h.dis k h1 hh) (fun hh => by have := h.m1.fs.lt h1; omega)⟩

structure Alike (P Q : PFS) (r : List Int) (j j2 : Nat) : Prop where
  v : SameView P Q
  d1 : DirOk P
  d2 : DirOk Q
  t : TreeOk P
  r1 : P.rot = r
  r2 : Q.rot = []
  l1 : P.lists = j
  l2 : Q.lists = j2
theorem Alike.step {P Q P' Q' : PFS} {r : List Int} {j j2 : Nat} (h : Alike P Q r j j2) (iP : P.Inv) (iQ : Q.Inv) {a : ActD} (sP : DoStep P a P') (sQ : DoStep Q a Q') (hl : a.path.size ≤ 20000) : Alike P' Q' r j j2 :=
  ⟨h.v.step h.d1 h.d2 iP iQ sP sQ, (do_view h.d1 iP sP).1, (do_view h.d2 iQ sQ).1, h.t.step h.d1 iP sP hl, sP.keeps.1.trans h.r1, sQ.keeps.1.trans h.r2, sP.keeps.2.trans h.l1, sQ.keeps.2.trans h.l2⟩

theorem root_kind (nb : Nat) (a b : Int) (r : List Int) (p : List UInt8) : (rootP nb a b r).kindAt p = if p = [] then some 0 else none := by
  unfold PFS.kindAt rootP
  split
  · next e => subst e; simp
  · next e => simp [e]
theorem root_names (nb : Nat) (a b : Int) (r : List Int) (p : List UInt8) : (rootP nb a b r).namesAt p = [] := by
  unfold PFS.namesAt rootP
  by_cases e : p = [] <;> simp [e]
theorem root_dir (nb : Nat) (a b : Int) (r : List Int) : DirOk (rootP nb a b r) := by
  refine ⟨fun p q c h1 h2 _ => ?_, fun p _ => root_names _ _ _ _ _⟩
  simp only [rootP] at h1 h2
  split at h1
  · next e1 =>
    split at h2
    · next e2 => rw [e1, e2]
    · cases h2
  · cases h1
theorem Alike.root (n1 n2 : Nat) (r : List Int) : Alike (rootP n1 4 5 r) (rootP n2 1 1 []) r 0 0 :=
  ⟨⟨fun p => by rw [root_kind, root_kind], fun p => by rw [root_names, root_names]⟩, root_dir _ _ _ _, root_dir _ _ _ _,
    ⟨fun d => by rw [root_names]; exact List.Pairwise.nil, fun d x hx => by rw [root_names] at hx; cases hx⟩, rfl, rfl, rfl, rfl⟩

theorem stat_of_kind {P : PFS} {p : List UInt8} {k : Int} (h : P.kindAt p = some k) : (P.stat p).kind = k ∧ P.findErr p = 0 := by
  unfold PFS.kindAt at h
  cases hF : P.F p with
  | none => rw [hF] at h; cases h
  | some b =>
    rw [hF] at h
    cases hi : P.ino b with
    | none => simp [hi] at h
    | some i =>
      simp [hi] at h
      unfold PFS.stat PFS.findErr
      rw [hF]
      simp only [hi]
      exact ⟨h, rfl⟩
theorem dir_of_stat {P : PFS} (hi : P.Inv) {p : List UInt8} (h0 : P.findErr p = 0) (hk : (P.stat p).kind = 0) : P.kindAt p = some 0 := by
  unfold PFS.findErr at h0
  cases hF : P.F p with
  | none => rw [hF] at h0; simp at h0
  | some b =>
    obtain ⟨i, h2⟩ := hi.mem _ _ hF
    have h3 := kindAt_of hF h2
    have h4 := (stat_of_kind h3).1
    rw [h3, ← h4, hk]

/-- A listing is the names, turned. -/
theorem turnL_perm (r : Int) (l : List ByteArray) : (turnL r l).Perm l := by
  unfold turnL
  have e : (l.drop (r % l.length).toNat ++ l.take (r % l.length).toNat).Perm l := by
    refine (List.perm_append_comm).trans ?_
    rw [List.take_append_drop]
  split
  · exact (List.reverse_perm _).trans e
  · exact e
theorem turnL_zero (l : List ByteArray) : turnL 0 l = l := by
  unfold turnL
  simp

/-- The list of directories. -/
structure Dirs (w0 wr : World) (O1 O2 : Nat → Prop) (P : PFS) (s : Value) (n : Nat) (ds : List ByteArray) : Prop where
  out : ∃ A c, s = .slice A n c ∧ wr.ownsRow 0 9 1 (.slice A n c) n (ds.map .string) ∧ ∀ j, (Value.slice A n c).ownBlock = some j → w0.heap.size ≤ j ∧ ¬ O1 j ∧ ¬ O2 j
  ln : ds.length = n
  ok : ∀ d ∈ ds, P.kindAt d.data.toList = some 0 ∧ d.size ≤ 20000

structure LiRel (w0 wr : World) (B1 B2 : Nat) (l : List ActD) (r : List Int) (p s : Value) : Prop where
  out : ∃ (k : Nat) (P Q : PFS) (O1 O2 : Nat → Prop) (n : Nat) (ds : List ByteArray), p = .int .i64 k ∧ k ≤ l.length ∧ Pair w0 wr B1 B2 P Q O1 O2 ∧ Alike P Q r 0 0 ∧ P.n ≤ k + 1 ∧ Q.n ≤ k + 1 ∧ n ≤ k + 1 ∧ Dirs w0 wr O1 O2 P s n ds
end Go.Proofs.YtfkfeoocglcjgaaGreatDoor
