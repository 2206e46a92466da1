/- The file system, told without memory; the methods' contracts. -/
import Derived.Test.YtfkfeoocglcjgaaGreatDoorVNw
import Derived.Test.YtfkfeoocglcjgaaGreatDoorVNil
set_option linter.unusedVariables false
set_option linter.unusedSimpArgs false
namespace Go.Proofs.YtfkfeoocglcjgaaGreatDoor
open Go.RowKit

structure PIno where
  kind : Int
  mode : Int
  num : Int
  links : Int
  size : Int
  target : ByteArray
  uid : Int
  mtime : Int
  data : List UInt8
  names : List ByteArray
def Ino.pure (i : Ino) : PIno := ⟨i.kind, i.mode, i.num, i.links, i.size, i.target, i.uid, i.mtime, i.data, i.names⟩
def PIno.info (i : PIno) : List Value := [.int .i64 i.kind, .int .i64 i.mode, .int .i64 i.num, .int .i64 i.links, .int .i64 i.size, .string i.target, .int .i64 i.uid, .int .i64 i.mtime]

structure PFS where
  next : Int
  step : Int
  lists : Int
  rot : List Int
  n : Nat
  F : List UInt8 → Option Nat
  ino : Nat → Option PIno
def FSt.pure (S : FSt) : PFS := ⟨S.next, S.step, S.lists, S.rot, S.n, S.F, fun b => (S.ino b).map Ino.pure⟩

structure PFS.Inv (P : PFS) : Prop where
  st : 1 ≤ P.step ∧ P.step ≤ 1000000
  nx : 0 ≤ P.next ∧ P.next ≤ 1000000 * ((P.n : Int) + 1)
  nm : ∀ b i, P.ino b = some i → i.names.length ≤ P.n
  dt : ∀ b i, P.ino b = some i → i.data.length ≤ 100000000 ∧ i.size = i.data.length
  lk : ∀ b i, P.ino b = some i → 0 ≤ i.links ∧ i.links ≤ P.n
  mem : ∀ p b, P.F p = some b → ∃ i, P.ino b = some i

structure HasFS (w : World) (B : Nat) (P : PFS) (O : Nat → Prop) : Prop where
  out : ∃ S role, IsFS w S role ∧ S.B = B ∧ S.pure = P ∧ ∀ k, O k ↔ Own role k
  inv : P.Inv

theorem HasFS.chg {Q : Nat → Prop} {w w' : World} {B : Nat} {P : PFS} {O : Nat → Prop} (h : HasFS w B P O) (c : Chg Q w w') (hQ : ∀ k, O k → ¬ Q k) : HasFS w' B P O := by
  obtain ⟨⟨S, role, h1, h2, h3, h4⟩, h5⟩ := h
  exact ⟨⟨S, role, h1.chg c (fun k r hk => hQ k ((h4 k).2 ⟨r, hk⟩)), h2, h3, h4⟩, h5⟩
theorem HasFS.lt {w : World} {B : Nat} {P : PFS} {O : Nat → Prop} (h : HasFS w B P O) {k : Nat} (hk : O k) : k < w.heap.size := by
  obtain ⟨⟨S, role, h1, h2, h3, h4⟩, h5⟩ := h
  obtain ⟨r, hr⟩ := (h4 k).1 hk
  exact h1.rlt k r hr
theorem HasFS.ownB {w : World} {B : Nat} {P : PFS} {O : Nat → Prop} (h : HasFS w B P O) : O B := by
  obtain ⟨⟨S, role, h1, rfl, h3, h4⟩, h5⟩ := h
  exact (h4 _).2 ⟨_, h1.rB⟩

/-- What a call may turn: the file system's own blocks; and its blocks afterwards. -/
structure Next (w w' : World) (O O' : Nat → Prop) : Prop where
  chg : Chg O w w'
  own : ∀ k, O' k → O k ∨ w.heap.size ≤ k
theorem Next.refl (w : World) (O : Nat → Prop) : Next w w O O := ⟨Chg.refl _ _, fun _ h => .inl h⟩
theorem Next.of_chg {w w' : World} {O : Nat → Prop} (h : Chg (fun _ => False) w w') : Next w w' O O := ⟨h.mono (fun _ _ h => h.elim), fun _ h => .inl h⟩
theorem Next.trans {a b c : World} {O O1 O2 : Nat → Prop} (h : Next a b O O1) (k : Next b c O1 O2) : Next a c O O2 :=
  ⟨h.chg.trans k.chg (fun _ _ h => h) (fun i hi hk => by rcases h.own i hk with h1 | h1; exact h1; omega), fun i hi => by
    rcases k.own i hi with h1 | h1
    · exact h.own i h1
    · exact .inr (Nat.le_trans h.chg.size h1)⟩

def PFS.kindAt (P : PFS) (p : List UInt8) : Option Int := (P.F p).bind fun b => (P.ino b).map (·.kind)
def PFS.placeErr (P : PFS) (p : List UInt8) : Int := if P.kindAt (parentB p) = some 0 then (if (P.F p).isSome then 14 else 0) else 13
def PFS.makeErr (P : PFS) (p : List UInt8) (kind mode : Int) (t : List UInt8) : Int :=
  if pathErr p ≠ 0 then pathErr p else if mode < 0 ∨ 4095 < mode then 16 else if kind = 2 ∧ recErr t ≠ 0 then recErr t else P.placeErr p
def PFS.linkErr (P : PFS) (p t : List UInt8) : Int :=
  if pathErr p ≠ 0 then pathErr p else if P.placeErr p ≠ 0 then P.placeErr p else match P.kindAt t with | none => 19 | some k => if k = 1 then 0 else 15
theorem pure_kindAt (S : FSt) (p : List UInt8) : S.pure.kindAt p = S.kindAt p := by
  show (S.F p).bind (fun b => ((S.ino b).map Ino.pure).map (·.kind)) = (S.F p).bind fun b => (S.ino b).map (·.kind)
  congr 1
  funext b
  cases S.ino b <;> rfl
theorem pure_placeErr (S : FSt) (p : List UInt8) : S.pure.placeErr p = S.placeErr p := by unfold PFS.placeErr FSt.placeErr; rw [pure_kindAt]; rfl
theorem pure_makeErr (S : FSt) (p : List UInt8) (k m : Int) (t : List UInt8) : S.pure.makeErr p k m t = S.makeErr p k m t := by unfold PFS.makeErr FSt.makeErr; rw [pure_placeErr]
theorem pure_linkErr (S : FSt) (p t : List UInt8) : S.pure.linkErr p t = S.linkErr p t := by
  unfold PFS.linkErr FSt.linkErr
  rw [pure_placeErr, pure_kindAt]
  rfl

def PIno.addName (i : PIno) (x : ByteArray) : PIno := { i with names := insAt i.names (posOf i.names x) x }
def PFS.enter (P : PFS) (p : List UInt8) (pb nb : Nat) : PFS :=
  { P with n := P.n + 1, F := fun t => if t = p then some nb else P.F t, ino := fun b => if b = pb then (P.ino pb).map (fun i => i.addName ⟨(baseB p).toArray⟩) else P.ino b }
def PFS.add (P : PFS) (nb : Nat) (i : PIno) : PFS := { P with next := P.next + P.step, ino := fun b => if b = nb then some i else P.ino b }
def PFS.turn (P : PFS) (b : Nat) (i : PIno) : PFS := { P with ino := fun c => if c = b then some i else P.ino c }
def newP (kind mode num : Int) (target : ByteArray) (data : List UInt8) : PIno := ⟨kind, mode, num, 1, data.length, target, 0, 0, data, []⟩
def PIno.bump (i : PIno) : PIno := { i with links := i.links + 1 }
def PIno.chown (i : PIno) (u m : Int) : PIno := { i with uid := u, mtime := m }

def MakeStep (P : PFS) (p : List UInt8) (kind mode : Int) (t : ByteArray) (data : List UInt8) (P' : PFS) : Prop :=
  if P.makeErr p kind mode t.data.toList = 0 then ∃ pb pi nb, P.F (parentB p) = some pb ∧ P.ino pb = some pi ∧ P.ino nb = none ∧ P' = (P.add nb (newP kind mode P.next t data)).enter p pb nb else P' = P
def LinkStep (P : PFS) (p t : List UInt8) (P' : PFS) : Prop :=
  if P.linkErr p t = 0 then ∃ pb pi nb ni, P.F (parentB p) = some pb ∧ P.ino pb = some pi ∧ P.F t = some nb ∧ P.ino nb = some ni ∧ P' = (P.turn nb ni.bump).enter p pb nb else P' = P
def ChownStep (P : PFS) (p : List UInt8) (u m : Int) (P' : PFS) : Prop :=
  match P.F p with | none => P' = P | some b => ∃ i, P.ino b = some i ∧ P' = P.turn b (i.chown u m)

theorem insAt_length {α : Type} (l : List α) (i : Nat) (x : α) (h : i ≤ l.length) : (insAt l i x).length = l.length + 1 := by simp [insAt]; omega
theorem addName_length (i : PIno) (x : ByteArray) : (i.addName x).names.length = i.names.length + 1 := insAt_length _ _ _ (posOf_le _ _)

theorem placeErr_zero {P : PFS} {p : List UInt8} (h : P.placeErr p = 0) : P.kindAt (parentB p) = some 0 ∧ P.F p = none := by
  unfold PFS.placeErr at h
  split at h
  · next h1 =>
    split at h
    · simp at h
    · next h2 => exact ⟨h1, by simpa using h2⟩
  · simp at h
theorem makeErr_zero {P : PFS} {p : List UInt8} {k m : Int} {t : List UInt8} (h : P.makeErr p k m t = 0) : pathErr p = 0 ∧ ¬ (m < 0 ∨ 4095 < m) ∧ (k = 2 → recErr t = 0) ∧ P.placeErr p = 0 := by
  unfold PFS.makeErr at h
  split at h
  · next h1 => exact absurd h h1
  · next h1 =>
    split at h
    · simp at h
    · next h2 =>
      split at h
      · next h3 => exact absurd h h3.2
      · next h3 =>
        refine ⟨by simpa using h1, h2, fun hk => ?_, h⟩
        by_cases h6 : recErr t = 0
        · exact h6
        · exact absurd ⟨hk, h6⟩ h3
theorem linkErr_zero {P : PFS} {p t : List UInt8} (h : P.linkErr p t = 0) : pathErr p = 0 ∧ P.placeErr p = 0 ∧ P.kindAt t = some 1 := by
  unfold PFS.linkErr at h
  split at h
  · next h1 => exact absurd h h1
  · next h1 =>
    split at h
    · next h2 => exact absurd h h2
    · next h2 =>
      refine ⟨by simpa using h1, by simpa using h2, ?_⟩
      split at h
      · simp at h
      · next k hk =>
        split at h
        · next h3 => rw [hk, h3]
        · simp at h

theorem PFS.Inv.enter {P : PFS} (h : P.Inv) (p : List UInt8) (pb nb : Nat) (hn : ∃ i, P.ino nb = some i) : (P.enter p pb nb).Inv := by
  refine ⟨h.st, ⟨h.nx.1, by have := h.nx.2; show P.next ≤ 1000000 * (((P.n + 1 : Nat) : Int) + 1); omega⟩, ?_, ?_, ?_, ?_⟩
  · intro b i hb
    show i.names.length ≤ P.n + 1
    dsimp only [PFS.enter] at hb
    split at hb
    · simp only [Option.map_eq_some_iff] at hb
      obtain ⟨j, hj, rfl⟩ := hb
      rw [addName_length]; have := h.nm _ _ hj; omega
    · have := h.nm _ _ hb; omega
  · intro b i hb
    dsimp only [PFS.enter] at hb
    split at hb
    · simp only [Option.map_eq_some_iff] at hb
      obtain ⟨j, hj, rfl⟩ := hb
      exact ⟨(h.dt _ _ hj).1, (h.dt _ _ hj).2⟩
    · exact h.dt _ _ hb
  · intro b i hb
    show 0 ≤ i.links ∧ i.links ≤ ((P.n + 1 : Nat) : Int)
    dsimp only [PFS.enter] at hb
    split at hb
    · simp only [Option.map_eq_some_iff] at hb
      obtain ⟨j, hj, rfl⟩ := hb
      have := h.lk _ _ hj; simp only [PIno.addName]; omega
    · have := h.lk _ _ hb; omega
  · intro t b hb
    dsimp only [PFS.enter] at hb ⊢
    have : ∃ i, P.ino b = some i := by
      split at hb
      · cases hb; exact hn
      · exact h.mem t b hb
    obtain ⟨i, hi⟩ := this
    split
    · next e => subst e; exact ⟨_, by rw [hi]; rfl⟩
    · exact ⟨i, hi⟩

theorem entered_pure (S : FSt) (p : ByteArray) (pb nb : Nat) (pi : Ino) (nv : Value) (hi : S.ino pb = some pi) : (S.entered p pb nb pi nv).pure = S.pure.enter p.data.toList pb nb := by
  unfold FSt.entered FSt.pure PFS.enter
  simp only [PFS.mk.injEq, true_and, and_true]
  funext b
  split
  · rw [hi]; rfl
  · rfl
theorem added_pure (S : FSt) (nb : Nat) (i : Ino) : (S.added nb i).pure = S.pure.add nb i.pure := by
  unfold FSt.added FSt.pure PFS.add
  simp only [PFS.mk.injEq, true_and, and_true]
  funext b
  split <;> rfl
theorem turned_pure (S : FSt) (nb : Nat) (i : Ino) : (S.turned nb i).pure = S.pure.turn nb i.pure := by
  unfold FSt.turned FSt.pure PFS.turn
  simp only [PFS.mk.injEq, true_and, and_true]
  funext b
  split <;> rfl

theorem pure_ino {S : FSt} {b : Nat} {i : Ino} (h : S.ino b = some i) : S.pure.ino b = some i.pure := by unfold FSt.pure; simp [h]
theorem pure_ino_inv {S : FSt} {b : Nat} {i : PIno} (h : S.pure.ino b = some i) : ∃ j, S.ino b = some j ∧ j.pure = i := by
  unfold FSt.pure at h
  simpa using h

theorem make_fs {w : World} {B : Nat} {P : PFS} {O : Nat → Prop} (h : HasFS w B P O) (p : ByteArray) (kind mode : Int) (target : ByteArray) (A : Option Addr) (n c : Nat) (data : List UInt8) (hs : p.size < 4611686018427387904) (hn : P.n ≤ 100000)
    (hk : kind = 2 → Keys w ∧ target.size ≤ maxLen) (hdl : data.length = n) (hdb : n ≤ 100000000) (hd : Rd w A (by8 data)) (hA : A = none → n = 0) (hoff : data ≠ [] → Off A O) :
    Calls Tryz.prog 47 #[.pointer (some ⟨B, 0, none⟩), .string p, .agg #[.int .i64 kind, .int .i64 mode, .int .i64 0, .int .i64 0, .int .i64 0, .string target, .int .i64 0, .int .i64 0], .slice A n c] w fun e w' =>
      e = .returned (.int .i64 (P.makeErr p.data.toList kind mode target.data.toList)) ∧ ∃ P' O', HasFS w' B P' O' ∧ Next w w' O O' ∧ MakeStep P p.data.toList kind mode target data P' := by
  have h' := h
  obtain ⟨⟨S, role, h1, rfl, rfl, h4⟩, h5⟩ := h
  by_cases herr : S.makeErr p.data.toList kind mode target.data.toList = 0
  · refine (make_good p kind mode target A n c data w h1 hs (by have : S.pure.n = S.n := rfl; omega) hk ?_ hdl hdb hd hA (fun hne ad e hh => hoff hne ad e (hh ▸ h'.ownB)) ?_ herr).mono ?_
    · intro b i hb
      have := h5.nm b i.pure (pure_ino hb)
      have e : i.pure.names = i.names := rfl
      rw [e] at this; omega
    · have h6 := h5.nx; have h7 := h5.st
      have e1 : S.pure.next = S.next := rfl
      have e2 : S.pure.step = S.step := rfl
      rw [e1] at h6; rw [e2] at h7
      rw [IntKind.wrap_i64]; omega
    · rintro e w' ⟨rfl, pb, pi, nb, dv, nv, role', g1, g2, g3, g4, g5, g6⟩
      rw [pure_makeErr, herr]
      have hfr : S.ino nb = none := by
        cases hh : S.ino nb with
        | none => rfl
        | some i => have := (h1.inos nb i hh).lt; omega
      have hpn : pb ≠ nb := fun e => by rw [e, hfr] at g2; cases g2
      have hip : (S.added nb (newIno kind mode S.next n target dv data)).ino pb = some pi := by show (if pb = nb then _ else S.ino pb) = _; rw [if_neg hpn, g2]
      have hP : ((S.added nb (newIno kind mode S.next n target dv data)).entered p pb nb pi nv).pure = (S.pure.add nb (newP kind mode S.pure.next target data)).enter p.data.toList pb nb := by
        rw [entered_pure _ _ _ _ _ _ hip, added_pure]
        have : (newIno kind mode S.next n target dv data).pure = newP kind mode S.pure.next target data := by
          unfold newIno newP Ino.pure FSt.pure; simp [hdl]
        rw [this]
      refine ⟨rfl, _, Own role', ⟨⟨_, role', g3, rfl, hP, fun _ => Iff.rfl⟩, ?_⟩, ⟨g4.mono (fun k _ hk => (h4 k).2 hk), fun k hk => (g5 k hk).imp (h4 k).2 id⟩, ?_⟩
      · have hI : (S.pure.add nb (newP kind mode S.pure.next target data)).n = S.pure.n := rfl
        -- the invariant behind a new inode: told at once for the entered one
        refine ⟨h5.st, ?_, ?_, ?_, ?_, ?_⟩
        · have := h5.nx; have h7 := h5.st
          show 0 ≤ S.pure.next + S.pure.step ∧ S.pure.next + S.pure.step ≤ 1000000 * (((S.pure.n + 1 : Nat) : Int) + 1)
          omega
        · intro b i hb
          show i.names.length ≤ S.pure.n + 1
          dsimp only [PFS.enter, PFS.add] at hb
          split at hb
          · try rw [if_neg hpn] at hb
            simp only [Option.map_eq_some_iff] at hb
            obtain ⟨j, hj, rfl⟩ := hb
            rw [addName_length]; have := h5.nm _ _ hj; omega
          · split at hb
            · cases hb; simp [newP]
            · have := h5.nm _ _ hb; omega
        · intro b i hb
          dsimp only [PFS.enter, PFS.add] at hb
          split at hb
          · try rw [if_neg hpn] at hb
            simp only [Option.map_eq_some_iff] at hb
            obtain ⟨j, hj, rfl⟩ := hb
            exact ⟨(h5.dt _ _ hj).1, (h5.dt _ _ hj).2⟩
          · split at hb
            · cases hb; exact ⟨by simp only [newP]; omega, rfl⟩
            · exact h5.dt _ _ hb
        · intro b i hb
          show 0 ≤ i.links ∧ i.links ≤ ((S.pure.n + 1 : Nat) : Int)
          dsimp only [PFS.enter, PFS.add] at hb
          split at hb
          · try rw [if_neg hpn] at hb
            simp only [Option.map_eq_some_iff] at hb
            obtain ⟨j, hj, rfl⟩ := hb
            have := h5.lk _ _ hj; simp only [PIno.addName]; omega
          · split at hb
            · cases hb; simp only [newP]; omega
            · have := h5.lk _ _ hb; omega
        · intro t b hb
          dsimp only [PFS.enter, PFS.add] at hb ⊢
          rw [if_neg hpn]
          split at hb
          · cases hb
            exact ⟨_, by rw [if_neg (fun e => hpn e.symm), if_pos rfl]⟩
          · obtain ⟨i, hi⟩ := h5.mem t b hb
            split
            · next e => subst e; exact ⟨_, by rw [hi]; rfl⟩
            · split
              · exact ⟨_, rfl⟩
              · exact ⟨i, hi⟩
      · unfold MakeStep
        rw [if_pos (by rw [pure_makeErr]; exact herr)]
        exact ⟨pb, pi.pure, nb, g1, pure_ino g2, by unfold FSt.pure; simp [hfr], rfl⟩
  · refine (make_bad p kind mode target _ w h1 hs hk herr).mono ?_
    rintro e w' ⟨rfl, hc⟩
    rw [pure_makeErr]
    refine ⟨rfl, S.pure, O, h'.chg hc (fun _ _ h => h), Next.of_chg hc, ?_⟩
    unfold MakeStep
    rw [if_neg (by rw [pure_makeErr]; exact herr)]

theorem Link_fs {w : World} {B : Nat} {P : PFS} {O : Nat → Prop} (h : HasFS w B P O) (p t : ByteArray) (hs : p.size < 4611686018427387904) (ht : t.size ≤ maxLen) (hn : P.n ≤ 100000) :
    Calls Tryz.prog 23 #[.pointer (some ⟨B, 0, none⟩), .string p, .string t] w fun e w' =>
      e = .returned (.int .i64 (P.linkErr p.data.toList t.data.toList)) ∧ ∃ P' O', HasFS w' B P' O' ∧ Next w w' O O' ∧ LinkStep P p.data.toList t.data.toList P' := by
  have h' := h
  obtain ⟨⟨S, role, h1, rfl, rfl, h4⟩, h5⟩ := h
  have eN : S.pure.n = S.n := rfl
  by_cases herr : S.linkErr p.data.toList t.data.toList = 0
  · refine (Link_good p t w h1 hs ht (by omega) ?_ ?_ herr).mono ?_
    · intro b i hb
      have := h5.nm b i.pure (pure_ino hb)
      have e : i.pure.names = i.names := rfl
      rw [e] at this; omega
    · intro b i hb
      have := h5.lk b i.pure (pure_ino hb)
      have e : i.pure.links = i.links := rfl
      rw [e] at this; omega
    · rintro e w' ⟨rfl, pb, pi, nb, ni, nv, role', g1, g2, g3, g4, g5, g6, g7⟩
      rw [pure_linkErr, herr]
      have hz := linkErr_zero (P := S.pure) (by rw [pure_linkErr]; exact herr)
      have hpz := placeErr_zero hz.2.1
      have hpn : pb ≠ nb := fun e => by
        subst e
        have a1 := hpz.1; have a2 := hz.2.2
        rw [pure_kindAt] at a1 a2
        unfold FSt.kindAt at a1 a2
        rw [g1] at a1; rw [g3] at a2
        simp only [Option.bind_some] at a1 a2
        rw [a1] at a2; simp at a2
      have hip : (S.turned nb ni.bump).ino pb = some pi := by show (if pb = nb then _ else S.ino pb) = _; rw [if_neg hpn, g2]
      have hP : ((S.turned nb ni.bump).entered p pb nb pi nv).pure = (S.pure.turn nb ni.pure.bump).enter p.data.toList pb nb := by
        rw [entered_pure _ _ _ _ _ _ hip, turned_pure]; rfl
      refine ⟨rfl, _, Own role', ⟨⟨_, role', g5, rfl, hP, fun _ => Iff.rfl⟩, ?_⟩, ⟨g6.mono (fun k _ hk => (h4 k).2 hk), fun k hk => (g7 k hk).imp (h4 k).2 id⟩, ?_⟩
      · refine ⟨h5.st, ?_, ?_, ?_, ?_, ?_⟩
        · have := h5.nx
          show 0 ≤ S.pure.next ∧ S.pure.next ≤ 1000000 * (((S.pure.n + 1 : Nat) : Int) + 1)
          omega
        · intro b i hb
          show i.names.length ≤ S.pure.n + 1
          dsimp only [PFS.enter, PFS.turn] at hb
          split at hb
          · try rw [if_neg hpn] at hb
            simp only [Option.map_eq_some_iff] at hb
            obtain ⟨j, hj, rfl⟩ := hb
            rw [addName_length]; have := h5.nm _ _ hj; omega
          · split at hb
            · cases hb; have := h5.nm _ _ (pure_ino g4); simp only [PIno.bump]; omega
            · have := h5.nm _ _ hb; omega
        · intro b i hb
          dsimp only [PFS.enter, PFS.turn] at hb
          split at hb
          · try rw [if_neg hpn] at hb
            simp only [Option.map_eq_some_iff] at hb
            obtain ⟨j, hj, rfl⟩ := hb
            exact ⟨(h5.dt _ _ hj).1, (h5.dt _ _ hj).2⟩
          · split at hb
            · cases hb; exact ⟨(h5.dt _ _ (pure_ino g4)).1, (h5.dt _ _ (pure_ino g4)).2⟩
            · exact h5.dt _ _ hb
        · intro b i hb
          show 0 ≤ i.links ∧ i.links ≤ ((S.pure.n + 1 : Nat) : Int)
          dsimp only [PFS.enter, PFS.turn] at hb
          split at hb
          · try rw [if_neg hpn] at hb
            simp only [Option.map_eq_some_iff] at hb
            obtain ⟨j, hj, rfl⟩ := hb
            have := h5.lk _ _ hj; simp only [PIno.addName]; omega
          · split at hb
            · cases hb; have := h5.lk _ _ (pure_ino g4); simp only [PIno.bump]; omega
            · have := h5.lk _ _ hb; omega
        · intro t b hb
          dsimp only [PFS.enter, PFS.turn] at hb ⊢
          rw [if_neg hpn]
          split at hb
          · cases hb
            exact ⟨_, by rw [if_neg (fun e => hpn e.symm), if_pos rfl]⟩
          · obtain ⟨i, hi⟩ := h5.mem t b hb
            split
            · next e => subst e; exact ⟨_, by rw [hi]; rfl⟩
            · split
              · exact ⟨_, rfl⟩
              · exact ⟨i, hi⟩
      · unfold LinkStep
        rw [if_pos (by rw [pure_linkErr]; exact herr)]
        exact ⟨pb, pi.pure, nb, ni.pure, g1, pure_ino g2, g3, pure_ino g4, rfl⟩
  · refine (Link_bad p t w h1 hs ht herr).mono ?_
    rintro e w' ⟨rfl, hc⟩
    rw [pure_linkErr]
    refine ⟨rfl, S.pure, O, h'.chg hc (fun _ _ h => h), Next.of_chg hc, ?_⟩
    unfold LinkStep
    rw [if_neg (by rw [pure_linkErr]; exact herr)]
end Go.Proofs.YtfkfeoocglcjgaaGreatDoor
