/- The tree's view: kinds and names by path; how a call turns it. -/
import Derived.Test.YtfkfeoocglcjgaaGreatDoorVList
import Derived.Test.YtfkfeoocglcjgaaGreatDoorVAc
set_option linter.unusedVariables false
set_option linter.unusedSimpArgs false
namespace Go.Proofs.YtfkfeoocglcjgaaGreatDoor
open Go.RowKit

/-- A directory has one path; what is no directory has no names. -/
structure DirOk (P : PFS) : Prop where
  uniq : ∀ p q b, P.F p = some b → P.F q = some b → P.kindAt p = some 0 → p = q
  nil : ∀ p, P.kindAt p ≠ some 0 → P.namesAt p = []

structure SameView (P Q : PFS) : Prop where
  k : ∀ p, P.kindAt p = Q.kindAt p
  n : ∀ p, P.namesAt p = Q.namesAt p

def base8 (p : List UInt8) : ByteArray := ⟨(baseB p).toArray⟩
def putName (l : List ByteArray) (x : ByteArray) : List ByteArray := insAt l (posOf l x) x

/-- A new path p of kind k. -/
structure Grown (P P' : PFS) (p : List UInt8) (k : Int) : Prop where
  k : ∀ q, P'.kindAt q = if q = p then some k else P.kindAt q
  n : ∀ q, P'.namesAt q = if q = p then [] else if q = parentB p then putName (P.namesAt q) (base8 p) else P.namesAt q

theorem kindAt_of {P : PFS} {p : List UInt8} {b : Nat} {i : PIno} (hF : P.F p = some b) (hi : P.ino b = some i) : P.kindAt p = some i.kind := by
  unfold PFS.kindAt; rw [hF]; simp [hi]
theorem namesAt_of {P : PFS} {p : List UInt8} {b : Nat} {i : PIno} (hF : P.F p = some b) (hi : P.ino b = some i) : P.namesAt p = i.names := by
  unfold PFS.namesAt; simp only [hF, hi]
theorem kindAt_no {P : PFS} {p : List UInt8} (hF : P.F p = none) : P.kindAt p = none := by unfold PFS.kindAt; rw [hF]; rfl
theorem namesAt_no {P : PFS} {p : List UInt8} (hF : P.F p = none) : P.namesAt p = [] := by unfold PFS.namesAt; simp only [hF]

theorem grown_enter {P : PFS} (ok : DirOk P) (hm : ∀ p b, P.F p = some b → ∃ i, P.ino b = some i) {p : List UInt8} {pb nb : Nat} {ni : PIno} (hp : P.F (parentB p) = some pb) (hk : P.kindAt (parentB p) = some 0) (hF : P.F p = none)
    (hn : P.ino nb = some ni) (hnn : ni.names = []) (hq : ni.kind ≠ 0 ∨ ∀ q, P.F q ≠ some nb) : Grown P (P.enter p pb nb) p ni.kind ∧ DirOk (P.enter p pb nb) := by
  obtain ⟨pi, hpi⟩ := hm _ _ hp
  have hpk : pi.kind = 0 := by have := kindAt_of hp hpi; rw [this] at hk; simpa using hk
  have hne : nb ≠ pb := by
    rintro rfl
    rcases hq with h | h
    · rw [hpi] at hn; cases hn; exact h hpk
    · exact h _ hp
  have hpp : parentB p ≠ p := by intro e; rw [e, hF] at hp; cases hp
  have eF : ∀ q, (P.enter p pb nb).F q = if q = p then some nb else P.F q := fun q => rfl
  have eI : ∀ b, (P.enter p pb nb).ino b = if b = pb then some (pi.addName (base8 p)) else P.ino b := by
    intro b; show (if b = pb then (P.ino pb).map (fun i => i.addName ⟨(baseB p).toArray⟩) else P.ino b) = _
    rw [hpi]; rfl
  have hK : ∀ q, (P.enter p pb nb).kindAt q = if q = p then some ni.kind else P.kindAt q := by
    intro q
    by_cases e : q = p
    · rw [if_pos e]; exact kindAt_of (by rw [eF, if_pos e]) (by rw [eI, if_neg hne, hn])
    · rw [if_neg e]
      cases hq' : P.F q with
      | none => rw [kindAt_no hq']; exact kindAt_no (by rw [eF, if_neg e, hq'])
      | some b =>
        obtain ⟨i, hi⟩ := hm _ _ hq'
        rw [kindAt_of hq' hi]
        by_cases e2 : b = pb
        · subst e2
          rw [hpi] at hi; cases hi
          exact kindAt_of (i := pi.addName (base8 p)) (by rw [eF, if_neg e, hq']) (by rw [eI, if_pos rfl])
        · exact kindAt_of (by rw [eF, if_neg e, hq']) (by rw [eI, if_neg e2, hi])
  have hN : ∀ q, (P.enter p pb nb).namesAt q = if q = p then [] else if q = parentB p then putName (P.namesAt q) (base8 p) else P.namesAt q := by
    intro q
    by_cases e : q = p
    · rw [if_pos e, namesAt_of (i := ni) (by rw [eF, if_pos e]) (by rw [eI, if_neg hne, hn]), hnn]
    · rw [if_neg e]
      by_cases e1 : q = parentB p
      · rw [if_pos e1]; subst e1
        rw [namesAt_of (i := pi.addName (base8 p)) (by rw [eF, if_neg e, hp]) (by rw [eI, if_pos rfl]), namesAt_of hp hpi]
        rfl
      · rw [if_neg e1]
        cases hq' : P.F q with
        | none => rw [namesAt_no hq']; exact namesAt_no (by rw [eF, if_neg e, hq'])
        | some b =>
          obtain ⟨i, hi⟩ := hm _ _ hq'
          have e2 : b ≠ pb := by
            rintro rfl
            exact e1 (ok.uniq _ _ _ hp hq' hk).symm
          rw [namesAt_of hq' hi]
          exact namesAt_of (by rw [eF, if_neg e, hq']) (by rw [eI, if_neg e2, hi])
  refine ⟨⟨hK, hN⟩, ⟨?_, ?_⟩⟩
  · intro u v b hu hv hk0
    rw [eF] at hu hv
    rw [hK] at hk0
    by_cases eu : u = p
    · rw [if_pos eu] at hu hk0
      cases hu
      by_cases ev : v = p
      · rw [eu, ev]
      · rw [if_neg ev] at hv
        rcases hq with h | h
        · exact absurd (Option.some.inj hk0) h
        · exact absurd hv (h _)
    · rw [if_neg eu] at hu hk0
      by_cases ev : v = p
      · rw [if_pos ev] at hv
        cases hv
        rcases hq with h | h
        · rw [kindAt_of hu hn] at hk0; exact absurd (Option.some.inj hk0) h
        · exact absurd hu (h _)
      · rw [if_neg ev] at hv
        exact ok.uniq _ _ _ hu hv hk0
  · intro q hk0
    rw [hK] at hk0; rw [hN]
    by_cases e : q = p
    · rw [if_pos e]
    · rw [if_neg e] at hk0 ⊢
      by_cases e1 : q = parentB p
      · subst e1; exact absurd hk hk0
      · rw [if_neg e1]; exact ok.nil q hk0

/-- An inode that no path has: the view stays. -/
theorem view_add {P : PFS} (hm : ∀ p b, P.F p = some b → ∃ i, P.ino b = some i) {nb : Nat} (i : PIno) (hn : P.ino nb = none) : (∀ p, (P.add nb i).kindAt p = P.kindAt p) ∧ (∀ p, (P.add nb i).namesAt p = P.namesAt p) ∧ (∀ q, (P.add nb i).F q ≠ some nb) := by
  have hne : ∀ q b, P.F q = some b → b ≠ nb := by
    rintro q b hq rfl
    obtain ⟨j, hj⟩ := hm _ _ hq
    rw [hn] at hj; cases hj
  have eI : ∀ b, (P.add nb i).ino b = if b = nb then some i else P.ino b := fun b => rfl
  have eF : ∀ q, (P.add nb i).F q = P.F q := fun q => rfl
  refine ⟨fun p => ?_, fun p => ?_, fun q h => hne q nb h rfl⟩
  · cases hq : P.F p with
    | none => rw [kindAt_no hq]; exact kindAt_no hq
    | some b => unfold PFS.kindAt; rw [eF, hq]; simp only [Option.bind_some]; rw [eI, if_neg (hne _ _ hq)]
  · cases hq : P.F p with
    | none => rw [namesAt_no hq]; exact namesAt_no hq
    | some b => unfold PFS.namesAt; rw [eF, hq]; simp only; rw [eI, if_neg (hne _ _ hq)]
theorem view_turn {P : PFS} {nb : Nat} {i j : PIno} (hn : P.ino nb = some i) (hk : j.kind = i.kind) (hnm : j.names = i.names) : (∀ p, (P.turn nb j).kindAt p = P.kindAt p) ∧ (∀ p, (P.turn nb j).namesAt p = P.namesAt p) := by
  have eI : ∀ b, (P.turn nb j).ino b = if b = nb then some j else P.ino b := fun b => rfl
  have eF : ∀ q, (P.turn nb j).F q = P.F q := fun q => rfl
  refine ⟨fun p => ?_, fun p => ?_⟩
  · cases hq : P.F p with
    | none => rw [kindAt_no hq]; exact kindAt_no hq
    | some b =>
      by_cases e : b = nb
      · subst e; rw [kindAt_of hq hn, kindAt_of (P := P.turn b j) (i := j) hq (by rw [eI, if_pos rfl]), hk]
      · unfold PFS.kindAt; rw [eF, hq]; simp only [Option.bind_some]; rw [eI, if_neg e]
  · cases hq : P.F p with
    | none => rw [namesAt_no hq]; exact namesAt_no hq
    | some b =>
      by_cases e : b = nb
      · subst e; rw [namesAt_of hq hn, namesAt_of (P := P.turn b j) (i := j) hq (by rw [eI, if_pos rfl]), hnm]
      · unfold PFS.namesAt; rw [eF, hq]; simp only; rw [eI, if_neg e]
theorem DirOk.of_view {P P' : PFS} (h : DirOk P) (hF : ∀ p, P'.F p = P.F p) (hk : ∀ p, P'.kindAt p = P.kindAt p) (hn : ∀ p, P'.namesAt p = P.namesAt p) : DirOk P' :=
  ⟨fun p q b h1 h2 h3 => h.uniq p q b (by rw [← hF, h1]) (by rw [← hF, h2]) (by rw [← hk, h3]), fun p h1 => by rw [hn]; exact h.nil p (by rw [← hk]; exact h1)⟩

/-- What a make, a link, a chown turns in the view. -/
theorem make_view {P P' : PFS} (ok : DirOk P) (hi : P.Inv) {p : List UInt8} {k m : Int} {t : ByteArray} {d : List UInt8} (hs : MakeStep P p k m t d P') :
    DirOk P' ∧ (P.makeErr p k m t.data.toList = 0 → Grown P P' p k) ∧ (P.makeErr p k m t.data.toList ≠ 0 → P' = P) := by
  unfold MakeStep at hs
  split at hs
  · next e =>
    obtain ⟨pb, pi, nb, h1, h2, h3, rfl⟩ := hs
    obtain ⟨_, _, _, e4⟩ := makeErr_zero e
    obtain ⟨e5, e6⟩ := placeErr_zero e4
    obtain ⟨v1, v2, v3⟩ := view_add hi.mem (newP k m P.next t d) h3
    have ok1 : DirOk (P.add nb (newP k m P.next t d)) := ok.of_view (fun _ => rfl) v1 v2
    have hm1 : ∀ p b, (P.add nb (newP k m P.next t d)).F p = some b → ∃ i, (P.add nb (newP k m P.next t d)).ino b = some i := by
      intro q b hq
      by_cases eb : b = nb
      · exact ⟨newP k m P.next t d, if_pos eb⟩
      · obtain ⟨i, hi'⟩ := hi.mem q b hq
        exact ⟨i, by show (if b = nb then _ else P.ino b) = _; rw [if_neg eb, hi']⟩
    obtain ⟨g1, g2⟩ := grown_enter (p := p) (pb := pb) (nb := nb) (ni := newP k m P.next t d) ok1 hm1 h1 (by rw [v1]; exact e5) e6 (if_pos rfl) rfl (.inr v3)
    exact ⟨g2, fun _ => ⟨fun q => by rw [g1.k, v1]; rfl, fun q => by rw [g1.n, v2]⟩, fun h => absurd e h⟩
  · next e => subst hs; exact ⟨ok, fun h => absurd h e, fun _ => rfl⟩
theorem link_view {P P' : PFS} (ok : DirOk P) (hi : P.Inv) {p t : List UInt8} (hs : LinkStep P p t P') :
    DirOk P' ∧ (P.linkErr p t = 0 → Grown P P' p 1) ∧ (P.linkErr p t ≠ 0 → P' = P) := by
  unfold LinkStep at hs
  split at hs
  · next e =>
    obtain ⟨pb, pi, nb, ni, h1, h2, h3, h4, rfl⟩ := hs
    obtain ⟨_, e4, e7⟩ := linkErr_zero e
    obtain ⟨e5, e6⟩ := placeErr_zero e4
    obtain ⟨v1, v2⟩ := view_turn (j := ni.bump) h4 rfl rfl
    have ok1 : DirOk (P.turn nb ni.bump) := ok.of_view (fun _ => rfl) v1 v2
    have hm1 : ∀ p b, (P.turn nb ni.bump).F p = some b → ∃ i, (P.turn nb ni.bump).ino b = some i := by
      intro q b hq
      by_cases eb : b = nb
      · exact ⟨ni.bump, if_pos eb⟩
      · obtain ⟨i, hi'⟩ := hi.mem q b hq
        exact ⟨i, by show (if b = nb then _ else P.ino b) = _; rw [if_neg eb, hi']⟩
    have hk1 : ni.kind = 1 := by rw [kindAt_of h3 h4] at e7; simpa using e7
    have hnn : ni.names = [] := by rw [← namesAt_of h3 h4]; exact ok.nil t (by rw [e7]; decide)
    obtain ⟨g1, g2⟩ := grown_enter (p := p) (pb := pb) (nb := nb) (ni := ni.bump) ok1 hm1 h1 (by rw [v1]; exact e5) e6 (if_pos rfl) hnn (.inl (by show ni.kind ≠ 0; rw [hk1]; decide))
    exact ⟨g2, fun _ => ⟨fun q => by rw [g1.k, v1]; show (if q = p then some ni.kind else _) = _; rw [hk1], fun q => by rw [g1.n, v2]⟩, fun h => absurd e h⟩
  · next e => subst hs; exact ⟨ok, fun h => absurd h e, fun _ => rfl⟩
theorem chown_view {P P' : PFS} (ok : DirOk P) {p : List UInt8} {u m : Int} (hs : ChownStep P p u m P') : DirOk P' ∧ (∀ q, P'.kindAt q = P.kindAt q) ∧ ∀ q, P'.namesAt q = P.namesAt q := by
  unfold ChownStep at hs
  split at hs
  · subst hs; exact ⟨ok, fun _ => rfl, fun _ => rfl⟩
  · obtain ⟨i, hi, rfl⟩ := hs
    obtain ⟨v1, v2⟩ := view_turn (j := i.chown u m) hi rfl rfl
    exact ⟨ok.of_view (fun _ => rfl) v1 v2, v1, v2⟩

/-- The kind of what an act makes. -/
def ActD.newKind (a : ActD) : Int := if a.kind = 3 then 4 else if a.kind = 4 then 1 else a.kind
theorem do_view {P P' : PFS} (ok : DirOk P) (hi : P.Inv) {a : ActD} (hs : DoStep P a P') :
    DirOk P' ∧ if P.doErr a = 0 ∧ 0 ≤ a.kind ∧ a.kind ≤ 4 then Grown P P' a.path.data.toList a.newKind else SameView P' P := by
  have refl : SameView P P := ⟨fun _ => rfl, fun _ => rfl⟩
  obtain ⟨kind, path, mode, A, cap, data, target⟩ := a
  unfold DoStep at hs
  unfold PFS.doErr
  dsimp only at hs ⊢
  by_cases e0 : kind = 0
  · subst e0
    simp only [if_true] at hs ⊢
    obtain ⟨g1, g2, g3⟩ := make_view ok hi hs
    refine ⟨g1, ?_⟩
    split
    · next h => exact g2 h.1
    · next h => rw [g3 (fun h' => h ⟨h', by decide⟩)]; exact refl
  by_cases e1 : kind = 1
  · subst e1
    simp only [e0, if_true, if_false] at hs ⊢
    obtain ⟨g1, g2, g3⟩ := make_view ok hi hs
    refine ⟨g1, ?_⟩
    split
    · next h => exact g2 h.1
    · next h => rw [g3 (fun h' => h ⟨h', by decide⟩)]; exact refl
  by_cases e2 : kind = 2
  · subst e2
    simp only [e0, e1, if_true, if_false] at hs ⊢
    obtain ⟨g1, g2, g3⟩ := make_view ok hi hs
    refine ⟨g1, ?_⟩
    split
    · next h => exact g2 h.1
    · next h => rw [g3 (fun h' => h ⟨h', by decide⟩)]; exact refl
  by_cases e3 : kind = 3
  · subst e3
    simp only [e0, e1, e2, if_true, if_false] at hs ⊢
    obtain ⟨g1, g2, g3⟩ := make_view ok hi hs
    refine ⟨g1, ?_⟩
    split
    · next h => exact g2 h.1
    · next h => rw [g3 (fun h' => h ⟨h', by decide⟩)]; exact refl
  by_cases e4 : kind = 4
  · subst e4
    simp only [e0, e1, e2, e3, if_true, if_false] at hs ⊢
    obtain ⟨g1, g2, g3⟩ := link_view ok hi hs
    refine ⟨g1, ?_⟩
    split
    · next h => exact g2 h.1
    · next h => rw [g3 (fun h' => h ⟨h', by decide⟩)]; exact refl
  have hno : ∀ (z : Int), ¬ (z = 0 ∧ 0 ≤ kind ∧ kind ≤ 4) := fun z h => by omega
  rw [if_neg (hno _)]
  by_cases e5 : kind = 5
  · subst e5
    simp only [e0, e1, e2, e3, e4, if_true, if_false] at hs
    obtain ⟨g1, g2, g3⟩ := chown_view ok hs
    exact ⟨g1, g2, g3⟩
  · simp only [e0, e1, e2, e3, e4, e5, if_false] at hs
    subst hs; exact ⟨ok, refl⟩

/-- Like views give like errors, and like views again. -/
theorem some_kind {P : PFS} (hi : P.Inv) (p : List UInt8) : (P.F p).isSome = (P.kindAt p).isSome := by
  cases h : P.F p with
  | none => rw [kindAt_no h]; rfl
  | some b => obtain ⟨i, h2⟩ := hi.mem _ _ h; rw [kindAt_of h h2]; rfl
theorem SameView.err {P Q : PFS} (h : SameView P Q) (hP : P.Inv) (hQ : Q.Inv) (a : ActD) : P.doErr a = Q.doErr a := by
  have h1 : ∀ p, P.placeErr p = Q.placeErr p := fun p => by unfold PFS.placeErr; rw [h.k, some_kind hP, some_kind hQ, h.k]
  have h2 : ∀ p k m t, P.makeErr p k m t = Q.makeErr p k m t := fun p k m t => by unfold PFS.makeErr; rw [h1]
  have h3 : ∀ p t, P.linkErr p t = Q.linkErr p t := fun p t => by unfold PFS.linkErr; rw [h1, h.k]
  have h4 : ∀ p, P.findErr p = Q.findErr p := fun p => by
    have e := some_kind hP p; have e' := some_kind hQ p; rw [h.k] at e; rw [← e'] at e
    unfold PFS.findErr
    cases hp : P.F p <;> cases hq : Q.F p <;> simp_all
  unfold PFS.doErr; simp only [h2, h3, h4]
theorem SameView.step {P Q P' Q' : PFS} (h : SameView P Q) (okP : DirOk P) (okQ : DirOk Q) (hP : P.Inv) (hQ : Q.Inv) {a : ActD} (sP : DoStep P a P') (sQ : DoStep Q a Q') : SameView P' Q' := by
  obtain ⟨_, g1⟩ := do_view okP hP sP
  obtain ⟨_, g2⟩ := do_view okQ hQ sQ
  have he := h.err hP hQ a
  by_cases c : P.doErr a = 0 ∧ 0 ≤ a.kind ∧ a.kind ≤ 4
  · rw [if_pos c] at g1; rw [if_pos (he ▸ c)] at g2
    exact ⟨fun p => by rw [g1.k, g2.k, h.k], fun p => by rw [g1.n, g2.n, h.n]⟩
  · rw [if_neg c] at g1; rw [if_neg (he ▸ c)] at g2
    exact ⟨fun p => by rw [g1.k, h.k, g2.k], fun p => by rw [g1.n, h.n, g2.n]⟩
end Go.Proofs.YtfkfeoocglcjgaaGreatDoor
