/- Inode numbers: the plain part; a map from numbers to paths. -/
import Derived.Test.YtfkfeoocglcjgaaDoorVAc
set_option linter.unusedVariables false
set_option linter.unusedSimpArgs false
namespace Go.Proofs.YtfkfeoocglcjgaaDoor
open Go.RowKit Go.Maps

structure DisInv (P : PFS) (G : Int → Option ByteArray) : Prop where
  lt : ∀ b i, P.ino b = some i → 0 ≤ i.num ∧ i.num < P.next
  inj : ∀ b c i j, P.ino b = some i → P.ino c = some j → i.num = j.num → b = c
  own : ∀ x q, G x = some q → ∃ b i, P.ino b = some i ∧ i.num = x ∧ P.F q.data.toList = some b
  all : ∀ b i, P.ino b = some i → ∃ q, G i.num = some q ∧ q.size ≤ 20000
  pos : ∀ b i, P.ino b = some i → 1 ≤ i.links

def upd (G : Int → Option ByteArray) (x : Int) (p : ByteArray) : Int → Option ByteArray := fun y => if y = x then some p else G y

theorem dis_root (rb : Nat) (first step : Int) (hf : 0 ≤ first) (hs : 1 ≤ step) : DisInv (rootP rb first step []) (upd (fun _ => none) first ⟨#[]⟩) := by
  refine ⟨?_, ?_, ?_, ?_, ?_⟩
  · intro b i hb; simp only [rootP] at hb ⊢; split at hb
    · cases hb; simp; omega
    · cases hb
  · intro b c i j hb hc _; simp only [rootP] at hb hc; split at hb
    · split at hc
      · omega
      · cases hc
    · cases hb
  · intro x q hq
    unfold upd at hq
    split at hq
    · next e => cases hq; exact ⟨rb, _, if_pos rfl, e.symm, by simp [rootP]⟩
    · cases hq
  · intro b i hb; simp only [rootP] at hb; split at hb
    · cases hb; exact ⟨⟨#[]⟩, by simp [upd], by decide⟩
    · cases hb
  · intro b i hb; simp only [rootP] at hb; split at hb
    · cases hb; simp
    · cases hb

theorem dis_turn {P : PFS} {G : Int → Option ByteArray} (h : DisInv P G) (b : Nat) (i j : PIno) (hi : P.ino b = some i) (hn : j.num = i.num) (hl : i.links ≤ j.links) : DisInv (P.turn b j) G := by
  have hino : ∀ c k, (P.turn b j).ino c = some k → ∃ k0, P.ino c = some k0 ∧ k0.num = k.num ∧ k0.links ≤ k.links := by
    intro c k hk
    simp only [PFS.turn] at hk
    split at hk
    · next e => cases hk; exact ⟨i, e ▸ hi, hn.symm, hl⟩
    · exact ⟨k, hk, rfl, Int.le_refl _⟩
  refine ⟨?_, ?_, ?_, ?_, ?_⟩
  · intro c k hk
    obtain ⟨k0, h0, h1, _⟩ := hino c k hk
    have := h.lt c k0 h0
    rw [h1] at this; exact this
  · intro c d k l hk hl' e
    obtain ⟨k0, a0, a1, _⟩ := hino c k hk
    obtain ⟨l0, b0, b1, _⟩ := hino d l hl'
    exact h.inj c d k0 l0 a0 b0 (by rw [a1, b1, e])
  · intro x q hq
    obtain ⟨c, k, h1, h2, h3⟩ := h.own x q hq
    by_cases e : c = b
    · subst e
      rw [hi] at h1; cases h1
      exact ⟨c, j, by simp [PFS.turn], by rw [hn, h2], h3⟩
    · exact ⟨c, k, by simp [PFS.turn, e, h1], h2, h3⟩
  · intro c k hk
    obtain ⟨k0, h0, h1, _⟩ := hino c k hk
    obtain ⟨q, hq⟩ := h.all c k0 h0
    rw [h1] at hq; exact ⟨q, hq⟩
  · intro c k hk
    obtain ⟨k0, h0, _, h2⟩ := hino c k hk
    have := h.pos c k0 h0; omega

theorem dis_chown {P P' : PFS} {G : Int → Option ByteArray} {p : List UInt8} {u m : Int} (h : DisInv P G) (hs : ChownStep P p u m P') : DisInv P' G := by
  unfold ChownStep at hs
  split at hs
  · subst hs; exact h
  · obtain ⟨i, hi, rfl⟩ := hs
    exact dis_turn h _ i _ hi rfl (Int.le_refl _)

/-- A path is added for an inode that is there. -/
theorem dis_enter {P : PFS} {G : Int → Option ByteArray} (h : DisInv P G) (p : ByteArray) (pb nb : Nat) (pi ni : PIno) (hp : P.ino pb = some pi) (hn : P.ino nb = some ni) (hfr : P.F p.data.toList = none ∨ ∀ x q, G x = some q → q.data.toList = p.data.toList → x = ni.num) (hsz : p.size ≤ 20000) :
    DisInv (P.enter p.data.toList pb nb) (upd G ni.num p) := by
  have hino : ∀ c k, (P.enter p.data.toList pb nb).ino c = some k → ∃ k0, P.ino c = some k0 ∧ k0.num = k.num ∧ k0.links = k.links := by
    intro c k hk
    simp only [PFS.enter] at hk
    split at hk
    · next e => rw [hp] at hk; cases hk; exact ⟨pi, e ▸ hp, rfl, rfl⟩
    · exact ⟨k, hk, rfl, rfl⟩
  have hback : ∀ c k0, P.ino c = some k0 → ∃ k, (P.enter p.data.toList pb nb).ino c = some k ∧ k.num = k0.num := by
    intro c k0 h0
    simp only [PFS.enter]
    split
    · next e => subst e; rw [h0]; exact ⟨_, rfl, rfl⟩
    · exact ⟨k0, h0, rfl⟩
  refine ⟨?_, ?_, ?_, ?_, ?_⟩
  · intro c k hk
    obtain ⟨k0, h0, h1, _⟩ := hino c k hk
    have := h.lt c k0 h0
    rw [h1] at this; exact this
  · intro c d k l hk hl' e
    obtain ⟨k0, a0, a1, _⟩ := hino c k hk
    obtain ⟨l0, b0, b1, _⟩ := hino d l hl'
    exact h.inj c d k0 l0 a0 b0 (by rw [a1, b1, e])
  · intro x q hq
    unfold upd at hq
    split at hq
    · next e =>
      cases hq
      obtain ⟨k, hk, hk2⟩ := hback nb ni hn
      exact ⟨nb, k, hk, by rw [hk2, e], by simp [PFS.enter]⟩
    · next e =>
      obtain ⟨c, k0, h1, h2, h3⟩ := h.own x q hq
      obtain ⟨k, hk, hk2⟩ := hback c k0 h1
      refine ⟨c, k, hk, by rw [hk2, h2], ?_⟩
      simp only [PFS.enter]
      rw [if_neg]
      · exact h3
      · intro e2
        rcases hfr with hf | hf
        · rw [e2, hf] at h3; cases h3
        · exact e (hf x q hq e2)
  · intro c k hk
    obtain ⟨k0, h0, h1, _⟩ := hino c k hk
    unfold upd
    split
    · exact ⟨p, rfl, hsz⟩
    · obtain ⟨q, hq⟩ := h.all c k0 h0
      rw [h1] at hq; exact ⟨q, hq⟩
  · intro c k hk
    obtain ⟨k0, h0, _, h2⟩ := hino c k hk
    have := h.pos c k0 h0; omega

theorem dis_make {P P' : PFS} {G : Int → Option ByteArray} {p : ByteArray} {k m : Int} {t : ByteArray} {d : List UInt8} (h : DisInv P G) (hi : P.Inv) (hs : MakeStep P p.data.toList k m t d P') (he : P.makeErr p.data.toList k m t.data.toList = 0) (hsz : p.size ≤ 20000) :
    P'.findErr p.data.toList = 0 ∧ (P'.stat p.data.toList).num = P.next ∧ G P.next = none ∧ DisInv P' (upd G P.next p) := by
  unfold MakeStep at hs
  rw [if_pos he] at hs
  obtain ⟨pb, pi, nb, g1, g2, g3, rfl⟩ := hs
  have hpn : nb ≠ pb := fun e => by rw [e, g2] at g3; cases g3
  have hz := placeErr_zero (makeErr_zero he).2.2.2
  have hG : G P.next = none := by
    cases hG : G P.next with
    | none => rfl
    | some q =>
      obtain ⟨b, i, h1, h2, _⟩ := h.own _ _ hG
      have := (h.lt b i h1).2; omega
  have hx0 := hi.nx.1
  have hst := hi.st.1
  have eF : ((P.add nb (newP k m P.next t d)).enter p.data.toList pb nb).F p.data.toList = some nb := by simp [PFS.enter]
  have eI : ((P.add nb (newP k m P.next t d)).enter p.data.toList pb nb).ino nb = some (newP k m P.next t d) := by simp [PFS.enter, PFS.add, hpn]
  refine ⟨by unfold PFS.findErr; rw [eF]; rfl, by unfold PFS.stat; rw [eF]; simp only [eI]; rfl, hG, ?_⟩
  have hino : ∀ c k0, ((P.add nb (newP k m P.next t d)).enter p.data.toList pb nb).ino c = some k0 → (c = nb ∧ k0 = newP k m P.next t d) ∨ (c ≠ nb ∧ ∃ k1, P.ino c = some k1 ∧ k1.num = k0.num ∧ k1.links = k0.links) := by
    intro c k0 hc
    by_cases e : c = nb
    · subst e; rw [eI] at hc; cases hc; exact .inl ⟨rfl, rfl⟩
    · right
      refine ⟨e, ?_⟩
      simp only [PFS.enter, PFS.add] at hc
      split at hc
      · next e2 => subst e2; rw [if_neg e, g2] at hc; cases hc; exact ⟨pi, g2, rfl, rfl⟩
      · try rw [if_neg e] at hc
        exact ⟨k0, hc, rfl, rfl⟩
  have hback : ∀ c k1, P.ino c = some k1 → ∃ k0, ((P.add nb (newP k m P.next t d)).enter p.data.toList pb nb).ino c = some k0 ∧ k0.num = k1.num := by
    intro c k1 h1
    have e : c ≠ nb := fun e => by rw [e, g3] at h1; cases h1
    simp only [PFS.enter, PFS.add]
    split
    · next e2 => subst e2; rw [if_neg e, h1]; exact ⟨_, rfl, rfl⟩
    · try rw [if_neg e]
      exact ⟨k1, h1, rfl⟩
  refine ⟨?_, ?_, ?_, ?_, ?_⟩
  · intro c k0 hc
    show 0 ≤ k0.num ∧ k0.num < P.next + P.step
    rcases hino c k0 hc with ⟨_, rfl⟩ | ⟨_, k1, h1, h2, _⟩
    · simp only [newP]; omega
    · have := h.lt c k1 h1; omega
  · intro c c' k0 k0' hc hc' e
    rcases hino c k0 hc with ⟨rfl, rfl⟩ | ⟨_, k1, h1, h2, _⟩
    · rcases hino c' k0' hc' with ⟨rfl, _⟩ | ⟨_, k1', h1', h2', _⟩
      · rfl
      · have := (h.lt _ _ h1').2; simp only [newP] at e; omega
    · rcases hino c' k0' hc' with ⟨rfl, rfl⟩ | ⟨_, k1', h1', h2', _⟩
      · have := (h.lt _ _ h1).2; simp only [newP] at e; omega
      · exact h.inj _ _ _ _ h1 h1' (by omega)
  · intro x q hq
    unfold upd at hq
    split at hq
    · next e => cases hq; exact ⟨nb, _, eI, e.symm, eF⟩
    · obtain ⟨b, i, h1, h2, h3⟩ := h.own x q hq
      obtain ⟨k0, a1, a2⟩ := hback b i h1
      refine ⟨b, k0, a1, by omega, ?_⟩
      simp only [PFS.enter, PFS.add]
      rw [if_neg (fun e => by rw [e, hz.2] at h3; cases h3)]
      exact h3
  · intro c k0 hc
    unfold upd
    split
    · exact ⟨p, rfl, hsz⟩
    · next e =>
      rcases hino c k0 hc with ⟨_, rfl⟩ | ⟨_, k1, h1, h2, _⟩
      · exact absurd rfl e
      · obtain ⟨q, hq⟩ := h.all c k1 h1
        rw [h2] at hq; exact ⟨q, hq⟩
  · intro c k0 hc
    rcases hino c k0 hc with ⟨_, rfl⟩ | ⟨_, k1, h1, _, h3⟩
    · simp [newP]
    · have := h.pos c k1 h1; omega

theorem dis_link {P P' : PFS} {G : Int → Option ByteArray} {p t : ByteArray} (h : DisInv P G) (hs : LinkStep P p.data.toList t.data.toList P') (he : P.linkErr p.data.toList t.data.toList = 0) (hsz : p.size ≤ 20000) :
    ∃ x q, P'.findErr p.data.toList = 0 ∧ (P'.stat p.data.toList).num = x ∧ 0 ≤ x ∧ x < P.next ∧ G x = some q ∧ q.size ≤ 20000 ∧ P'.findErr q.data.toList = 0 ∧ P'.stat q.data.toList = P'.stat p.data.toList ∧ 2 ≤ (P'.stat p.data.toList).links ∧ DisInv P' (upd G x p) := by
  unfold LinkStep at hs
  rw [if_pos he] at hs
  obtain ⟨pb, pi, nb, ni, g1, g2, g3, g4, rfl⟩ := hs
  have hz := linkErr_zero he
  have hpz := placeErr_zero hz.2.1
  have hpn : pb ≠ nb := fun e => by
    subst e
    have a1 := hpz.1; have a2 := hz.2.2
    unfold PFS.kindAt at a1 a2
    rw [g1] at a1; rw [g3] at a2
    simp only [Option.bind_some] at a1 a2
    rw [a1] at a2; simp at a2
  have eF : ((P.turn nb ni.bump).enter p.data.toList pb nb).F p.data.toList = some nb := by simp [PFS.enter]
  have eI : ((P.turn nb ni.bump).enter p.data.toList pb nb).ino nb = some ni.bump := by simp [PFS.enter, PFS.turn, hpn.symm]
  have eS : ((P.turn nb ni.bump).enter p.data.toList pb nb).stat p.data.toList = ni.bump.stat := by unfold PFS.stat; rw [eF]; simp only [eI]
  obtain ⟨q, hq, hqs⟩ := h.all nb ni g4
  obtain ⟨b, i, h1, h2, h3⟩ := h.own _ _ hq
  have hb : b = nb := h.inj _ _ _ _ h1 g4 h2
  subst hb
  have eQ : ((P.turn b ni.bump).enter p.data.toList pb b).F q.data.toList = some b := by
    simp only [PFS.enter, PFS.turn]; split
    · rfl
    · exact h3
  have hT := dis_turn h b ni ni.bump g4 rfl (by simp only [PIno.bump]; omega)
  have hE := dis_enter hT p pb b pi ni.bump (by simp [PFS.turn, hpn, g2]) (by simp [PFS.turn]) (.inl hpz.2) hsz
  refine ⟨ni.num, q, by unfold PFS.findErr; rw [eF]; rfl, by rw [eS]; rfl, (h.lt _ _ g4).1, (h.lt _ _ g4).2, hq, hqs, by unfold PFS.findErr; rw [eQ]; rfl, ?_, ?_, hE⟩
  · rw [eS]; unfold PFS.stat; rw [eQ]; simp only [eI]
  · rw [eS]; have := h.pos _ _ g4; simp only [PIno.bump, PIno.stat]; omega

/-- How a string in a map reads. -/
def strElem : Value → Option (DataW Unit × List MemPlace)
  | .string s => some (.lit (.string s.data.toList), [])
  | _ => none
def strOf (o : Option ByteArray) : ByteArray := o.getD ⟨#[]⟩
theorem strElem_inv {v : Value} {s : ByteArray} {ps : List MemPlace} (h : strElem v = some (.lit (.string s.data.toList), ps)) : v = .string s := by
  unfold strElem at h
  split at h
  · next t =>
    simp at h
    exact congrArg Value.string (ByteArray.ext h.1)
  · cases h

/-- Block M is a map of at most n numbers; G tells the path at each. -/
structure IMap (w : World) (M n : Nat) (G : Int → Option ByteArray) : Prop where
  out : ∃ D : DataW Unit, w.ownsMap Tryd.prog 3 strElem M n D ∧ ∀ x : Int, has D (.int .i64 x) = (G x).isSome ∧ D.atKey (.int .i64 x) (.lit (.string [])) = .lit (.string (strOf (G x)).data.toList)
theorem IMap.lt {w : World} {M n : Nat} {G : Int → Option ByteArray} (h : IMap w M n G) : M < w.heap.size := by
  obtain ⟨D, hD, _⟩ := h; exact hD.lt
theorem IMap.chg {S : Nat → Prop} {w w' : World} {M n : Nat} {G : Int → Option ByteArray} (h : IMap w M n G) (c : Chg S w w') (hS : ¬ S M) : IMap w' M n G := by
  obtain ⟨D, hD, hF⟩ := h
  exact ⟨D, ownsMap_chg hD c hS, hF⟩
theorem IMap.made (w : World) : IMap (w.alloc (.map #[] 0)) w.heap.size 0 (fun _ => none) :=
  ⟨.map [], World.ownsMap_made w _ _ _, fun s => ⟨rfl, rfl⟩⟩
theorem zeroStr (w : World) : (zeroValue 9).run Tryd.prog w = .ok (.string ⟨#[]⟩) w := by kernel_rfl
theorem int_wf {x : Int} (h0 : -9223372036854775808 ≤ x) (h1 : x ≤ 9223372036854775807) : (Lit.int .i64 x).wf = true := by
  have e0 : IntKind.i64.min = -9223372036854775808 := by decide
  have e1 : IntKind.i64.max = 9223372036854775807 := by decide
  simp only [Lit.wf, e0, e1]
  simp; omega
theorem IMap.look {w : World} {M n : Nat} {G : Int → Option ByteArray} (h : IMap w M n G) (x : Int) (h0 : -9223372036854775808 ≤ x) (h1 : x ≤ 9223372036854775807) :
    (Instr.lookup 35 (.map (some M)) (.int .i64 x) true).run Tryd.prog w = .ok (.tuple #[.string (strOf (G x)), .bool (G x).isSome]) w := by
  obtain ⟨D, hD, hF⟩ := h
  obtain ⟨v, ps, hrun, hv⟩ := hD.look_ok (int_keyed Tryd.underlying3) Tryd.underlying35 (zeroStr w) (zd := .lit (.string [])) (zp := []) rfl (keyOf_int_mk Tryd.underlying3 (int_wf h0 h1))
  rw [(hF _).2] at hv
  rw [hrun, strElem_inv hv, (hF _).1]
theorem IMap.store {w : World} {M n : Nat} {G : Int → Option ByteArray} (h : IMap w M n G) (hn : n < maxLen) (x : Int) (h0 : -9223372036854775808 ≤ x) (h1 : x ≤ 9223372036854775807) (p : ByteArray) :
    ∃ w', (Instr.mapUpdate 35 (.map (some M)) (.int .i64 x) (.string p)).run Tryd.prog w = .ok () w' ∧ IMap w' M (n + 1) (upd G x p) ∧ Chg (fun k => k = M) w w' := by
  obtain ⟨D, hD, hF⟩ := h
  obtain ⟨w', hrun, hD', hg⟩ := hD.store (int_keyed Tryd.underlying3) Tryd.underlying35 hn (keyOf_int_mk Tryd.underlying3 (int_wf h0 h1)) (val := .string p) (d := .lit (.string p.data.toList)) (ps := []) rfl
  refine ⟨w', hrun, ⟨_, hD', fun t => ?_⟩, (Chg.of_grown hg.grown).mono (fun k _ h => by cases h; rfl)⟩
  have hkey : WideAt.IsKeyLit (.int .i64 x) := by trivial
  unfold upd
  by_cases ht : t = x
  · subst ht
    simp only [if_true]
    exact ⟨has_put_same hD.isMap hkey _, atKey_put_same hD.isMap hkey _ _⟩
  · rw [if_neg ht]
    have hne : (Lit.int .i64 t) ≠ .int .i64 x := fun e => ht (by injection e)
    exact ⟨(has_put_other hne _).trans (hF t).1, (atKey_put_other hne _ _).trans (hF t).2⟩
end Go.Proofs.YtfkfeoocglcjgaaDoor
