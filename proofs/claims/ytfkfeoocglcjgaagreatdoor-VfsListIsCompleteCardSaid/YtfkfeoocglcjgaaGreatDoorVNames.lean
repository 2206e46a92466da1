/- Paths are joined from parent and base; names lie in order. -/
import Derived.Test.YtfkfeoocglcjgaaGreatDoorVTree
import Derived.Lib.LastIndexLaws
import Derived.Sort.Walk0
set_option linter.unusedVariables false
set_option linter.unusedSimpArgs false
namespace Go.Proofs.YtfkfeoocglcjgaaGreatDoor
open Go.RowKit

theorem occ_slash (s : List UInt8) (j : Nat) : Lib.occAt s [47] j = true ↔ s[j]? = some 47 := by
  unfold Lib.occAt
  have e : s[j]? = (s.drop j)[0]? := by simp [List.getElem?_drop]
  rw [e]
  cases s.drop j with
  | nil => exact ⟨fun h => absurd h (by decide), fun h => absurd h (by simp)⟩
  | cons a t =>
    show ((47 : UInt8) == a && [].isPrefixOf t) = true ↔ some a = some 47
    rw [List.isPrefixOf_nil_left, Bool.and_true, beq_iff_eq]
    exact ⟨fun h => by rw [h], fun h => (Option.some.inj h).symm⟩
theorem slash_spec (s : List UInt8) : (slash s = -1 ∧ ∀ j : Nat, s[j]? ≠ some 47) ∨ ∃ i : Nat, slash s = i ∧ i < s.length ∧ s[i]? = some 47 ∧ ∀ j, i < j → s[j]? ≠ some 47 := by
  unfold slash Lib.lastIndex
  split
  · next h =>
    simp only [List.length_cons, List.length_nil] at h ⊢
    have e : s.length - (0 + 1) + 1 = s.length := by omega
    rw [e]
    rcases Lib.lastOcc_spec s [47] s.length with ⟨h1, h2⟩ | ⟨i, h1, h2, h3, h4⟩
    · refine .inl ⟨h1, fun j hj => ?_⟩
      have hl : j < s.length := by
        have := (List.getElem?_eq_some_iff.1 hj).1; exact this
      have := h2 j hl
      rw [(occ_slash s j).2 hj] at this; cases this
    · refine .inr ⟨i, h2, h1, (occ_slash s i).1 h3, fun j hj hk => ?_⟩
      have hl : j < s.length := (List.getElem?_eq_some_iff.1 hk).1
      have := h4 j hj hl
      rw [(occ_slash s j).2 hk] at this; cases this
  · next h =>
    simp only [List.length_cons, List.length_nil] at h
    have : s = [] := by cases s with | nil => rfl | cons a t => simp at h
    subst this
    exact .inl ⟨rfl, by simp⟩

def joinB (d x : List UInt8) : List UInt8 := if d = [] then x else d ++ [47] ++ x
theorem join_parts (p : List UInt8) (h : okPath p = true) : joinB (parentB p) (baseB p) = p := by
  unfold parentB baseB
  rcases slash_spec p with ⟨h1, _⟩ | ⟨i, h1, h2, h3, _⟩
  · rw [h1]; simp [joinB]
  · rw [h1]
    have e1 : ((i : Int) + 1).toNat = i + 1 := by omega
    have e2 : (i : Int).toNat = i := by omega
    rw [e1, e2]
    unfold joinB
    have hd : p.drop i = 47 :: p.drop (i + 1) := by
      rw [List.drop_eq_getElem_cons h2]
      congr 1
      have := List.getElem?_eq_getElem h2
      rw [this] at h3; exact Option.some.inj h3
    by_cases e : i = 0
    · subst e
      exfalso
      rw [List.drop_zero] at hd
      rw [hd] at h
      simp [okPath, comps, okComp] at h
    · rw [if_neg (by intro hh; have := congrArg List.length hh; rw [List.length_take, List.length_nil] at this; omega)]
      rw [List.append_assoc]
      show p.take i ++ (47 :: p.drop (i + 1)) = p
      rw [← hd, List.take_append_drop]
theorem base_free (p : List UInt8) : Lib.indexByte (baseB p) 47 = -1 := by
  rcases Int.lt_or_le (Lib.indexByte (baseB p) 47) 0 with h | h
  · have := Lib.indexByte_ge (baseB p) 47; omega
  · exfalso
    obtain ⟨o, ho⟩ : ∃ o : Nat, Lib.indexByte (baseB p) 47 = o := ⟨(Lib.indexByte (baseB p) 47).toNat, by omega⟩
    have h1 := (Lib.indexByte_some ho).1
    unfold baseB at h1
    rw [List.getElem?_drop] at h1
    rcases slash_spec p with ⟨h2, h3⟩ | ⟨i, h2, _, _, h3⟩
    · exact h3 _ h1
    · exact h3 _ (by omega) h1
theorem base_le (p : List UInt8) : (baseB p).length ≤ p.length := by unfold baseB; simp

/-- Halving in an ordered row. -/
theorem bs_mono (less : Nat → Bool) : ∀ (f lo hi : Nat), hi - lo ≤ f → lo ≤ hi → (∀ s t, lo ≤ s → s ≤ t → t < hi → less t = true → less s = true) →
    lo ≤ Lib.bsGo less f lo hi ∧ Lib.bsGo less f lo hi ≤ hi ∧ (∀ t, lo ≤ t → t < Lib.bsGo less f lo hi → less t = true) ∧ (∀ t, Lib.bsGo less f lo hi ≤ t → t < hi → less t = false)
  | 0, lo, hi, h, h0, _ => by
    have : lo = hi := by omega
    subst this
    unfold Lib.bsGo
    exact ⟨Nat.le_refl _, Nat.le_refl _, fun t _ _ => by omega, fun t _ _ => by omega⟩
  | f + 1, lo, hi, h, h0, hm => by
    unfold Lib.bsGo
    by_cases c : lo < hi
    · rw [if_pos c]
      by_cases c2 : less ((lo + hi) / 2) = true
      · rw [if_pos c2]
        obtain ⟨a1, a2, a3, a4⟩ := bs_mono less f ((lo + hi) / 2 + 1) hi (by omega) (by omega) (fun s t x y z => hm s t (by omega) y z)
        refine ⟨by omega, a2, fun t x y => ?_, a4⟩
        by_cases c3 : t ≤ (lo + hi) / 2
        · exact hm t _ x c3 (by omega) c2
        · exact a3 t (by omega) y
      · rw [if_neg c2]
        obtain ⟨a1, a2, a3, a4⟩ := bs_mono less f lo ((lo + hi) / 2) (by omega) (by omega) (fun s t x y z => hm s t x y (by omega))
        refine ⟨a1, by omega, a3, fun t x y => ?_⟩
        by_cases c3 : t < (lo + hi) / 2
        · exact a4 t x c3
        · cases hx : less t with
          | false => rfl
          | true => exact absurd (hm _ t (by omega) (by omega) y hx) c2
    · rw [if_neg c]
      have : lo = hi := by omega
      subst this
      exact ⟨Nat.le_refl _, Nat.le_refl _, fun t _ _ => by omega, fun t _ _ => by omega⟩

def Asc (l : List ByteArray) : Prop := l.Pairwise fun a b => a.toList < b.toList
theorem putName_asc {l : List ByteArray} (h : Asc l) (x : ByteArray) (hx : x ∉ l) : Asc (putName l x) := by
  unfold putName posOf
  have hg : ∀ t (ht : t < l.length), l.getD t ByteArray.empty = l[t] := fun t ht => by simp [List.getD, ht]
  have hp : ∀ s t (hs : s < t) (ht : t < l.length), (l[s]'(by omega)).toList < l[t].toList := fun s t hs ht => List.pairwise_iff_getElem.1 h s t (by omega) ht hs
  obtain ⟨a1, a2, a3, a4⟩ := bs_mono (fun t => Op.bytesLess (l.getD t ByteArray.empty).toList x.toList) l.length 0 l.length (by omega) (by omega) (by
    intro s t h1 h2 h3 h4
    rw [bytesLess_eq, decide_eq_true_iff] at h4 ⊢
    rw [hg s (by omega)]; rw [hg t h3] at h4
    by_cases e : s = t
    · subst e; exact h4
    · exact List.lt_trans (hp s t (by omega) h3) h4)
  generalize Lib.bsGo (fun t => Op.bytesLess (l.getD t ByteArray.empty).toList x.toList) l.length 0 l.length = k at *
  have hlt : ∀ y ∈ l.take k, y.toList < x.toList := by
    intro y hy
    obtain ⟨t, ht, rfl⟩ := List.getElem_of_mem hy
    simp only [List.length_take] at ht
    have := a3 t (by omega) (by omega)
    rw [bytesLess_eq, decide_eq_true_iff, hg t (by omega)] at this
    rw [List.getElem_take]; exact this
  have hgt : ∀ y ∈ l.drop k, x.toList < y.toList := by
    intro y hy
    have hyl : y ∈ l := List.mem_of_mem_drop hy
    obtain ⟨t, ht, rfl⟩ := List.getElem_of_mem hy
    simp only [List.length_drop] at ht
    have := a4 (k + t) (by omega) (by omega)
    rw [bytesLess_eq, decide_eq_false_iff_not, hg (k + t) (by omega)] at this
    rw [List.getElem_drop]
    rw [List.getElem_drop] at hyl
    have h2 : x.toList ≤ (l[k + t]).toList := List.not_lt.1 this
    rcases List.le_iff_lt_or_eq.1 h2 with h3 | h3
    · exact h3
    · exact absurd (bytes_eq h3 ▸ hyl) hx
  unfold insAt Asc
  rw [List.append_assoc, List.pairwise_append]
  refine ⟨List.Pairwise.sublist (List.take_sublist _ _) h, ?_, ?_⟩
  · rw [List.singleton_append, List.pairwise_cons]
    exact ⟨hgt, List.Pairwise.sublist (List.drop_sublist _ _) h⟩
  · intro a ha b hb
    rw [List.singleton_append, List.mem_cons] at hb
    rcases hb with rfl | hb
    · exact hlt a ha
    · exact List.lt_trans (hlt a ha) (hgt b hb)
theorem mem_putName {l : List ByteArray} {x y : ByteArray} (h : y ∈ putName l x) : y = x ∨ y ∈ l := by
  unfold putName insAt at h
  simp only [List.mem_append, List.mem_singleton] at h
  rcases h with (h | h) | h
  · exact .inr (List.mem_of_mem_take h)
  · exact .inl h
  · exact .inr (List.mem_of_mem_drop h)

structure TreeOk (P : PFS) : Prop where
  asc : ∀ d, Asc (P.namesAt d)
  all : ∀ d x, x ∈ P.namesAt d → (P.kindAt (joinB d x.data.toList)).isSome = true ∧ Lib.indexByte x.data.toList 47 = -1 ∧ x.size ≤ 20000

theorem TreeOk.same {P P' : PFS} (h : TreeOk P) (v : SameView P' P) : TreeOk P' := ⟨fun d => by rw [v.n]; exact h.asc d, fun d x hx => by rw [v.n] at hx; rw [v.k]; exact h.all d x hx⟩
theorem TreeOk.grown {P P' : PFS} (h : TreeOk P) {p : List UInt8} {k : Int} (g : Grown P P' p k) (hp : okPath p = true) (hno : P.kindAt p = none) (hs : p.length ≤ 20000) : TreeOk P' := by
  have hb : (base8 p).data.toList = baseB p := by unfold base8; simp
  have hbs : (base8 p).size = (baseB p).length := by unfold base8; exact size_of _
  refine ⟨fun d => ?_, fun d x hx => ?_⟩
  · rw [g.n]
    split
    · exact List.Pairwise.nil
    · split
      · next e =>
        refine putName_asc (h.asc d) _ (fun hm => ?_)
        have := (h.all d _ hm).1
        rw [hb, e, join_parts p hp, hno] at this; cases this
      · exact h.asc d
  · rw [g.n] at hx
    have old : x ∈ P.namesAt d → (P'.kindAt (joinB d x.data.toList)).isSome = true ∧ Lib.indexByte x.data.toList 47 = -1 ∧ x.size ≤ 20000 := by
      intro hm
      obtain ⟨h1, h2, h3⟩ := h.all d x hm
      refine ⟨?_, h2, h3⟩
      rw [g.k]; split
      · rfl
      · exact h1
    split at hx
    · cases hx
    · split at hx
      · next e =>
        rcases mem_putName hx with rfl | hm
        · refine ⟨?_, ?_, ?_⟩
          · rw [hb, e, join_parts p hp, g.k, if_pos rfl]; rfl
          · rw [hb]; exact base_free p
          · rw [hbs]; have := base_le p; omega
        · exact old hm
      · exact old hx
theorem doErr_zero {P : PFS} {a : ActD} (h : P.doErr a = 0) (h0 : 0 ≤ a.kind) (h4 : a.kind ≤ 4) : pathErr a.path.data.toList = 0 ∧ P.placeErr a.path.data.toList = 0 := by
  obtain ⟨kind, path, mode, A, cap, data, target⟩ := a
  unfold PFS.doErr at h
  dsimp only at h h0 h4 ⊢
  split at h
  · have := makeErr_zero h; exact ⟨this.1, this.2.2.2⟩
  split at h
  · have := makeErr_zero h; exact ⟨this.1, this.2.2.2⟩
  split at h
  · have := makeErr_zero h; exact ⟨this.1, this.2.2.2⟩
  split at h
  · have := makeErr_zero h; exact ⟨this.1, this.2.2.2⟩
  split at h
  · have := linkErr_zero h; exact ⟨this.1, this.2.1⟩
  · omega
theorem pathErr_zero {s : List UInt8} (h : pathErr s = 0) : okPath s = true := by
  unfold pathErr at h
  split at h
  · cases h
  split at h
  · assumption
  · cases h
theorem TreeOk.step {P P' : PFS} (h : TreeOk P) (ok : DirOk P) (hi : P.Inv) {a : ActD} (hs : DoStep P a P') (hl : a.path.size ≤ 20000) : TreeOk P' := by
  obtain ⟨_, g⟩ := do_view ok hi hs
  split at g
  · next c =>
    obtain ⟨e1, e2⟩ := doErr_zero c.1 c.2.1 c.2.2
    obtain ⟨_, e3⟩ := placeErr_zero e2
    exact h.grown g (pathErr_zero e1) (kindAt_no e3) (by simpa using hl)
  · exact h.same g
/-- Directories stay. -/
theorem dir_stays {P P' : PFS} (ok : DirOk P) (hi : P.Inv) {a : ActD} (hs : DoStep P a P') (d : List UInt8) (hd : P.kindAt d = some 0) : P'.kindAt d = some 0 := by
  obtain ⟨_, g⟩ := do_view ok hi hs
  split at g
  · next c =>
    obtain ⟨e1, e2⟩ := doErr_zero c.1 c.2.1 c.2.2
    obtain ⟨_, e3⟩ := placeErr_zero e2
    rw [g.k]; split
    · next e => subst e; rw [kindAt_no e3] at hd; cases hd
    · exact hd
  · rw [g.k]; exact hd
end Go.Proofs.YtfkfeoocglcjgaaGreatDoor
