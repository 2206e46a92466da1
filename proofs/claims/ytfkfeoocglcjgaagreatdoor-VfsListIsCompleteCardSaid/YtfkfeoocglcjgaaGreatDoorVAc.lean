/- The state of a file system through a list of acts. -/
import Derived.Test.YtfkfeoocglcjgaaGreatDoorVList
import Derived.Test.YtfkfeoocglcjgaaGreatDoorVConv
set_option linter.unusedVariables false
set_option linter.unusedSimpArgs false
namespace Go.Proofs.YtfkfeoocglcjgaaGreatDoor
open Go.RowKit

theorem Next.old {w0 w w' : World} {O O' : Nat → Prop} (h : Next w w' O O') (c : Chg (fun _ => False) w0 w) (hO : ∀ k, O k → w0.heap.size ≤ k) : Chg (fun _ => False) w0 w' ∧ ∀ k, O' k → w0.heap.size ≤ k :=
  ⟨c.trans h.chg (fun _ _ h => h) (fun k hk ho => by have := hO k ho; omega), fun k hk => by
    rcases h.own k hk with h1 | h1
    · exact hO k h1
    · exact Nat.le_trans c.size h1⟩

theorem MakeStep.keeps {P : PFS} {p : List UInt8} {k m : Int} {t : ByteArray} {d : List UInt8} {P' : PFS} (h : MakeStep P p k m t d P') : P'.rot = P.rot ∧ P'.lists = P.lists := by
  unfold MakeStep at h
  split at h
  · obtain ⟨_, _, _, _, _, _, rfl⟩ := h; exact ⟨rfl, rfl⟩
  · subst h; exact ⟨rfl, rfl⟩
theorem LinkStep.keeps {P : PFS} {p t : List UInt8} {P' : PFS} (h : LinkStep P p t P') : P'.rot = P.rot ∧ P'.lists = P.lists := by
  unfold LinkStep at h
  split at h
  · obtain ⟨_, _, _, _, _, _, _, _, rfl⟩ := h; exact ⟨rfl, rfl⟩
  · subst h; exact ⟨rfl, rfl⟩
theorem ChownStep.keeps {P : PFS} {p : List UInt8} {u m : Int} {P' : PFS} (h : ChownStep P p u m P') : P'.rot = P.rot ∧ P'.lists = P.lists := by
  unfold ChownStep at h
  split at h
  · subst h; exact ⟨rfl, rfl⟩
  · obtain ⟨_, _, rfl⟩ := h; exact ⟨rfl, rfl⟩
theorem DoStep.keeps {P : PFS} {a : ActD} {P' : PFS} (h : DoStep P a P') : P'.rot = P.rot ∧ P'.lists = P.lists := by
  unfold DoStep at h
  split at h
  · exact h.keeps
  · split at h
    · exact h.keeps
    · split at h
      · exact h.keeps
      · split at h
        · exact h.keeps
        · split at h
          · exact h.keeps
          · split at h
            · exact h.keeps
            · subst h; exact ⟨rfl, rfl⟩

/-- A file system that the law itself has made. -/
structure Mine (w0 wr : World) (B : Nat) (P : PFS) (O : Nat → Prop) : Prop where
  fs : HasFS wr B P O
  chg : Chg (fun _ => False) w0 wr
  ge : ∀ k, O k → w0.heap.size ≤ k
theorem Mine.keep {w0 wr w' : World} {B : Nat} {P : PFS} {O : Nat → Prop} (h : Mine w0 wr B P O) (c : Chg (fun _ => False) wr w') : Mine w0 w' B P O :=
  ⟨h.fs.chg c (fun _ _ h => h), h.chg.trans c (fun _ _ h => h) (fun _ _ h => h), h.ge⟩
theorem Mine.next {w0 wr w' : World} {B : Nat} {P P' : PFS} {O O' : Nat → Prop} (h : Mine w0 wr B P O) (f : HasFS w' B P' O') (n : Next wr w' O O') : Mine w0 w' B P' O' :=
  ⟨f, (n.old h.chg h.ge).1, (n.old h.chg h.ge).2⟩

theorem act_bounds {W : World} {A : Option Addr} {l : List ActD} (h : ActsAt W A l) (ht : tooLarge l = false) : l.length ≤ 40 ∧ ∀ a ∈ l, a.data.length ≤ 20000 ∧ a.path.size ≤ 20000 ∧ a.target.size ≤ 20000 := by
  unfold tooLarge at ht
  simp only [Bool.or_eq_false_iff, decide_eq_false_iff_not] at ht
  refine ⟨by omega, fun a ha => ?_⟩
  obtain ⟨j, hj, rfl⟩ := List.mem_iff_getElem.1 ha
  have e : sumLen l = sumLen (l.take j) + (l[j].len + sumLen (l.drop (j + 1))) := by
    have e1 : l.map ActD.len = (l.take j).map ActD.len ++ (l[j].len :: (l.drop (j + 1)).map ActD.len) := by
      rw [← List.map_cons, ← List.map_append, ← List.drop_eq_getElem_cons hj, List.take_append_drop]
    unfold sumLen
    rw [e1, List.sum_append, List.sum_cons]
  have h1 := sumLen_bounds (W := W) (l.take j) (fun a ha => h.ok a (List.mem_of_mem_take ha))
  have h2 := sumLen_bounds (W := W) (l.drop (j + 1)) (fun a ha => h.ok a (List.mem_of_mem_drop ha))
  unfold ActD.len at e
  omega

theorem ActsAt.at {W : World} {A : Option Addr} {l : List ActD} (h : ActsAt W A l) (k : Nat) (hk : k < l.length) : ∃ g off, A = some ⟨g, off, none⟩ ∧ (∀ i u, (l[k]).cells[i]? = some u → W.cell? ⟨g, off + k * 5 + i, none⟩ = some u) ∧ ActOk W l[k] := by
  rcases h with h | ⟨g, off, rfl, h⟩
  · subst h; simp at hk
  · exact ⟨g, off, rfl, h k _ (List.getElem?_eq_getElem hk)⟩

/-- Do, at an act that lies in memory. -/
theorem Mine.run {w0 wr : World} {B : Nat} {P : PFS} {O : Nat → Prop} (h : Mine w0 wr B P O) (a : ActD) (ha : ActOk w0 a) (hd : a.data.length ≤ 20000) (hn : P.n ≤ 100000) (hk : Keys w0) :
    Calls Tryz.prog 10 #[.pointer (some ⟨B, 0, none⟩), a.val] wr fun e w' => e = .returned (.int .i64 (P.doErr a)) ∧ ∃ P' O', Mine w0 w' B P' O' ∧ DoStep P a P' := by
  have hoff : a.data ≠ [] → ∀ ad, a.A = some ad → ad.block < w0.heap.size := fun hne => rd_lt ha.rd hne
  refine (Do_fs h.fs a (ha.chg h.chg) h.ge hoff (by omega) hn (hk.chg h.chg (fun h => h))).mono ?_
  rintro e w' ⟨rfl, P', O', g1, g2, g3⟩
  exact ⟨rfl, P', O', h.next g1 g2, g3⟩
end Go.Proofs.YtfkfeoocglcjgaaGreatDoor
