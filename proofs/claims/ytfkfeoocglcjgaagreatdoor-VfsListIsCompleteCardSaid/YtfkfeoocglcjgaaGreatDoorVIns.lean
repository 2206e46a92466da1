/- slices.Insert of one string, anywhere. -/
import Derived.Test.YtfkfeoocglcjgaaGreatDoorVInsert
import Derived.Test.YtfkfeoocglcjgaaGreatDoorShelfC
set_option linter.unusedVariables false
set_option linter.unusedSimpArgs false
namespace Go.Proofs.YtfkfeoocglcjgaaGreatDoor
open Go.RowKit

/-- Cells laid over others from a place on. -/
def putL (cs : Array Value) (o : Nat) : List Value → Array Value
  | [] => cs
  | v :: r => putL (cs.setIfInBounds o v) (o + 1) r
theorem putL_toList : ∀ (vs : List Value) (cs : Array Value) (o : Nat), o + vs.length ≤ cs.size → (putL cs o vs).toList = cs.toList.take o ++ vs ++ cs.toList.drop (o + vs.length)
  | [], cs, o, _ => by simp [putL]
  | v :: r, cs, o, h => by
    have h' : o + (r.length + 1) ≤ cs.size := by simpa using h
    rw [putL, putL_toList r _ (o + 1) (by simp; omega)]
    rw [Array.toList_setIfInBounds]
    have ht : (cs.toList.set o v).take (o + 1) = cs.toList.take o ++ [v] := by
      rw [List.take_succ_eq_append_getElem (by simp; omega)]
      rw [List.take_set_of_le (Nat.le_refl _)]
      simp
    have hd : (cs.toList.set o v).drop (o + 1 + r.length) = cs.toList.drop (o + (v :: r).length) := by
      rw [List.drop_set_of_lt (by omega)]
      simp only [List.length_cons]
      congr 1; omega
    rw [ht, hd]; simp
theorem putL_size : ∀ (vs : List Value) (cs : Array Value) (o : Nat), (putL cs o vs).size = cs.size
  | [], _, _ => rfl
  | v :: r, cs, o => by rw [putL, putL_size r]; simp
theorem Blk.setCells {T : TypeId} {b : Nat} : ∀ (vs : List Value) (w : World) (cs : Array Value) (o : Nat), Blk w b cs T → Blk (w.setCells b o vs) b (putL cs o vs) T
  | [], _, _, _, h => h
  | v :: r, w, cs, o, h => by rw [World.setCells, putL]; exact Blk.setCells r _ _ _ (h.set o v)
theorem Chg.setCells {S : Nat → Prop} {b : Nat} : ∀ (vs : List Value) (a w : World) (o : Nat), Chg S a w → (b < a.heap.size → S b) → Chg S a (w.setCells b o vs)
  | [], _, _, _, h, _ => h
  | v :: r, a, w, o, h, hb => by rw [World.setCells]; exact Chg.setCells r a _ _ (h.setCell ⟨b, o, none⟩ v hb) hb
theorem own_of_blk {w : World} {e : TypeId} {g n cap : Nat} {cur : Array Value} (h : Blk w g cur e) (h1 : n ≤ cap) (h2 : cap ≤ maxLen) (h3 : cur.size = cap) {xs : List Value} (h4 : cur.toList.take n = xs) :
    w.ownsRow 0 e 1 (.slice (some ⟨g, 0, none⟩) n cap) n xs :=
  ⟨by rw [← h4, List.length_take]; simp; omega, .inr ⟨g, cap, cur, rfl, Nat.zero_le _, h, h1, h2, by omega, by simpa using h4⟩⟩
theorem own_blk {w : World} {e : TypeId} {g n cap : Nat} {xs : List Value} (h : w.ownsRow 0 e 1 (.slice (some ⟨g, 0, none⟩) n cap) n xs) :
    ∃ cur, Blk w g cur e ∧ n ≤ cap ∧ cap ≤ maxLen ∧ cur.size = cap ∧ cur.toList.take n = xs := by
  obtain ⟨hl, h⟩ := h
  rcases h with ⟨h, _⟩ | ⟨g', cap', cur, h, _, hb, hn, hc, hs, ht⟩
  · cases h
  · cases h; exact ⟨cur, hb, hn, hc, by omega, by simpa using ht⟩

/-- A name put into a list. -/
def insAt {α : Type} (l : List α) (i : Nat) (x : α) : List α := l.take i ++ [x] ++ l.drop i
theorem insAt_end {α : Type} (l : List α) (x : α) : insAt l l.length x = l ++ [x] := by simp [insAt]

theorem zeros_size (n : Nat) : (Builtin.zeroCells (Value.string ⟨#[]⟩).cells n).size = n := by rw [size_zeroCells]; simp [Value.cells]

theorem Insert_mid (b n cap i g c' : Nat) (xs : List Value) (x : ByteArray) (w : World) (hown : w.ownsRow 0 9 1 (.slice (some ⟨b, 0, none⟩) n cap) n xs) (hn : n ≤ 1000000) (hi : i < n) (hone : ∀ v ∈ xs, v.oneCell' = true)
    (hx : Blk w g #[.string x] 9) (hgb : g ≠ b) :
    Calls Tryz.prog 78 #[.slice (some ⟨b, 0, none⟩) n cap, .int .i64 i, .slice (some ⟨g, 0, none⟩) 1 c'] w fun e w' => ∃ k c2, e = .returned (.slice (some ⟨k, 0, none⟩) (n + 1) c2) ∧
      w'.ownsRow 0 9 1 (.slice (some ⟨k, 0, none⟩) (n + 1) c2) (n + 1) (insAt xs i (.string x)) ∧ (b = k ∨ k = w.heap.size) ∧ Chg (fun j => b = j) w w' := by
  obtain ⟨cur, hB, hnc, hcm, hsz, htk⟩ := own_blk hown
  have hxl : xs.length = n := by simpa using hown.1
  have hcs : ∀ j v, xs[j]? = some v → w.cell? ⟨b, 0 + j, none⟩ = some v := by
    intro j v hv
    rw [hB.cell, ← htk] at *
    rw [List.getElem?_take] at hv
    split at hv
    · simpa using hv
    · cases hv
  have hvs : ∀ j v, [Value.string x][j]? = some v → w.cell? ⟨g, 0 + j, none⟩ = some v := by
    intro j v hv
    rw [hx.cell]
    match j, hv with
    | 0, hv => simpa using hv
    | j + 1, hv => simp at hv
  have h1v : ∀ u ∈ [Value.string x], u.oneCell' = true := by intro u hu; simp at hu; subst hu; rfl
  have hsp : w.shape? g = some (9, 1) := by unfold Blk at hx; simp [World.shape?, hx]
  have hsb : w.shape? b = some (9, cap) := by unfold Blk at hB; simp [World.shape?, hB, hsz]
  by_cases hroom : n + 1 ≤ cap
  · refine (Tryz.slices_Insert_string_shift b 0 n cap i g 0 1 c' xs [.string x] w hi (by decide) hroom (by unfold maxLen at hcm; omega) hgb hxl rfl hcs ?_ ?_ hvs hone h1v 9 9 1 cap hsp hsb (by omega) (hx.free 0) (hx.free 1)).mono ?_
    · intro j hj; rw [hB.cell]; simp; try omega
    · intro j hj; exact hB.free _
    · rintro e w' ⟨rfl, rfl⟩
      have h2 := (Blk.setCells [Value.string x] _ _ (0 + i) ((Blk.setCells (xs.drop i) w.drew cur (0 + (i + 1)) hB.drew)))
      refine ⟨b, cap, rfl, own_of_blk h2 hroom hcm (by rw [putL_size, putL_size]; exact hsz) ?_, .inl rfl, ((Chg.setCells _ _ _ _ ((Chg.refl _ w).drew) (fun _ => rfl)).setCells _ _ _ _ (fun _ => rfl))⟩
      have hdl : (xs.drop i).length = n - i := by rw [List.length_drop, hxl]
      rw [putL_toList _ _ _ (by rw [putL_size]; simp; omega), putL_toList _ _ _ (by rw [hdl]; omega), hdl]
      have ht : xs.take i = cur.toList.take i := by rw [← htk, List.take_take, Nat.min_eq_left (by omega)]
      have e1 : (cur.toList.take (0 + (i + 1)) ++ xs.drop i ++ cur.toList.drop (0 + (i + 1) + (n - i))).take (0 + i) = xs.take i := by
        rw [ht, List.append_assoc, List.take_append_of_le_length (by simp; omega), List.take_take, Nat.min_eq_left (by omega)]
        simp
      have e2 : (cur.toList.take (0 + (i + 1)) ++ xs.drop i ++ cur.toList.drop (0 + (i + 1) + (n - i))).drop (0 + i + [Value.string x].length) = xs.drop i ++ cur.toList.drop (n + 1) := by
        have hl : (cur.toList.take (0 + (i + 1))).length = i + 1 := by rw [List.length_take]; simp; omega
        rw [List.append_assoc, List.drop_append_of_le_length (by rw [hl]; simp)]
        rw [List.drop_of_length_le (by rw [hl]; simp), List.nil_append]
        congr 2; omega
      rw [e1, e2, insAt, ← List.append_assoc]
      refine List.take_left' ?_
      simp; omega
  · have hcn : cap = n := by omega
    subst hcn
    refine (Tryz.slices_Insert_string_grow b 0 cap cap i g 0 1 c' xs [.string x] w hi (by decide) (Nat.le_refl _) (by omega) (by omega) hxl rfl hcs hvs hone h1v).mono ?_
    rintro e w' ⟨rfl, rfl⟩
    have hG1 := grownCap_ge w (cap + 1) cap 9
    have hG2 := grownCap_le_maxLen w (cap + 1) cap 9 (by unfold maxLen; omega)
    generalize grownCap w (cap + 1) cap 9 = G at hG1 hG2 ⊢
    have hN := Blk.new w ((xs.take i).toArray ++ Builtin.zeroCells (Value.string ⟨#[]⟩).cells (cap + 1 - i) ++ Builtin.zeroCells (Value.string ⟨#[]⟩).cells (G - (cap + 1))) 9
    have hNl : ((xs.take i).toArray ++ Builtin.zeroCells (Value.string ⟨#[]⟩).cells (cap + 1 - i) ++ Builtin.zeroCells (Value.string ⟨#[]⟩).cells (G - (cap + 1))).size = G := by
      rw [Array.size_append, Array.size_append, zeros_size, zeros_size]
      simp; omega
    have hti : ((xs.take i).toArray ++ Builtin.zeroCells (Value.string ⟨#[]⟩).cells (cap + 1 - i) ++ Builtin.zeroCells (Value.string ⟨#[]⟩).cells (G - (cap + 1))).toList.take i = xs.take i := by
      rw [Array.toList_append, Array.toList_append, List.append_assoc]
      exact List.take_left' (by simp; omega)
    generalize ((xs.take i).toArray ++ Builtin.zeroCells (Value.string ⟨#[]⟩).cells (cap + 1 - i) ++ Builtin.zeroCells (Value.string ⟨#[]⟩).cells (G - (cap + 1))) = cur2 at hN hNl hti ⊢
    have h2 := Blk.setCells (xs.drop i) _ _ (i + 1) ((Blk.setCells [Value.string x] _ _ i hN.drew).drew)
    have hdl : (xs.drop i).length = cap - i := by rw [List.length_drop, hxl]
    refine ⟨w.heap.size, G, rfl, own_of_blk h2 hG1 hG2 (by rw [putL_size, putL_size]; exact hNl) ?_, .inr rfl, ?_⟩
    · rw [putL_toList _ _ _ (by rw [putL_size, hdl, hNl]; omega), putL_toList _ _ _ (by simp [hNl]; omega), hdl]
      have e1 : (cur2.toList.take i ++ [Value.string x] ++ cur2.toList.drop (i + [Value.string x].length)).take (i + 1) = xs.take i ++ [.string x] := by
        rw [hti]
        exact List.take_left' (by simp; omega)
      rw [e1, insAt]
      exact List.take_left' (by simp; omega)
    · exact Chg.setCells _ _ _ _ ((Chg.setCells _ _ _ _ (((Chg.refl _ w).alloc _).drew) (fun h => absurd h (Nat.lt_irrefl _))).drew) (fun h => absurd h (Nat.lt_irrefl _))

theorem Insert_any (A : Option Addr) (n cap i g c' : Nat) (xs : List Value) (x : ByteArray) (w : World) (hown : w.ownsRow 0 9 1 (.slice A n cap) n xs) (hn : n ≤ 1000000) (hi : i ≤ n) (hone : ∀ v ∈ xs, v.oneCell' = true)
    (hx : Blk w g #[.string x] 9) (hgb : ∀ ad, A = some ad → g ≠ ad.block) :
    Calls Tryz.prog 78 #[.slice A n cap, .int .i64 i, .slice (some ⟨g, 0, none⟩) 1 c'] w fun e w' => ∃ k c2, e = .returned (.slice (some ⟨k, 0, none⟩) (n + 1) c2) ∧
      w'.ownsRow 0 9 1 (.slice (some ⟨k, 0, none⟩) (n + 1) c2) (n + 1) (insAt xs i (.string x)) ∧ (A.map (·.block) = some k ∨ k = w.heap.size) ∧ Chg (fun j => A.map (·.block) = some j) w w' := by
  have hxl : xs.length = n := by simpa using hown.1
  by_cases hin : i = n
  · subst hin
    have h := Insert_end A i cap g c' xs x w hown hn (hx.cell 0)
    rw [← hxl, insAt_end, hxl]
    exact h
  · have hA : ∃ b, A = some ⟨b, 0, none⟩ := by
      rcases hown.2 with ⟨h, h0⟩ | ⟨b, _, _, h, _⟩
      · omega
      · cases h; exact ⟨b, rfl⟩
    obtain ⟨b, rfl⟩ := hA
    refine (Insert_mid b n cap i g c' xs x w hown hn (by omega) hone hx (hgb _ rfl)).mono ?_
    rintro e w' ⟨k, c2, rfl, h1, h2, h3⟩
    exact ⟨k, c2, rfl, h1, by simpa using h2, h3.mono (fun j _ hj => by simpa using hj)⟩
end Go.Proofs.YtfkfeoocglcjgaaGreatDoor
