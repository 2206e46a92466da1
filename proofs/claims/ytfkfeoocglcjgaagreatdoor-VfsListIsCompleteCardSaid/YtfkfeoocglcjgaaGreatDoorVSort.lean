/- slices.Sort, IsSorted, Equal, Contains on rows of strings; pathname.Join. -/
import Derived.Test.YtfkfeoocglcjgaaGreatDoorVNames
import Derived.Test.YtfkfeoocglcjgaaGreatDoorVCat
set_option linter.unusedVariables false
set_option linter.unusedSimpArgs false
namespace Go.Proofs.YtfkfeoocglcjgaaGreatDoor
open Go.RowKit

theorem isNaN_spec (s : ByteArray) (w : World) : Calls Tryz.prog 70 #[.string s] w fun e w' => e = .returned (.bool false) ∧ w' = w := by
  go_enter Tryz.func70, Tryz.ntmps70
  go_wp2_with fail
  go_ret
  exact ⟨by simp, rfl⟩

theorem Less_spec (s t : ByteArray) (w : World) : Calls Tryz.prog 45 #[.string s, .string t] w fun e w' => e = .returned (.bool (Op.bytesLess s.toList t.toList)) ∧ w' = w := by
  have K := isNaN_spec s w
  have K2 := isNaN_spec t w
  go_enter Tryz.func45, Tryz.ntmps45
  go_wp2_with (go_at_call 70; refine K.mono ?_; rintro e w' ⟨rfl, rfl⟩)
  go_ret
  exact ⟨by simp, rfl⟩

theorem rd_cell {w : World} {A : Option Addr} {l : List ByteArray} (h : Rd w A (l.map .string)) (k : Nat) (hk : k < l.length) : ∃ g off, A = some ⟨g, off, none⟩ ∧ ∀ j (hj : j < l.length), w.cell? ⟨g, off + j, none⟩ = some (.string l[j]) := by
  rcases h with h | ⟨g, off, rfl, h⟩
  · have : l = [] := by simpa using h
    subst this; simp at hk
  · exact ⟨g, off, rfl, fun j hj => h j _ (by simp [hj])⟩

set_option maxRecDepth 100000 in
set_option maxHeartbeats 4000000 in
theorem IsSorted_asc (A : Option Addr) (c : Nat) (l : List ByteArray) (w : World) (h : Rd w A (l.map .string)) (hl : l.length ≤ 1000000) (ha : Asc l) :
    Calls Tryz.prog 19 #[.slice A l.length c] w fun e w' => e = .returned (.bool true) ∧ Chg (fun _ => False) w w' := by
  have w0 : IntKind.i64.wrap ((l.length : Int) - 1) = l.length - 1 := by rw [IntKind.wrap_i64]; omega
  go_enter Tryz.func19, Tryz.ntmps19
  go_wp2_with fail
  go_loopw [3] (fun p wr => (∃ k : Int, p = .int .i64 k ∧ -1 ≤ k ∧ k < l.length) ∧ ∃ q, wr = w.drewN q) (fun p _ => (match p with | .int _ k => (k + 1).toNat | _ => 0))
  case atStart => exact ⟨⟨_, rfl, by omega, by omega⟩, 0, rfl⟩
  case round =>
    obtain ⟨⟨k, rfl, hk0, hk⟩, q, rfl⟩ := hrel
    by_cases hp : 0 < k
    · obtain ⟨m, rfl⟩ : ∃ m : Nat, k = (m : Int) + 1 := ⟨(k - 1).toNat, by omega⟩
      obtain ⟨g, off, rfl, hc⟩ := rd_cell h 0 (by omega)
      have t1 : decide ((0 : Int) < (m : Int) + 1) = true := decide_eq_true hp
      have hw : IntKind.i64.wrap ((m : Int) + 1 - 1) = m := by rw [IntKind.wrap_i64]; omega
      have i0 : (0 : Int) ≤ (m : Int) + 1 := by omega
      have i1 : (m : Int) + 1 < l.length := hk
      have i2 : (0 : Int) ≤ m := by omega
      have i3 : (m : Int) < l.length := by omega
      have hm1 : m + 1 < l.length := by omega
      have hm0 : m < l.length := by omega
      have c1 : ∀ j, (w.drewN j).cell? ⟨g, off + (m + 1), none⟩ = some (.string l[m + 1]) := fun _ => hc (m + 1) hm1
      have c0 : ∀ j, (w.drewN j).cell? ⟨g, off + m, none⟩ = some (.string l[m]) := fun _ => hc m hm0
      have hlt : (l[m]).toList < (l[m + 1]).toList := List.pairwise_iff_getElem.1 ha m (m + 1) hm0 hm1 (by omega)
      have hf : Op.bytesLess (l[m + 1]).toList (l[m]).toList = false := by
        rw [bytesLess_eq, decide_eq_false_iff_not]; exact List.lt_asymm hlt
      have hn1 : ((m : Int) + 1).toNat = m + 1 := by omega
      have K : ∀ j, Calls Tryz.prog 45 #[.string l[m + 1], .string l[m]] (w.drewN j) fun e w' => e = .returned (.bool false) ∧ w' = w.drewN j := fun j => by
        have := Less_spec l[m + 1] l[m] (w.drewN j); rw [hf] at this; exact this
      generalize l[m + 1] = x1 at *
      generalize l[m] = x0 at *
      have HA := Lib.hid ha; clear ha hlt hf hc h
      go_wp2_with fail
      go_quiet ((go_at_call 45; first | exact quietS rfl (K _) | exact Calls.quiet_of_same (K _)))
      go_wp2_with fail
      go_roundw
      case rel => exact ⟨⟨m, by simp, by omega, by omega⟩, _, rfl⟩
      case measure => simp; omega
    · have t1 : decide ((0 : Int) < k) = false := by simpa using hp
      go_wp2_with fail
      go_ret
      exact ⟨rfl, (Chg.refl _ _).drewN _⟩

open Go.Sort in
theorem chg_sorted {w : World} {n b : Nat} {ss : List (List UInt8)} {os : Array Obj} (d : Array (List UInt8)) (hb : b < w.heap.size) :
    Chg (fun k => k = b) w (grow (putRow encStr (Sort.ahead w n) b 0 d) os) := by
  refine ⟨rfl, rfl, rfl, by simp, fun k hk hn => ?_⟩
  show ((putRow encStr (Sort.ahead w n) b 0 d).heap ++ os)[k]? = _
  rw [Array.getElem?_append, if_pos (by simp; exact hk)]
  unfold putRow mapBlock
  rw [Array.getElem?_modify, if_neg (fun e => hn e.symm)]
  rfl

theorem sort_names {l m : List ByteArray} (hp : l.Perm m) (hm : Asc m) : (l.map fun x => x.data.toList).mergeSort (fun x y => decide (x ≤ y)) = m.map fun x => x.data.toList := by
  have hd : ∀ x : ByteArray, x.toList = x.data.toList := ByteArray.toList_eq
  refine List.Perm.eq_of_pairwise (le := fun a b => decide (a ≤ b) = true) (fun a b _ _ h1 h2 => ?_) (List.pairwise_mergeSort ?_ ?_ _) ?_ ((List.mergeSort_perm _ _).trans (hp.map _))
  · simp only [decide_eq_true_eq] at h1 h2
    exact List.le_antisymm h1 h2
  · intro a b c h1 h2
    simp only [decide_eq_true_eq] at h1 h2 ⊢
    exact List.le_trans h1 h2
  · intro a b
    simp only [Bool.or_eq_true, decide_eq_true_eq]
    exact List.le_total a b
  · rw [List.pairwise_map]
    refine hm.imp fun {a b} h => ?_
    rw [decide_eq_true_iff, ← hd, ← hd]
    exact List.le_of_lt h

theorem own_cells {w : World} {n cap : Nat} {A : Option Addr} {l : List ByteArray} (h : w.ownsRow 0 9 1 (.slice A n cap) n (l.map .string)) (h0 : 0 < n) :
    ∃ b, A = some ⟨b, 0, none⟩ ∧ b < w.heap.size ∧ ∀ j (hj : j < l.length), w.cell? ⟨b, j, none⟩ = some (.string l[j]) ∧ w.frozen? ⟨b, j, none⟩ = false := by
  rcases h.2 with ⟨hv, _⟩ | ⟨g, cap', cur, hv, _, hb, _⟩
  · injection hv with h1 h2 h3; omega
  · injection hv with h1 h2 h3
    subst h1; subst h3
    obtain ⟨cur, hb, hc, hs, _, ht⟩ := own_blk h
    refine ⟨g, rfl, hb.lt, fun j hj => ⟨?_, hb.free _⟩⟩
    rw [hb.cell]
    have e : (l.map Value.string)[j]? = some (.string l[j]) := by simp [hj]
    rw [← ht, List.getElem?_take] at e
    split at e
    · simpa using e
    · cases e

open Go.Sort in
theorem Sort_spec (A : Option Addr) (n c : Nat) (l m : List ByteArray) (w : World) (h : w.ownsRow 0 9 1 (.slice A n c) n (l.map .string)) (hl : l.length = n) (hn : n ≤ 1000000) (hp : l.Perm m) (hm : Asc m) :
    Calls Tryz.prog 18 #[.slice A n c] w fun e w' => e = .returned (.tuple #[]) ∧ Rd w' A (m.map .string) ∧ Chg (fun k => ∃ o, A = some ⟨k, o, none⟩) w w' := by
  by_cases h0 : n = 0
  · subst h0
    have hl0 : l = [] := by cases l with | nil => rfl | cons a t => simp at hl
    subst hl0
    have hm0 : m = [] := List.nil_perm.1 hp
    subst hm0
    refine (Tryz.slices_Sort_string_none A c w).mono ?_
    rintro e w' ⟨rfl, rfl⟩
    exact ⟨rfl, .inl rfl, Chg.refl _ _⟩
  · obtain ⟨b, rfl, hb, hc⟩ := own_cells h (by omega)
    have hml : m.length = l.length := hp.length_eq.symm
    have hH : Holds encStr w b 0 ((l.map fun x => x.data.toList).toArray) := by
      intro j hj
      have hj' : j < l.length := by simpa using hj
      rw [Nat.zero_add]
      refine ⟨?_, (hc j hj').2⟩
      rw [(hc j hj').1]
      simp [hj', encStr]
    have K := Tryz.slices_Sort_string b 0 c (l.map fun x => x.data.toList) w hH hb (by simp; omega)
    rw [sort_names hp hm] at K
    rw [show (l.map fun x => x.data.toList).length = n by simp [hl]] at K
    refine K.mono ?_
    rintro e w' ⟨rfl, q, os, rfl⟩
    refine ⟨rfl, ?_, (chg_sorted (ss := []) _ hb).mono (fun k _ e => ⟨0, by rw [e]⟩)⟩
    refine .inr ⟨b, 0, rfl, fun j u hu => ?_⟩
    have hj : j < m.length := by
      have := (List.getElem?_eq_some_iff.1 hu).1; simpa using this
    have hcell := cell?_putRow encStr (Sort.ahead w q) b 0 _ ((m.map fun x => x.data.toList).toArray) (holds_ahead encStr w q b 0 _ hH) (by simp [hml]) j (by simpa using hj)
    have hg : (grow (putRow encStr (Sort.ahead w q) b 0 ((m.map fun x => x.data.toList).toArray)) os).cell? ⟨b, 0 + j, none⟩ = (putRow encStr (Sort.ahead w q) b 0 ((m.map fun x => x.data.toList).toArray)).cell? ⟨b, 0 + j, none⟩ := by
      refine cell_of_block ?_
      show (_ ++ os)[b]? = _
      rw [Array.getElem?_append, if_pos (by simp; exact hb)]
    rw [hg, hcell]
    have : (m.map Value.string)[j]? = some (.string m[j]) := by simp [hj]
    rw [this] at hu
    rw [← Option.some.inj hu]
    simp [hj, encStr]

theorem Contains_spec (A : Option Addr) (n c : Nat) (l : List ByteArray) (x : ByteArray) (w : World) (h : Rd w A (l.map .string)) (hl : l.length = n) (hn : n ≤ 1000000) :
    Calls Tryz.prog 17 #[.slice A n c, .string x] w fun e w' => e = .returned (.bool (Lib.containsS l x)) ∧ w' = w := by
  subst hl
  by_cases h0 : l.length = 0
  · have hl0 : l = [] := by cases l with | nil => rfl | cons a t => simp at h0
    subst hl0
    exact Tryz.slices_Contains_string_empty A c x w
  · obtain ⟨g, off, rfl, hc⟩ := rd_cell h 0 (by omega)
    have K := Tryz.slices_Contains_string g off l.length c l x w (Nat.le_refl _) (by omega) (fun j hj => by rw [hc j hj]; simp [List.getD, hj])
    rw [List.take_length] at K
    exact K

theorem Equal_same (A A2 : Option Addr) (n c d : Nat) (l : List ByteArray) (w : World) (h : Rd w A (l.map .string)) (h2 : Rd w A2 (l.map .string)) (hl : l.length = n) (hn : n ≤ 1000000) :
    Calls Tryz.prog 15 #[.slice A n c, .slice A2 n d] w fun e w' => e = .returned (.bool true) ∧ ∃ q, w' = w.drewN q := by
  subst hl
  by_cases h0 : l.length = 0
  · rw [h0]
    refine (Tryz.slices_Equal_string_empty A A2 c 0 d w (by omega)).mono ?_
    rintro e w' ⟨rfl, rfl⟩
    exact ⟨by simp, 0, rfl⟩
  · obtain ⟨g, off, rfl, hc⟩ := rd_cell h 0 (by omega)
    obtain ⟨g2, off2, rfl, hc2⟩ := rd_cell h2 0 (by omega)
    refine (Tryz.slices_Equal_string g off l.length c g2 off2 l.length d l l w (Nat.le_refl _) (Nat.le_refl _) (by omega) (by omega) (fun j hj => by rw [hc j hj]; simp [List.getD, hj]) (fun j hj => by rw [hc2 j hj]; simp [List.getD, hj])).mono ?_
    rintro e w' ⟨rfl, q⟩
    exact ⟨by simp, q⟩

def joinS (d x : ByteArray) : ByteArray := if d.toList = [] then x else d ++ ⟨#[47]⟩ ++ x
theorem joinS_list (d x : ByteArray) : (joinS d x).data.toList = joinB d.data.toList x.data.toList := by
  unfold joinS joinB
  rw [ByteArray.toList_eq d]
  split
  · rfl
  · simp
theorem Join_spec (d x : ByteArray) (w : World) (hd : d.size ≤ 20000) (hx : x.size ≤ 20000) :
    Calls Tryz.prog 20 #[.string d, .string x] w fun e w' => e = .returned (.string (joinS d x)) ∧ w' = w := by
  by_cases h0 : d.toList = []
  · have t0 : (d.toList == ([] : List UInt8)) = true := by rw [h0]; rfl
    have e : joinS d x = x := by unfold joinS; rw [if_pos h0]
    rw [e]
    go_enter Tryz.func20, Tryz.ntmps20
    go_wp2_with fail
    go_ret
    exact ⟨rfl, rfl⟩
  · have t0 : (d.toList == ([] : List UInt8)) = false := by simpa using h0
    have e : joinS d x = d ++ ⟨#[47]⟩ ++ x := by unfold joinS; rw [if_neg h0]
    rw [e]
    have s1 : (d ++ (⟨#[47]⟩ : ByteArray)).size = d.size + 1 := by rw [ByteArray.size_append]; rfl
    have n1 : ¬ 9223372036854775807 < d.size + 1 := by omega
    have n2 : ¬ 9223372036854775807 < d.size + 1 + x.size := by omega
    go_enter Tryz.func20, Tryz.ntmps20
    go_wp2_with fail
    go_ret
    exact ⟨rfl, rfl⟩
end Go.Proofs.YtfkfeoocglcjgaaGreatDoor
