/- The arguments of the laws, opened. -/
import Derived.Test.YtfkfeoocglcjgaaGreatDoorVAct
import Derived.Test.YtfkfeoocglcjgaaGreatDoorCards
import Derived.Test.YtfkfeoocglcjgaaGreatDoorTie
import Derived.ProofKit
import Derived.LaidMore
import Derived.OpenShut
import Derived.ShutString
import Derived.ChangeOld
import Derived.Below
import Derived.Lib.SmallJoins
import Derived.Deep.Slices
import Derived.Deep.Strs
import Derived.Carry
import Derived.SizedLaws
import Derived.Stop.Joined
import Derived.SevenTiedAt
set_option linter.unusedVariables false
set_option linter.unusedSimpArgs false
namespace Go.Proofs.YtfkfeoocglcjgaaGreatDoor
open Go.ChangeShapes Go.WideShapes Go.ChangeAt Go.WideMaps Go.WideElems Go.RowKit

theorem own : ownKnob Tryz.prog.godebug = none := by kernel_rfl
theorem laidOut : laidOutB Tryz.prog = true := by kernel_rfl
theorem cellsInt : Tryz.prog.cellsOf 3 = 1 := by kernel_rfl
theorem cellsU8 : Tryz.prog.cellsOf 5 = 1 := by kernel_rfl
theorem bytesU8 : Tryz.prog.bytesOf 5 = 1 := by kernel_rfl
theorem cellsAct : Tryz.prog.cellsOf 40 = 5 := by kernel_rfl

theorem rd_of {w : World} {a : Addr} {xs : List Value} (h : ∀ i u, xs[i]? = some u → w.cell? (a.add i) = some u) : Rd w (some a) xs := by
  cases xs with
  | nil => exact .inl rfl
  | cons x t =>
    have h0 := h 0 x (by simp)
    have hs : a.spot = none := by have := World.cell?_spot h0; simpa [Addr.add] using this
    obtain ⟨b, o, s⟩ := a
    simp only at hs; subst hs
    refine .inr ⟨b, o, rfl, fun j u hu => ?_⟩
    have := h j u hu
    rwa [show ((⟨b, o, none⟩ : Addr).add j) = ⟨b, o + j, none⟩ by unfold Addr.add; split <;> simp_all] at this
theorem u8_back {n : Int} (h : (Lit.int .u8 n).wf = true) : ((UInt8.ofNat n.toNat).toNat : Int) = n := by
  have := bounds_u8 h
  simp; omega

theorem list5 {α : Type} {l : List α} (h : l.length = 5) : ∃ a b c d e, l = [a, b, c, d, e] := by
  match l, h with
  | [a, b, c, d, e], _ => exact ⟨a, b, c, d, e, rfl⟩
section
variable {H : Type} {enc : TypeId × Value → H}
/-- What a datum holds is within the reach. -/
def Light (t : TypeId) (d : DataW H) : Prop := (d.weights Tryz.prog t).all (· ≤ reachBytes) = true
theorem Light.each {ts : List TypeId} : ∀ {ds : List (DataW H)}, (DataW.weightsEach Tryz.prog ts ds).all (· ≤ reachBytes) = true → ∀ (j : Nat) t d, ts[j]? = some t → ds[j]? = some d → Light t d := by
  induction ts with
  | nil => intro ds _ j t d ht; simp at ht
  | cons t ts ih =>
    intro ds h j t' d' ht hd
    cases ds with
    | nil => simp at hd
    | cons d ds =>
      simp only [DataW.weightsEach, List.all_append, Bool.and_eq_true] at h
      cases j with
      | zero => simp at ht hd; subst ht; subst hd; exact h.1
      | succ j => simp at ht hd; exact ih h.2 j t' d' ht hd
theorem Light.all {e : TypeId} : ∀ {ds : List (DataW H)}, (DataW.weightsAll Tryz.prog e ds).all (· ≤ reachBytes) = true → ∀ d ∈ ds, Light e d
  | [], _, d, hd => by simp at hd
  | a :: r, h, d, hd => by
    simp only [DataW.weightsAll, List.all_append, Bool.and_eq_true] at h
    rcases List.mem_cons.1 hd with rfl | hd
    · exact h.1
    · exact Light.all h.2 d hd
theorem Light.slice {t e : TypeId} {elems spare : List (DataW H)} (ht : Tryz.prog.underlying t = some (.slice e)) (h : Light t (.slice elems spare)) : (elems.length + spare.length) * Tryz.prog.bytesOf e ≤ reachBytes ∧ ∀ d ∈ elems, Light e d := by
  unfold Light at h
  simp only [DataW.weights, ht, List.all_cons, List.all_append, Bool.and_eq_true, decide_eq_true_eq] at h
  exact ⟨h.1, Light.all h.2.1⟩
theorem Light.agg {t : TypeId} {fs : Array Field} {parts : List (DataW H)} (ht : Tryz.prog.underlying t = some (.struct fs)) (h : Light t (.agg parts)) (j : Nat) (f : Field) (d : DataW H) (hf : fs[j]? = some f) (hd : parts[j]? = some d) : Light f.type d := by
  unfold Light at h
  simp only [DataW.weights, ht] at h
  exact Light.each h j f.type d (by simp [hf]) hd
theorem Light.string {t : TypeId} {b : List UInt8} (h : Light (H := H) t (.lit (.string b))) : b.length ≤ reachBytes := by
  unfold Light at h
  simpa [DataW.weights] using h

theorem open_rd8 {w : World} {base fuel : Nat} {spare : Nat → Bool} {held : Bool} {cs : List Value} {x : DataW H × List MemPlace} (h : DataW.trod enc Tryz.prog w base spare held fuel 24 cs = some x) (hL : Light 24 x.1) :
    ∃ A c l, cs = [.slice A l.length c] ∧ Rd w A (by8 l) ∧ (A = none → l.length = 0) ∧ l.length ≤ 140737488355328 := by
  rcases open_ints Tryz.underlying24 Tryz.underlying5 cellsU8 h with ⟨hcs, _⟩ | ⟨a, len, cap, zs, hcs, _, hl, hm, hz, hx, hcell, hwz⟩
  · exact ⟨none, 0, [], hcs, .inl rfl, fun _ => rfl, by simp⟩
  · have hzl : len ≤ zs.length := by rw [hz]; split <;> omega
    have hml : ((zs.take len).map fun n => UInt8.ofNat n.toNat).length = len := by rw [List.length_map, List.length_take, Nat.min_eq_left hzl]
    refine ⟨some a, cap, (zs.take len).map fun n => UInt8.ofNat n.toNat, by rw [hml]; exact hcs, rd_of ?_, (fun h => by cases h), ?_⟩
    · intro i u hu
      simp only [by8, List.getElem?_map, Option.map_eq_some_iff] at hu
      obtain ⟨y, ⟨x, hx, rfl⟩, rfl⟩ := hu
      rw [List.getElem?_take] at hx
      split at hx
      · have hi := (List.getElem?_eq_some_iff.1 hx).1
        rw [hcell i hi, List.getD_eq_getElem?_getD, hx]
        simp only [Option.getD_some]
        rw [u8_back (hwz x (List.mem_of_getElem? hx))]
      · cases hx
    · rw [hml]
      rw [hx] at hL
      have := (Light.slice Tryz.underlying24 hL).1
      rw [bytesU8] at this
      simp only [lits, List.length_map, List.length_take, List.length_drop, reachBytes] at this
      omega

theorem open_str {w : World} {base fuel : Nat} {spare : Nat → Bool} {held : Bool} {cs : List Value} {x : DataW H × List MemPlace} (h : DataW.trod enc Tryz.prog w base spare held fuel 9 cs = some x) (hL : Light 9 x.1) :
    ∃ s : ByteArray, cs = [.string s] ∧ s.size ≤ 140737488355328 := by
  obtain ⟨s, rfl, rfl, _⟩ := DataW.trod_string Tryz.underlying9 h
  refine ⟨s, rfl, ?_⟩
  have := Light.string hL
  simp only [reachBytes] at this
  have e : s.data.toList.length = s.size := by simp
  omega

theorem open_act {w : World} {base fuel : Nat} {spare : Nat → Bool} {held : Bool} {cs : List Value} {x : DataW H × List MemPlace} (h : DataW.trod enc Tryz.prog w base spare held fuel 40 cs = some x) (hL : Light 40 x.1) :
    ∃ a : ActD, cs = a.cells ∧ ActOk w a := by
  obtain ⟨xs, n, _, rfl, hl, hxl, hf⟩ := DataW.trod_struct Tryz.underlying40 h
  rw [cellsAct] at hl
  obtain ⟨c0, c1, c2, c3, c4, rfl⟩ := list5 hl
  obtain ⟨y0, y1, y2, y3, y4, rfl⟩ := list5 (show xs.length = 5 from hxl)
  have g0 := hf 0 _ rfl
  have g1 := hf 1 _ rfl
  have g2 := hf 2 _ rfl
  have g3 := hf 3 _ rfl
  have g4 := hf 4 _ rfl
  have cS : Tryz.prog.cellsOf 9 = 1 := by kernel_rfl
  have cB : Tryz.prog.cellsOf 24 = 1 := by kernel_rfl
  simp only [List.getElem_toArray, List.getElem_cons_zero, List.getElem_cons_succ] at g0 g1 g2 g3 g4
  simp only [cellsInt, cS, cB, List.drop_zero, List.drop_succ_cons, List.take_succ_cons, List.take_zero, List.getElem?_cons_zero, List.getElem?_cons_succ] at g0 g1 g2 g3 g4
  obtain ⟨k, e0, _, _⟩ := DataW.trod_int Tryz.underlying3 g0
  obtain ⟨p, e1, p1⟩ := open_str g1 (Light.agg Tryz.underlying40 hL 1 _ y1.1 rfl rfl)
  obtain ⟨m, e2, _, _⟩ := DataW.trod_int Tryz.underlying3 g2
  obtain ⟨A, c, l, e3, d1, d2, d3⟩ := open_rd8 g3 (Light.agg Tryz.underlying40 hL 3 _ y3.1 rfl rfl)
  obtain ⟨t, e4, t1⟩ := open_str g4 (Light.agg Tryz.underlying40 hL 4 _ y4.1 rfl rfl)
  obtain rfl : c0 = .int .i64 k := by simpa using e0
  obtain rfl : c1 = .string p := by simpa using e1
  obtain rfl : c2 = .int .i64 m := by simpa using e2
  obtain rfl : c3 = .slice A l.length c := by simpa using e3
  obtain rfl : c4 = .string t := by simpa using e4
  exact ⟨⟨k, p, m, A, c, l, t⟩, rfl, d1, d2, p1, t1, d3⟩

theorem open_acts {w : World} {fuel : Nat} {held : Bool} {spare : Nat → Bool} {cs : List Value} {x : DataW H × List MemPlace} (h : DataW.trod enc Tryz.prog w 0 spare held fuel 25 cs = some x) (hL : Light 25 x.1) :
    ∃ A c l, cs = [.slice A l.length c] ∧ ActsAt w A l ∧ l.length ≤ 9223372036854775807 := by
  rcases Deep.open_slice Tryz.underlying25 h with ⟨hcs, _⟩ | ⟨a, len, cap, m, k, D, Pl, hcs, _, hl, hm, hmm, hx, hel⟩
  · exact ⟨none, 0, [], hcs, .inl rfl, by simp⟩
  · have hlm : len ≤ m := by rw [hmm]; split <;> omega
    rw [cellsAct] at hel
    rw [hx] at hL
    have hLe := (Light.slice Tryz.underlying25 hL).2
    have hex : ∀ i, i < len → ∃ y : ActD, (∀ j u, y.cells[j]? = some u → w.cell? ((a.add (i * 5)).add j) = some u) ∧ ActOk w y := by
      intro i hi
      obtain ⟨cs', hc, ht⟩ := hel i (by omega)
      obtain ⟨_, hlen, hcell⟩ := World.cells?_some hc
      obtain ⟨y, e, hok⟩ := open_act ht (hLe (D i) (List.mem_map.2 ⟨i, List.mem_range.2 hi, rfl⟩))
      subst e
      refine ⟨y, fun j u hu => ?_, hok⟩
      have hj : j < 5 := by
        have h1 := (List.getElem?_eq_some_iff.1 hu).1
        have h2 : y.cells.length = 5 := rfl
        omega
      rw [hcell j hj, hu]
    obtain ⟨F, hF⟩ := Deep.choose_lt hex
    refine ⟨some a, cap, (List.range len).map F, by simpa using hcs, ?_, by unfold maxLen at hm; simp; omega⟩
    by_cases h0 : len = 0
    · subst h0; exact .inl (by simp)
    · right
      have hs : a.spot = none := by
        have h1 := (hF 0 (by omega)).1 0 _ rfl
        have := World.cell?_spot h1
        simpa [Addr.add] using this
      obtain ⟨b, o, s⟩ := a
      simp only at hs; subst hs
      refine ⟨b, o, rfl, fun j y hy => ?_⟩
      simp only [List.getElem?_map, Option.map_eq_some_iff] at hy
      obtain ⟨i, hi, rfl⟩ := hy
      obtain ⟨h2, h3⟩ := List.getElem?_eq_some_iff.1 hi
      simp only [List.getElem_range, List.length_range] at h2 h3
      subst h3
      refine ⟨fun i u hu => ?_, (hF j h2).2⟩
      have := (hF j h2).1 i u hu
      rwa [show (((⟨b, o, none⟩ : Addr).add (j * 5)).add i) = ⟨b, o + j * 5 + i, none⟩ by unfold Addr.add; split <;> split <;> simp_all] at this

theorem open_i64s {w : World} {base fuel : Nat} {spare : Nat → Bool} {held : Bool} {cs : List Value} {x : DataW H × List MemPlace} (h : DataW.trod enc Tryz.prog w base spare held fuel 28 cs = some x) :
    ∃ A c l, cs = [.slice A l.length c] ∧ Rd w A (i64s l) ∧ (A = none → l.length = 0) ∧ l.length ≤ 9223372036854775807 := by
  rcases open_ints Tryz.underlying28 Tryz.underlying3 cellsInt h with ⟨hcs, _⟩ | ⟨a, len, cap, zs, hcs, _, hl, hm, hz, hx, hcell, hwz⟩
  · exact ⟨none, 0, [], hcs, .inl rfl, fun _ => rfl, by simp⟩
  · have hzl : len ≤ zs.length := by rw [hz]; split <;> omega
    have hml : (zs.take len).length = len := by rw [List.length_take, Nat.min_eq_left hzl]
    refine ⟨some a, cap, zs.take len, by rw [hml]; exact hcs, rd_of ?_, (fun h => by cases h), by rw [hml]; unfold maxLen at hm; omega⟩
    intro i u hu
    simp only [i64s, List.getElem?_map, Option.map_eq_some_iff] at hu
    obtain ⟨x, hx, rfl⟩ := hu
    rw [List.getElem?_take] at hx
    split at hx
    · have hi := (List.getElem?_eq_some_iff.1 hx).1
      rw [hcell i hi, List.getD_eq_getElem?_getD, hx]; rfl
    · cases hx
end
end Go.Proofs.YtfkfeoocglcjgaaGreatDoor
