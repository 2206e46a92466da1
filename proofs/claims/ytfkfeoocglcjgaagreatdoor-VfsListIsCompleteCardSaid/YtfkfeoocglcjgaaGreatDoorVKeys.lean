/- What the listed variable paxrec.keys gives a walk. -/
import Derived.Test.YtfkfeoocglcjgaaGreatDoorVRowLib
import Derived.Stop.LaidErr
set_option linter.unusedVariables false
set_option linter.unusedSimpArgs false
namespace Go.Proofs.YtfkfeoocglcjgaaGreatDoor
open Go.ChangeShapes Go.WideShapes Go.ChangeAt Go.WideMaps Go.WideElems Go.RowKit

theorem laid_one {w : World} {n : String} {d : DataW Unit} : ∀ {laid : List (String × DataW Unit)}, laidMet Tryz.prog laid w → (n, d) ∈ laid → ∃ r, laidMet Tryz.prog ((n, d) :: r) w
  | [], _, hm => by simp at hm
  | x :: r, h, hm => by
    rcases List.mem_cons.1 hm with rfl | hm
    · exact ⟨r, h⟩
    · exact laid_one h.tail hm
theorem gKeys : Tryz.prog.globalNamed "paxtar/paxrec.keys" = some 1 := by kernel_rfl
theorem tKeys : (Tryz.prog.globals[(1 : Nat)]?).map (·.type) = some 138 := by kernel_rfl
theorem cellsStr : Tryz.prog.cellsOf 9 = 1 := by kernel_rfl
theorem cellsKeys : Tryz.prog.cellsOf 138 = 3 := by kernel_rfl

theorem keys_of_laid {W : World} {r : List (String × DataW Unit)} (h : laidMet Tryz.prog (("paxtar/paxrec.keys", Rows.laid_paxtar_paxrec_keys) :: r) W) : Keys W := by
  obtain ⟨ps, ⟨g, t, cs, f, p, q, hg, ht, hv, hd, _⟩, _, _⟩ := h
  obtain rfl := Option.some.inj (gKeys.symm.trans hg)
  obtain rfl := Option.some.inj (tKeys.symm.trans ht)
  obtain ⟨xs, m, _, hx, hlen, hxl, hel⟩ := DataW.trod_array Tryz.underlying138 hd
  rw [cellsKeys] at hlen
  have hcs : ∃ a b c, cs.toList = [a, b, c] := by
    match hl : cs.toList, hlen with
    | [a, b, c], _ => exact ⟨a, b, c, rfl⟩
  obtain ⟨a, b, c, hcs⟩ := hcs
  have hxs : ∃ a b c, xs = [a, b, c] := by
    match xs, hxl with
    | [a, b, c], _ => exact ⟨a, b, c, rfl⟩
  obtain ⟨y0, y1, y2, rfl⟩ := hxs
  have h0 := hel 0 (by decide)
  have h1 := hel 1 (by decide)
  have h2 := hel 2 (by decide)
  simp only [hcs, cellsStr, Nat.reduceMul, List.drop_zero, List.drop_succ_cons, List.take_succ_cons, List.take_zero, List.getElem?_cons_zero, List.getElem?_cons_succ] at h0 h1 h2
  obtain ⟨s0, e0, x0, _⟩ := DataW.trod_string Tryz.underlying9 h0
  obtain ⟨s1, e1, x1, _⟩ := DataW.trod_string Tryz.underlying9 h1
  obtain ⟨s2, e2, x2, _⟩ := DataW.trod_string Tryz.underlying9 h2
  subst x0 x1 x2
  simp only [Prod.mk.injEq, Rows.laid_paxtar_paxrec_keys, List.map_cons, List.map_nil, DataW.agg.injEq, List.cons.injEq, DataW.lit.injEq, Lit.string.injEq, and_true] at hx
  obtain ⟨⟨k0, k1, k2⟩, _⟩ := hx
  obtain rfl : a = .string s0 := by simpa using e0
  obtain rfl : b = .string s1 := by simpa using e1
  obtain rfl : c = .string s2 := by simpa using e2
  have bs : ∀ {s : ByteArray} {l : List UInt8}, l = s.data.toList → s = ⟨l.toArray⟩ := fun {s l} e => by subst e; apply ByteArray.ext; simp
  obtain rfl := bs k0
  obtain rfl := bs k1
  obtain rfl := bs k2
  have hc := fun j => World.var?_cell hg hv j
  refine ⟨fun j hj => ?_⟩
  have hj3 : j < 3 := hj
  have := hc j
  rw [← Array.getElem?_toList, hcs] at this
  rw [Nat.zero_add, this]
  obtain rfl | rfl | rfl : j = 0 ∨ j = 1 ∨ j = 2 := by omega
  all_goals rfl

theorem cellsU16 : Tryz.prog.cellsOf 22 = 1 := by kernel_rfl
theorem cellsNums : Tryz.prog.cellsOf 23 = 2 := by kernel_rfl
theorem wf_u16 {n : Int} (h : (Lit.int .u16 n).wf = true) : 0 ≤ n ∧ n ≤ 65535 := by
  have e0 : IntKind.u16.min = 0 := by decide
  have e1 : IntKind.u16.max = 65535 := by decide
  simp only [Lit.wf, e0, e1] at h
  simpa using h
set_option maxRecDepth 100000 in
theorem open_nums {H : Type} {enc : TypeId × Value → H} {W : World} {base : Nat} {v : Value} {d : DataW H} {p : List MemPlace} (hval : Value.okWide Tryz.prog W .any base 23 v) (h : DataW.Trod enc Tryz.prog W 0 (fun _ => true) true 23 v d p) :
    ∃ a b, v = .agg #[.int .u16 a, .int .u16 b] ∧ 0 ≤ a ∧ a ≤ 65535 ∧ 0 ≤ b ∧ b ≤ 65535 := by
  simp only [Value.okWide, Tryz.underlying23] at hval
  obtain ⟨cs, rfl, h2, _⟩ := hval
  rw [cellsNums] at h2
  obtain ⟨x0, x1, rfl⟩ : ∃ a b, cs = #[a, b] := by
    obtain ⟨l⟩ := cs
    match l, h2 with
    | [a, b], _ => exact ⟨a, b, rfl⟩
  obtain ⟨fuel, hf⟩ := h
  obtain ⟨xs, m, _, _, _, hxl, hel⟩ := DataW.trod_array Tryz.underlying23 hf
  have h0 := hel 0 (by decide)
  have h1 := hel 1 (by decide)
  obtain ⟨y0, y1, rfl⟩ : ∃ a b, xs = [a, b] := by
    match xs, hxl with
    | [a, b], _ => exact ⟨a, b, rfl⟩
  simp only [Value.cells, cellsU16, Nat.reduceMul, List.drop_zero, List.drop_succ_cons, List.take_succ_cons, List.take_zero, List.getElem?_cons_zero, List.getElem?_cons_succ] at h0 h1
  obtain ⟨a, e0, _, wa⟩ := DataW.trod_int Tryz.underlying22 h0
  obtain ⟨b, e1, _, wb⟩ := DataW.trod_int Tryz.underlying22 h1
  obtain rfl : x0 = .int .u16 a := by simpa using e0
  obtain rfl : x1 = .int .u16 b := by simpa using e1
  exact ⟨a, b, rfl, (wf_u16 wa).1, (wf_u16 wa).2, (wf_u16 wb).1, (wf_u16 wb).2⟩
end Go.Proofs.YtfkfeoocglcjgaaGreatDoor
