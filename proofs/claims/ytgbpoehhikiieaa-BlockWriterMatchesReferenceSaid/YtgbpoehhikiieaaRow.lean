/- The block writer over the simulated sink and the reference's writer answer alike after every sequence of calls: for every script and every list of calls, the law returns true. -/
import Derived.Test.YtgbpoehhikiieaaLawB
import Derived.ProofKit
import Derived.OpenShut
import Derived.ShutString
import Derived.ChangeOld
import Derived.Below
import Derived.Lib.SmallJoins
import Derived.Deep.Slices
import Derived.Deep.Strs
import Derived.Carry
set_option linter.unusedVariables false
set_option linter.unusedSimpArgs false
namespace Go.Proofs.Ytgbpoehhikiieaa
open Go.ChangeShapes Go.WideShapes Go.ChangeAt Go.RowKit

theorem own : ownKnob Try.prog.godebug = none := by kernel_rfl
theorem laidOut : laidOutB Try.prog = true := by kernel_rfl
theorem cells24 : Try.prog.cellsOf 24 = 2 := by kernel_rfl
theorem cells38 : Try.prog.cellsOf 38 = 3 := by kernel_rfl
theorem cells3 : Try.prog.cellsOf 3 = 1 := by kernel_rfl
theorem cells5 : Try.prog.cellsOf 5 = 1 := by kernel_rfl
theorem cells36 : Try.prog.cellsOf 36 = 1 := by kernel_rfl

theorem u8_back {n : Int} (h : (Lit.int .u8 n).wf = true) : ((UInt8.ofNat n.toNat).toNat : Int) = n := by
  have := bounds_u8 h
  simp; omega

theorem rd_of {w : World} {a : Addr} {xs : List Value} (h : ∀ i u, xs[i]? = some u → w.cell? (a.add i) = some u) : Rd w (some a) xs := by
  cases xs with
  | nil => exact .inl rfl
  | cons x t =>
    have h0 := h 0 x (by simp)
    have hs : a.spot = none := by have := World.cell?_spot h0; simpa [Addr.add] using this
    obtain ⟨b, o, s⟩ := a
    simp only at hs; subst hs
    refine .inr ⟨b, o, rfl, fun j u hu => ?_⟩
    have := h j u hu
    rwa [show ((⟨b, o, none⟩ : Addr).add j) = ⟨b, o + j, none⟩ by unfold Addr.add; split <;> simp_all] at this

instance : Inhabited ActD := ⟨⟨0, none, 0, [], 0⟩⟩

set_option maxRecDepth 100000 in
theorem lifted (os : Os) (started : os.Started) (H : Type) (enc : TypeId × Value → H) :
    ReturnsInHanded {} Try.checked os 3 .any (Rows.blockWriterMatchesReferenceSpec.pre6 enc Try.prog Try.f3 Rows.blockWriterMatchesReferenceRow.domain false) (Rows.blockWriterMatchesReferenceSpec.post enc Try.prog Try.f3 false true false false) := by
  refine returnsInHanded_of_change (C := Try.checked) own started (by kernel_rfl) Try.func3
    (ChangeSpec.witness6 (enc := enc) (C := Try.checked) false ⟨#[], #[.agg #[.slice none 0 0, .int .i64 0], .slice none 0 0], []⟩ 8 (by kernel_rfl) (by kernel_rfl) (by kernel_rfl) (by kernel_rfl)) ?_
  intro W base args ds gs before hval0 hW hcnd _
  have hval : ∀ (j : Nat) t v, Try.f3.params[j]? = some t → args[j]? = some v → Value.okWide Try.prog W .any base t v := hval0
  have hW' := hW
  obtain ⟨p, q, hA0, hV, rfl, hfz, hnd⟩ := hW
  have hA : DataW.TrodAll enc Try.prog W 0 (fun _ => true) true Try.f3.params.toList args.toList ds p := hA0
  rw [Try.params3] at hA hval
  obtain ⟨v0, vs0, d0, ds0, p0, q0, hargs, rfl, rfl, h0, r0⟩ := trodAll_cons hA
  obtain ⟨v1, vs1, d1, ds1, p1, q1, rfl, rfl, rfl, h1, r1⟩ := trodAll_cons r0
  obtain ⟨rfl, rfl, rfl⟩ := trodAll_nil r1
  obtain rfl : args = #[v0, v1] := by cases args; simp_all
  obtain ⟨rfl, rfl⟩ := trodVars_none hV
  have k0 := h0
  have k1 := h1
  have lt0 : ∀ x ∈ p0, x.block < W.heap.size := by obtain ⟨m, hm⟩ := k0; exact DataW.trod_lt m _ _ _ hm
  have lt1 : ∀ x ∈ p1, x.block < W.heap.size := by obtain ⟨m, hm⟩ := k1; exact DataW.trod_lt m _ _ _ hm
  have main : Calls Try.prog 3 #[v0, v1] W fun e W' => e = .returned (.bool true) ∧ Below W.heap.size W W' := by
    obtain ⟨c0, c1, y0, y1, n, rfl, _, _, hy0, hy1⟩ := Joins.open_agg2 Try.underlying24 (by kernel_rfl) cells24 (hval 0 24 v0 rfl rfl) h0
    obtain ⟨f, hf0, _, wf⟩ := DataW.trod_int Try.underlying2 hy1
    simp only [List.cons.injEq, and_true] at hf0
    subst hf0
    obtain ⟨CA, cc, chunks, hc0, hchunks, hcn, hwf⟩ : ∃ CA cc chunks, c0 = .slice CA chunks.length cc ∧ Rd W CA (i64s chunks) ∧ (CA = none → cc = 0 ∧ chunks.length = 0) ∧ (∀ x ∈ chunks, -9223372036854775808 ≤ x ∧ x ≤ 9223372036854775807) := by
      rcases open_ints Try.underlying22 Try.underlying3 cells3 hy0 with ⟨hcs, _⟩ | ⟨a, len, cap, zs, hcs, _, hl, hm, hz, _, hcell, hwz⟩
      · simp only [List.cons.injEq, and_true] at hcs
        exact ⟨none, 0, [], hcs, .inl rfl, fun _ => ⟨rfl, rfl⟩, fun x h => by simp at h⟩
      · simp only [List.cons.injEq, and_true] at hcs
        have hzl : zs.length = cap := by simpa using hz
        refine ⟨some a, cap, zs.take len, by rw [List.length_take, Nat.min_eq_left (by omega)]; exact hcs, rd_of ?_, (fun h => by cases h), fun x hx => ?_⟩
        · intro i u hu
          simp only [i64s, List.getElem?_map, Option.map_eq_some_iff] at hu
          obtain ⟨x, hx, rfl⟩ := hu
          rw [List.getElem?_take] at hx
          split at hx
          · have hi := (List.getElem?_eq_some_iff.1 hx).1
            have := hcell i hi
            rw [this, List.getD_eq_getElem?_getD, hx]; rfl
          · cases hx
        · have := bounds_i64 (hwz x (List.mem_of_mem_take hx)); omega
    subst hc0
    obtain ⟨LA, lc, acts, hv1, hacts⟩ : ∃ LA lc acts, v1 = .slice LA acts.length lc ∧ ActsAt W LA acts := by
      obtain ⟨a0, len0, cap0, rfl⟩ := okWide_slice Try.underlying25 (hval 1 25 v1 rfl rfl)
      obtain ⟨fuel, hf⟩ := h1
      rcases Deep.open_slice Try.underlying25 hf with ⟨hcs, _⟩ | ⟨a, len, cap, m, k, D, Pl, hcs, _, hl, hm, hmm, _, hel⟩
      · simp [Value.cells] at hcs
        obtain ⟨rfl, rfl, rfl⟩ := hcs
        exact ⟨none, 0, [], rfl, .inl rfl⟩
      · simp [Value.cells] at hcs
        obtain ⟨rfl, rfl, rfl⟩ := hcs
        have hm2 : m = cap0 := by simpa using hmm
        by_cases hz0 : len0 = 0
        · subst hz0; exact ⟨some a, cap0, [], rfl, .inl rfl⟩
        have hsp : a.spot = none := by
          obtain ⟨cs, hc, ht⟩ := hel 0 (by omega)
          rw [cells38] at hc
          obtain ⟨_, hlen, hcell⟩ := World.cells?_some hc
          have h0 := hcell 0 (by omega)
          match cs, hlen with
          | [x0, x1, x2], _ =>
            have := World.cell?_spot (v := x0) (by simpa using h0)
            simpa [Addr.add] using this
        have hex : ∀ i, i < len0 → ∃ x : ActD, a.spot = none ∧ ActAt W a.block (a.off + i * 3) x := by
          intro i hi
          obtain ⟨cs, hc, ht⟩ := hel i (by omega)
          rw [cells38] at hc
          obtain ⟨_, hlen, hcell⟩ := World.cells?_some hc
          obtain ⟨z0, z1, z2, nn, _, _, e0, e1, e2⟩ := Deep.trod_struct3 Try.underlying38 ht
          obtain ⟨x0, x1, x2, rfl⟩ : ∃ x0 x1 x2, cs = [x0, x1, x2] := by
            match cs, hlen with
            | [x0, x1, x2], _ => exact ⟨x0, x1, x2, rfl⟩
          rw [cells3] at e0 e2
          rw [cells36] at e1
          simp only [List.drop_zero, List.drop_succ_cons, List.take_succ_cons, List.take_zero] at e0 e1 e2
          obtain ⟨kk, hk, _, _⟩ := DataW.trod_int Try.underlying3 e0
          obtain ⟨nv, hn, _, _⟩ := DataW.trod_int Try.underlying3 e2
          simp only [List.cons.injEq, and_true] at hk hn
          subst hk hn
          have g0 := hcell 0 (by omega)
          have g1 := hcell 1 (by omega)
          have g2 := hcell 2 (by omega)
          simp only [List.getElem?_cons_zero, List.getElem?_cons_succ] at g0 g1 g2
          obtain ⟨b, o, s⟩ := a
          simp only at hsp; subst hsp
          have hadd : ∀ k : Nat, (((⟨b, o, none⟩ : Addr).add (i * 3)).add k) = ⟨b, o + i * 3 + k, none⟩ := by
            intro k; unfold Addr.add; split <;> split <;> simp_all
          rw [hadd] at g0 g1 g2
          rcases open_ints Try.underlying36 Try.underlying5 cells5 e1 with ⟨hcs, _⟩ | ⟨ba, bl, bc, zs, hcs, _, hbl, hbm, hbz, _, hbcell, hbw⟩
          · simp only [List.cons.injEq, and_true] at hcs
            subst hcs
            exact ⟨⟨kk, none, 0, [], nv⟩, rfl, ⟨g0, g1, g2, .inl rfl, Nat.le_refl _⟩⟩
          · simp only [List.cons.injEq, and_true] at hcs
            subst hcs
            have hzl : zs.length = bc := by simpa using hbz
            have hlb : ((zs.take bl).map fun n => UInt8.ofNat n.toNat).length = bl := by rw [List.length_map, List.length_take]; omega
            refine ⟨⟨kk, some ba, bc, (zs.take bl).map fun n => UInt8.ofNat n.toNat, nv⟩, rfl, ⟨g0, by rw [hlb]; exact g1, g2, rd_of ?_, by rw [hlb]; exact hbl⟩⟩
            intro j u hu
            simp only [by8, List.getElem?_map, Option.map_eq_some_iff] at hu
            obtain ⟨y, ⟨x, hx, rfl⟩, rfl⟩ := hu
            rw [List.getElem?_take] at hx
            split at hx
            · have hj := (List.getElem?_eq_some_iff.1 hx).1
              have hmem : x ∈ zs := List.mem_of_getElem? hx
              rw [hbcell j hj, List.getD_eq_getElem?_getD, hx, u8_back (hbw x hmem)]; rfl
            · cases hx
        obtain ⟨F, hF⟩ := Deep.choose_lt hex
        refine ⟨some a, cap0, (List.range len0).map F, by simp, ?_⟩
        by_cases h0 : len0 = 0
        · subst h0; exact .inl (by simp)
        · right
          have hs := (hF 0 (by omega)).1
          obtain ⟨b, o, s⟩ := a
          simp only at hs; subst hs
          refine ⟨b, o, rfl, fun j x hx => ?_⟩
          simp only [List.getElem?_map, Option.map_eq_some_iff] at hx
          obtain ⟨i, hi, rfl⟩ := hx
          have hij := List.getElem?_eq_some_iff.1 hi
          obtain ⟨h2, h3⟩ := hij
          simp only [List.getElem_range, List.length_range] at h2 h3
          subst h3
          exact (hF j h2).2
    subst hv1
    by_cases hbig : acts.length > 50 ∨ chunks.length > 300
    · exact (law_big CA LA chunks.length cc acts.length lc f W hbig).mono fun e W' ⟨he, hc⟩ => ⟨he, hc.below (Nat.le_refl _) (fun _ _ h => h)⟩
    · have hb1 : acts.length ≤ 50 := by omega
      have hb2 : chunks.length ≤ 300 := by omega
      have hfb := bounds_i64 wf
      exact (law_any CA LA cc lc chunks f acts W hchunks hcn hb2 hwf (by omega) hacts hb1).mono fun e W' ⟨he, hc⟩ => ⟨he, hc.below (Nat.le_refl _) (fun _ _ h => h)⟩
  clear hA0 hval0
  refine main.mono fun e W' ⟨he, bel⟩ => ?_
  subst he
  exact ⟨_, rfl, _, _, _, [], _, [], hW', trodAll_mk1 (shut_bool Try.underlying4 _), (trodAll_cons_mk (Below.trod laidOut (by kernel_rfl) (of_decide_eq_true (by kernel_rfl)) k0 bel lt0) (trodAll_cons_mk (Below.trod laidOut (by kernel_rfl) (of_decide_eq_true (by kernel_rfl)) k1 bel lt1) trodAll_mk0)), rfl, bel.frame _, fun h => by cases h⟩

theorem over : Rows.blockWriterMatchesReferenceRow.holds Try.pinned (OpenSpec.ofChange Rows.blockWriterMatchesReferenceSpec) :=
  OpenClaim.holds_of_wide 3 Try.f3 rfl rfl rfl rfl rfl rfl rfl ⟨rfl, rfl, rfl, rfl, rfl⟩ rfl rfl rfl rfl rfl (by kernel_rfl) Try.func3 (by kernel_rfl)
    (of_decide_eq_true (by kernel_rfl)) (by unfold Func.isWrapper; first | (rw [if_pos (by decide +kernel)]; kernel_rfl) | (rw [if_neg (by decide +kernel)]; exact ⟨rfl, rfl⟩))
    (fun os started H enc _ => lifted os started H enc)

theorem proved : Rows.BlockWriterMatchesReferenceSaid := over
#print axioms proved
end Go.Proofs.Ytgbpoehhikiieaa
