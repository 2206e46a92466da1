/- The walk of the reference sink's Write where bytes are taken. -/
import Derived.Test.YtgbpoehhikiieaaRefA
set_option linter.unusedVariables false
set_option linter.unusedSimpArgs false
namespace Go.Proofs.Ytgbpoehhikiieaa
open Go.RowKit

theorem chg_grown {w W w2 : World} {row : Option Nat} (h : Chg (fun _ => False) w W) (hg : W.grownBy w2 row) (hr : ∀ k, row = some k → w.heap.size ≤ k) : Chg (fun _ => False) w w2 :=
  ⟨hg.os.trans h.os, hg.tape.trans h.tape, hg.output.trans h.output, Nat.le_trans h.size hg.size, fun k hk _ =>
    (hg.block k (Nat.lt_of_lt_of_le hk h.size) (fun e => by have := hr k e.symm; omega)).trans (h.block k hk (fun h => h))⟩

theorem took_cases {st : SinkSt} {l : List UInt8} (ok : SinkOk st) (h1 : 0 < st.took l) :
    (st.failAt < 0 ∧ (st.took l : Int) = mn2 l.length (chunkOf st.chunks st.writes)) ∨
    (0 ≤ st.failAt ∧ (st.content.length : Int) < st.failAt ∧ (st.took l : Int) = mn2 l.length (mn2 (chunkOf st.chunks st.writes) (st.failAt - st.content.length))) := by
  have hr := ok.room
  by_cases hf : 0 ≤ st.failAt
  · right
    have h2 := hr hf
    have h3 : roomOf st.chunks st.failAt st.content.length st.writes = mn2 (chunkOf st.chunks st.writes) (st.failAt - st.content.length) := by unfold roomOf; rw [if_pos ⟨hf, h2⟩]
    simp only [SinkSt.took, h3] at h1 ⊢
    refine ⟨hf, ?_, by omega⟩
    have : mn2 (chunkOf st.chunks st.writes) (st.failAt - st.content.length) ≤ st.failAt - st.content.length := by unfold mn2; split <;> omega
    have : 0 < mn2 (chunkOf st.chunks st.writes) (st.failAt - st.content.length) := by
      generalize mn2 (chunkOf st.chunks st.writes) (st.failAt - st.content.length) = r at *
      unfold mn2 at h1; split at h1 <;> omega
    omega
  · left
    have h3 : roomOf st.chunks st.failAt st.content.length st.writes = chunkOf st.chunks st.writes := by unfold roomOf; rw [if_neg (fun h => hf h.1)]
    simp only [SinkSt.took, h3] at h1 ⊢
    exact ⟨by omega, by omega⟩

theorem ref_close {w w3 : World} {b g cap' k : Nat} {v : Value} {CA : Option Addr} {cc : Nat} {st : SinkSt} {l : List UInt8} (h : IsRef w b v CA cc st)
    (htook : st.took l = k) (hkl : k ≤ l.length) (hknz : 0 < k)
    (hown : w3.ownsRow 0 5 1 (.slice (some ⟨g, 0, none⟩) (st.content.length + k) cap') (st.content.length + k) (by8 st.content ++ by8 (l.take k)))
    (hc : Chg (fun _ => False) w w3) (hg : w.heap.size ≤ g) :
    ∃ v', IsRef ((w3.setCell ⟨b, 0, none⟩ (.slice (some ⟨g, 0, none⟩) (st.content.length + k) cap')).setCell ⟨b, 3, none⟩ (.int .i64 ((st.writes : Int) + 1))) b v' CA cc (st.next l) ∧
      Chg (fun i => i = b) w ((w3.setCell ⟨b, 0, none⟩ (.slice (some ⟨g, 0, none⟩) (st.content.length + k) cap')).setCell ⟨b, 3, none⟩ (.int .i64 ((st.writes : Int) + 1))) ∧
      (∀ i, v'.ownBlock = some i → w.heap.size ≤ i) := by
  obtain ⟨_, cells, hch, hrow, hne, hclt, hcne⟩ := h
  have hbl := cells.lt
  have hlen : (st.next l).content.length = st.content.length + k := by simp [SinkSt.next, htook, List.length_take]; omega
  have hchg : Chg (fun i => i = b) w w3 := hc.mono (fun _ _ h => h.elim)
  have hb1 : Blk w3 b _ _ := cells.chg hc (fun h => h)
  have hchg2 := (hchg.setCell ⟨b, 0, none⟩ (.slice (some ⟨g, 0, none⟩) (st.content.length + k) cap') (fun _ => rfl)).setCell ⟨b, 3, none⟩ (.int .i64 ((st.writes : Int) + 1)) (fun _ => rfl)
  refine ⟨.slice (some ⟨g, 0, none⟩) (st.content.length + k) cap', ⟨(fun e => by rw [e] at hlen; simp at hlen; omega), ?_, hch.chg hchg2 (fun ad e hh => hcne ad e (.inl hh)), ?_, ?_, fun ad e => Nat.lt_of_lt_of_le (hclt ad e) hchg2.size, ?_⟩, hchg2, ?_⟩
  · have := (hb1.set 0 (.slice (some ⟨g, 0, none⟩) (st.content.length + k) cap')).set 3 (.int .i64 ((st.writes : Int) + 1))
    simpa [SinkSt.next] using this
  · rw [hlen]
    have h1 := own_chg hown (S := fun i => i = b) (w' := (w3.setCell ⟨b, 0, none⟩ (.slice (some ⟨g, 0, none⟩) (st.content.length + k) cap')).setCell ⟨b, 3, none⟩ (.int .i64 ((st.writes : Int) + 1)))
      (((Chg.refl (fun i => i = b) w3).setCell ⟨b, 0, none⟩ _ (fun _ => rfl)).setCell ⟨b, 3, none⟩ _ (fun _ => rfl)) (fun i hi e => by
        have : g = i := by simpa [Value.ownBlock] using hi
        omega)
    simpa [SinkSt.next, htook, by8_append] using h1
  · simp [Value.ownBlock]; omega
  · intro ad e hh
    rcases hh with hh | hh
    · exact hcne ad e (.inl hh)
    · have : ad.block = g := by simpa [Value.ownBlock] using hh
      have := hclt ad e; omega
  · intro i hi
    have : g = i := by simpa [Value.ownBlock] using hi
    omega

theorem chunk_pos (chunks : List Int) (i : Nat) : 1 ≤ chunkOf chunks i := by unfold chunkOf mx1; repeat' split
                                                                             all_goals omega

theorem news_of {w : World} {l : List UInt8} {ag ao : Nat} (hlc : ∀ j u, (by8 l)[j]? = some u → w.cell? ⟨ag, ao + j, none⟩ = some u) (k : Nat) (W : World) (hW : Chg (fun _ => False) w W) :
    ∀ (j : Nat) (u : Value), (by8 (l.take k))[j]? = some u → W.cell? ((⟨ag, ao, none⟩ : Addr).add j) = some u := by
  intro j u hu
  rw [show ((⟨ag, ao, none⟩ : Addr).add j) = ⟨ag, ao + j, none⟩ by unfold Addr.add; split <;> simp_all]
  refine cell_keep hW (hlc j u ?_)
  rw [by8_take, List.getElem?_take] at hu
  split at hu
  · exact hu
  · cases hu

set_option maxHeartbeats 1000000 in
theorem refWrite_more (b : Nat) (v : Value) (CA A : Option Addr) (cc c : Nat) (st : SinkSt) (l : List UInt8) (w : World) (h : IsRef w b v CA cc st) (ok : SinkOk st)
    (hl : Rd w A (by8 l)) (hlen : l.length ≤ 100000000) (hcon : st.content.length ≤ 100000000) (hcap : l.length ≤ c) (hcon0 : 0 < st.content.length)
    (h0 : 0 < l.length) (h1 : 0 < st.took l) :
    Calls Try.prog 26 #[.pointer (some ⟨b, 0, none⟩), .slice A l.length c] w fun e w' => e = .returned (.tuple #[.int .i64 (st.took l), .int .i64 0]) ∧
      ∃ v', IsRef w' b v' CA cc (st.next l) ∧ Chg (fun k => k = b) w w' ∧ (∀ k, v'.ownBlock = some k → w.heap.size ≤ k) := by
  have HH := Lib.hid h
  obtain ⟨i0, hi, hz0, hz1, hz2⟩ := info_parts infoU8
  obtain ⟨_, cells, hch, hrow, hne, hclt, hcne⟩ := h
  obtain ⟨ag, ao, rfl, hlc⟩ : ∃ g off, A = some ⟨g, off, none⟩ ∧ ∀ j u, (by8 l)[j]? = some u → w.cell? ⟨g, off + j, none⟩ = some u := by
    rcases hl with h | h
    · exfalso; have := by8_length l; rw [h] at this; simp at this; omega
    · exact h
  have hag : ag < w.heap.size := by
    have := hlc 0 ((by8 l)[0]'(by rw [by8_length]; exact h0)) (by simp)
    exact World.block_lt_of_cell? w _ this
  have c0 := cells.cell 0
  have c1 := cells.cell 1
  have c2 := cells.cell 2
  have c3 := cells.cell 3
  simp only [List.getElem?_toArray, List.getElem?_cons_zero, List.getElem?_cons_succ] at c0 c1 c2 c3
  obtain ⟨A2, cap2, rfl, hcap2, hA2⟩ := own_form hrow
  obtain ⟨vg, rfl⟩ : ∃ vg, A2 = some ⟨vg, 0, none⟩ := by
    rcases hrow.2 with ⟨h, h'⟩ | ⟨g, cap, cur, h, _⟩
    · omega
    · injection h with h; exact ⟨g, h⟩
  have hvlt := (hrow.lt vg rfl).2
  have hchunk := fun F W => refChunk CA cc st.chunks F st.writes W
  have hk1 := chunk_pos st.chunks st.writes
  have ht := took_cases ok h1
  generalize chunkOf st.chunks st.writes = K at *
  obtain ⟨k, rfl⟩ : ∃ k : Nat, K = k := ⟨K.toNat, by omega⟩
  have hwr : st.writes ≤ 100000000 := by have := ok.writes; omega
  have hbl := cells.lt
  have hne' : b ≠ vg := fun h => hne (by simp [Value.ownBlock, h])
  have f0 := cells.free 0
  have f3 := cells.free 3
  have hnil : ((l.length : Int) == 0) = false := by simp; intro h; subst h; simp at h0
  have hone : ∀ m, ∀ u ∈ by8 (l.take m), u.oneCell' = true := by
    intro m u hu; simp only [by8, List.mem_map] at hu; obtain ⟨x, _, rfl⟩ := hu; rfl
  have hone2 : ∀ u ∈ by8 st.content, u.oneCell' = true := by
    intro u hu; simp only [by8, List.mem_map] at hu; obtain ⟨x, _, rfl⟩ := hu; rfl
  rcases ht with ⟨hf, ht⟩ | ⟨hf, hf2, ht⟩
  · have hfd : decide (0 ≤ st.failAt) = false := by simpa using hf
    have hchunk := hchunk st.failAt
    by_cases hkl : (k : Int) < l.length
    · have htk : st.took l = k := by unfold mn2 at ht; rw [if_pos hkl] at ht; omega
      clear ht
      have HT := Lib.hid htk; clear htk
      have HCon := Lib.hid (fun (W : World) (hW : Chg (fun _ => False) w W) (j : Nat) (u : Value) (hu : (by8 st.content)[j]? = some u) => cell_keep hW (hrow.cells rfl j u hu))
      have HNew := Lib.hid (fun (W : World) (hW : Chg (fun _ => False) w W) => news_of hlc (k) W hW)
      have HC := Lib.hid hchunk; clear hchunk
      have HL := Lib.hid hlc; clear hlc
      have HO := Lib.hid hone; clear hone
      have HO2 := Lib.hid hone2; clear hone2
      have HW := Lib.hid hrow; clear hrow
      have HR := Lib.hid hch; clear hch
      clear hA2 cells hcne hclt hl
      go_enter Try.func26, Try.ntmps26
      go_wp2_with fail
      go_quiet (fail)
      go_wp2_with fail
      go_region_held3 (fun w' => w'.cell? ⟨b, 1, none⟩ = some (.slice CA st.chunks.length cc) ∧ w'.cell? ⟨b, 2, none⟩ = some (.int .i64 st.failAt) ∧ w'.cell? ⟨b, 3, none⟩ = some (.int .i64 st.writes))
        (first | go_keep | exact ⟨cell_keep hc1 c1, cell_keep hc1 c2, cell_keep hc1 c3⟩)
        (first | (go_at_call 29; refine (HC.out _ (by exact HR.out) (by have := ok.clen; omega) (by omega)).mono ?_; rintro e w1 ⟨rfl, hc1⟩))
      have hc2 : Chg (fun _ => False) w w1 := hc1.of_drewN
      clear hc1
      have e0 := cell_keep hc2 c0
      have e1 := cell_keep hc2 c1
      have e2 := cell_keep hc2 c2
      have e3 := cell_keep hc2 c3
      have p0 := free_keep hc2 (a := ⟨b, 0, none⟩) hbl f0
      have p3 := free_keep hc2 (a := ⟨b, 3, none⟩) hbl f3
      go_wp2_with fail
      go_quiet (fail)
      go_wp2_with fail
      have hlk : ((k : Nat) : Int) ≤ c := by omega
      have hnl : (by8 (l.take (k))).length = (k) * 1 := by rw [by8_length, List.length_take]; omega
      have hncl : (by8 st.content).length = st.content.length * 1 := by rw [by8_length]; omega
      have HNL := Lib.hid hnl; clear hnl
      have HNC := Lib.hid hncl; clear hncl
      have hcq := hc2.drewN nq
      generalize w1.drewN nq = wq at hcq ⊢
      clear e0 e1 e2 e3 p0 p3 hc2
      have hc2 := hcq; clear hcq
      have e0 := cell_keep hc2 c0
      have e3 := cell_keep hc2 c3
      have hsz := hc2.size
      have hbl1 : b < wq.heap.size := by omega
      have hk0 : 0 < (k) := by omega
      go_region_law (first
        | (refine step_append_lies _ rfl (.tmp 70) (.tmp 74) 36 rfl 0 5 i0 (.int .u8 0) 1 1 Try.underlying36 hi hz0 hz1 hz2 rfl (by decide) (.slice (some ⟨wq.heap.size, 0, none⟩) 0 0) 0 [] (by simp [Act.eval, Act.put]) (by exact World.ownsRow_lit wq #[] 0 (by omega) (by unfold maxLen; omega) rfl) ⟨vg, 0, none⟩ st.content.length cap2 (by8 st.content) (by simp [Act.eval, Act.put]) HNC.out (HCon.out _ (by first | exact hc2.alloc _ | exact (hc2.alloc _).drew)) HO2.out hcon0 (by unfold maxLen; omega) (by omega) (by omega) _ rfl ?_; intro g1 cap1 w2 hown2 hgr2 hor2 hgl2; have hc3 : Chg (fun _ => False) w w2 := chg_grown (by first | exact hc2.alloc _ | exact (hc2.alloc _).drew) hgr2 (own_ge hsz); have hg1 : w.heap.size ≤ g1 := own_or hor2 hsz (by simp; omega))
        | (refine step_append_lies _ rfl (.tmp 75) (.tmp 78) 36 rfl 0 5 i0 (.int .u8 0) 1 1 Try.underlying36 hi hz0 hz1 hz2 rfl (by decide) (.slice (some ⟨g1, 0, none⟩) (0 + st.content.length) cap1) _ _ (by simp [Act.eval, Act.put]) hown2 ⟨ag, ao, none⟩ (k) c (by8 (l.take (k))) (by simp [Act.eval, Act.put]) HNL.out (HNew.out _ hc3) (HO.out (k)) hk0 (by unfold maxLen; omega) (by omega) (by omega) _ rfl ?_; intro g2 cap2' w3 hown3 hgr3 hor3 hgl3; have hc4 : Chg (fun _ => False) w w3 := chg_grown hc3 hgr3 (own_ge hg1); have hg2 : w.heap.size ≤ g2 := own_or hor3 hg1 hc3.size; have e0 := cell_keep hc4 c0; have e3 := cell_keep hc4 c3; have p0 := free_keep hc4 (a := ⟨b, 0, none⟩) hbl f0; have p3 := free_keep hc4 (a := ⟨b, 3, none⟩) hbl f3))
      all_goals
        go_wp2
        go_ret2
        exact ⟨by rw [HT.out]; rfl, by simpa using ref_close HH.out HT.out (by omega) (by omega) (by simpa using hown3) hc4 hg2⟩
    · have htk : st.took l = l.length := by unfold mn2 at ht; rw [if_neg hkl] at ht; omega
      clear ht
      have HT := Lib.hid htk; clear htk
      have HCon := Lib.hid (fun (W : World) (hW : Chg (fun _ => False) w W) (j : Nat) (u : Value) (hu : (by8 st.content)[j]? = some u) => cell_keep hW (hrow.cells rfl j u hu))
      have HNew := Lib.hid (fun (W : World) (hW : Chg (fun _ => False) w W) => news_of hlc (l.length) W hW)
      have HC := Lib.hid hchunk; clear hchunk
      have HL := Lib.hid hlc; clear hlc
      have HO := Lib.hid hone; clear hone
      have HO2 := Lib.hid hone2; clear hone2
      have HW := Lib.hid hrow; clear hrow
      have HR := Lib.hid hch; clear hch
      clear hA2 cells hcne hclt hl
      go_enter Try.func26, Try.ntmps26
      go_wp2_with fail
      go_quiet (fail)
      go_wp2_with fail
      go_region_held3 (fun w' => w'.cell? ⟨b, 1, none⟩ = some (.slice CA st.chunks.length cc) ∧ w'.cell? ⟨b, 2, none⟩ = some (.int .i64 st.failAt) ∧ w'.cell? ⟨b, 3, none⟩ = some (.int .i64 st.writes))
        (first | go_keep | exact ⟨cell_keep hc1 c1, cell_keep hc1 c2, cell_keep hc1 c3⟩)
        (first | (go_at_call 29; refine (HC.out _ (by exact HR.out) (by have := ok.clen; omega) (by omega)).mono ?_; rintro e w1 ⟨rfl, hc1⟩))
      have hc2 : Chg (fun _ => False) w w1 := hc1.of_drewN
      clear hc1
      have e0 := cell_keep hc2 c0
      have e1 := cell_keep hc2 c1
      have e2 := cell_keep hc2 c2
      have e3 := cell_keep hc2 c3
      have p0 := free_keep hc2 (a := ⟨b, 0, none⟩) hbl f0
      have p3 := free_keep hc2 (a := ⟨b, 3, none⟩) hbl f3
      go_wp2_with fail
      go_quiet (fail)
      go_wp2_with fail
      have hlk : ((l.length : Nat) : Int) ≤ c := by omega
      have hnl : (by8 (l.take (l.length))).length = (l.length) * 1 := by rw [by8_length, List.length_take]; omega
      have hncl : (by8 st.content).length = st.content.length * 1 := by rw [by8_length]; omega
      have HNL := Lib.hid hnl; clear hnl
      have HNC := Lib.hid hncl; clear hncl
      have hcq := hc2.drewN nq
      generalize w1.drewN nq = wq at hcq ⊢
      clear e0 e1 e2 e3 p0 p3 hc2
      have hc2 := hcq; clear hcq
      have e0 := cell_keep hc2 c0
      have e3 := cell_keep hc2 c3
      have hsz := hc2.size
      have hbl1 : b < wq.heap.size := by omega
      have hk0 : 0 < (l.length) := by omega
      go_region_law (first
        | (refine step_append_lies _ rfl (.tmp 70) (.tmp 74) 36 rfl 0 5 i0 (.int .u8 0) 1 1 Try.underlying36 hi hz0 hz1 hz2 rfl (by decide) (.slice (some ⟨wq.heap.size, 0, none⟩) 0 0) 0 [] (by simp [Act.eval, Act.put]) (by exact World.ownsRow_lit wq #[] 0 (by omega) (by unfold maxLen; omega) rfl) ⟨vg, 0, none⟩ st.content.length cap2 (by8 st.content) (by simp [Act.eval, Act.put]) HNC.out (HCon.out _ (by first | exact hc2.alloc _ | exact (hc2.alloc _).drew)) HO2.out hcon0 (by unfold maxLen; omega) (by omega) (by omega) _ rfl ?_; intro g1 cap1 w2 hown2 hgr2 hor2 hgl2; have hc3 : Chg (fun _ => False) w w2 := chg_grown (by first | exact hc2.alloc _ | exact (hc2.alloc _).drew) hgr2 (own_ge hsz); have hg1 : w.heap.size ≤ g1 := own_or hor2 hsz (by simp; omega))
        | (refine step_append_lies _ rfl (.tmp 75) (.tmp 78) 36 rfl 0 5 i0 (.int .u8 0) 1 1 Try.underlying36 hi hz0 hz1 hz2 rfl (by decide) (.slice (some ⟨g1, 0, none⟩) (0 + st.content.length) cap1) _ _ (by simp [Act.eval, Act.put]) hown2 ⟨ag, ao, none⟩ (l.length) c (by8 (l.take (l.length))) (by simp [Act.eval, Act.put]) HNL.out (HNew.out _ hc3) (HO.out (l.length)) hk0 (by unfold maxLen; omega) (by omega) (by omega) _ rfl ?_; intro g2 cap2' w3 hown3 hgr3 hor3 hgl3; have hc4 : Chg (fun _ => False) w w3 := chg_grown hc3 hgr3 (own_ge hg1); have hg2 : w.heap.size ≤ g2 := own_or hor3 hg1 hc3.size; have e0 := cell_keep hc4 c0; have e3 := cell_keep hc4 c3; have p0 := free_keep hc4 (a := ⟨b, 0, none⟩) hbl f0; have p3 := free_keep hc4 (a := ⟨b, 3, none⟩) hbl f3))
      all_goals
        go_wp2
        go_ret2
        exact ⟨by rw [HT.out]; rfl, by simpa using ref_close HH.out HT.out (by omega) (by omega) (by simpa using hown3) hc4 hg2⟩
  · obtain ⟨L, hL⟩ : ∃ L : Nat, st.failAt = (st.content.length : Int) + L := ⟨(st.failAt - st.content.length).toNat, by omega⟩
    have hL0 : 0 < L := by omega
    have hLm : (st.content.length : Int) + L ≤ 9223372036854775807 := by have := ok.fail; omega
    have hchunk := hchunk ((st.content.length : Int) + L)
    rw [hL] at c2 ht
    have hfd : decide (0 ≤ (st.content.length : Int) + L) = true := by simp; omega
    have hfe : ((st.content.length : Int) == (st.content.length : Int) + L) = false := by simp; omega
    have hsub : (st.content.length : Int) + L - st.content.length = L := by omega
    rw [hsub] at ht
    clear hL hf hf2
    by_cases hkl : (k : Int) < l.length
    · by_cases hlk2 : (L : Int) < k
      · have htk : st.took l = L := by unfold mn2 at ht; repeat' split at ht
                                       all_goals omega
        clear ht
        have HT := Lib.hid htk; clear htk
        have HCon := Lib.hid (fun (W : World) (hW : Chg (fun _ => False) w W) (j : Nat) (u : Value) (hu : (by8 st.content)[j]? = some u) => cell_keep hW (hrow.cells rfl j u hu))
        have HNew := Lib.hid (fun (W : World) (hW : Chg (fun _ => False) w W) => news_of hlc (L) W hW)
        have HC := Lib.hid hchunk; clear hchunk
        have HL := Lib.hid hlc; clear hlc
        have HO := Lib.hid hone; clear hone
        have HO2 := Lib.hid hone2; clear hone2
        have HW := Lib.hid hrow; clear hrow
        have HR := Lib.hid hch; clear hch
        clear hA2 cells hcne hclt hl
        go_enter Try.func26, Try.ntmps26
        go_wp2_with fail
        go_quiet (fail)
        go_wp2_with fail
        go_region_held3 (fun w' => w'.cell? ⟨b, 1, none⟩ = some (.slice CA st.chunks.length cc) ∧ w'.cell? ⟨b, 2, none⟩ = some (.int .i64 ((st.content.length : Int) + L)) ∧ w'.cell? ⟨b, 3, none⟩ = some (.int .i64 st.writes))
          (first | go_keep | exact ⟨cell_keep hc1 c1, cell_keep hc1 c2, cell_keep hc1 c3⟩)
          (first | (go_at_call 29; refine (HC.out _ (by exact HR.out) (by have := ok.clen; omega) (by omega)).mono ?_; rintro e w1 ⟨rfl, hc1⟩))
        have hc2 : Chg (fun _ => False) w w1 := hc1.of_drewN
        clear hc1
        have e0 := cell_keep hc2 c0
        have e1 := cell_keep hc2 c1
        have e2 := cell_keep hc2 c2
        have e3 := cell_keep hc2 c3
        have p0 := free_keep hc2 (a := ⟨b, 0, none⟩) hbl f0
        have p3 := free_keep hc2 (a := ⟨b, 3, none⟩) hbl f3
        go_wp2_with fail
        go_quiet (fail)
        go_wp2_with fail
        have hlk : ((L : Nat) : Int) ≤ c := by omega
        have hnl : (by8 (l.take (L))).length = (L) * 1 := by rw [by8_length, List.length_take]; omega
        have hncl : (by8 st.content).length = st.content.length * 1 := by rw [by8_length]; omega
        have HNL := Lib.hid hnl; clear hnl
        have HNC := Lib.hid hncl; clear hncl
        have hcq := hc2.drewN nq
        generalize w1.drewN nq = wq at hcq ⊢
        clear e0 e1 e2 e3 p0 p3 hc2
        have hc2 := hcq; clear hcq
        have e0 := cell_keep hc2 c0
        have e3 := cell_keep hc2 c3
        have hsz := hc2.size
        have hbl1 : b < wq.heap.size := by omega
        have hk0 : 0 < (L) := by omega
        go_region_law (first
          | (refine step_append_lies _ rfl (.tmp 70) (.tmp 74) 36 rfl 0 5 i0 (.int .u8 0) 1 1 Try.underlying36 hi hz0 hz1 hz2 rfl (by decide) (.slice (some ⟨wq.heap.size, 0, none⟩) 0 0) 0 [] (by simp [Act.eval, Act.put]) (by exact World.ownsRow_lit wq #[] 0 (by omega) (by unfold maxLen; omega) rfl) ⟨vg, 0, none⟩ st.content.length cap2 (by8 st.content) (by simp [Act.eval, Act.put]) HNC.out (HCon.out _ (by first | exact hc2.alloc _ | exact (hc2.alloc _).drew)) HO2.out hcon0 (by unfold maxLen; omega) (by omega) (by omega) _ rfl ?_; intro g1 cap1 w2 hown2 hgr2 hor2 hgl2; have hc3 : Chg (fun _ => False) w w2 := chg_grown (by first | exact hc2.alloc _ | exact (hc2.alloc _).drew) hgr2 (own_ge hsz); have hg1 : w.heap.size ≤ g1 := own_or hor2 hsz (by simp; omega))
          | (refine step_append_lies _ rfl (.tmp 75) (.tmp 78) 36 rfl 0 5 i0 (.int .u8 0) 1 1 Try.underlying36 hi hz0 hz1 hz2 rfl (by decide) (.slice (some ⟨g1, 0, none⟩) (0 + st.content.length) cap1) _ _ (by simp [Act.eval, Act.put]) hown2 ⟨ag, ao, none⟩ (L) c (by8 (l.take (L))) (by simp [Act.eval, Act.put]) HNL.out (HNew.out _ hc3) (HO.out (L)) hk0 (by unfold maxLen; omega) (by omega) (by omega) _ rfl ?_; intro g2 cap2' w3 hown3 hgr3 hor3 hgl3; have hc4 : Chg (fun _ => False) w w3 := chg_grown hc3 hgr3 (own_ge hg1); have hg2 : w.heap.size ≤ g2 := own_or hor3 hg1 hc3.size; have e0 := cell_keep hc4 c0; have e3 := cell_keep hc4 c3; have p0 := free_keep hc4 (a := ⟨b, 0, none⟩) hbl f0; have p3 := free_keep hc4 (a := ⟨b, 3, none⟩) hbl f3))
        all_goals
          go_wp2
          go_ret2
          exact ⟨by rw [HT.out]; rfl, by simpa using ref_close HH.out HT.out (by omega) (by omega) (by simpa using hown3) hc4 hg2⟩
      · have htk : st.took l = k := by unfold mn2 at ht; repeat' split at ht
                                       all_goals omega
        clear ht
        have HT := Lib.hid htk; clear htk
        have HCon := Lib.hid (fun (W : World) (hW : Chg (fun _ => False) w W) (j : Nat) (u : Value) (hu : (by8 st.content)[j]? = some u) => cell_keep hW (hrow.cells rfl j u hu))
        have HNew := Lib.hid (fun (W : World) (hW : Chg (fun _ => False) w W) => news_of hlc (k) W hW)
        have HC := Lib.hid hchunk; clear hchunk
        have HL := Lib.hid hlc; clear hlc
        have HO := Lib.hid hone; clear hone
        have HO2 := Lib.hid hone2; clear hone2
        have HW := Lib.hid hrow; clear hrow
        have HR := Lib.hid hch; clear hch
        clear hA2 cells hcne hclt hl
        go_enter Try.func26, Try.ntmps26
        go_wp2_with fail
        go_quiet (fail)
        go_wp2_with fail
        go_region_held3 (fun w' => w'.cell? ⟨b, 1, none⟩ = some (.slice CA st.chunks.length cc) ∧ w'.cell? ⟨b, 2, none⟩ = some (.int .i64 ((st.content.length : Int) + L)) ∧ w'.cell? ⟨b, 3, none⟩ = some (.int .i64 st.writes))
          (first | go_keep | exact ⟨cell_keep hc1 c1, cell_keep hc1 c2, cell_keep hc1 c3⟩)
          (first | (go_at_call 29; refine (HC.out _ (by exact HR.out) (by have := ok.clen; omega) (by omega)).mono ?_; rintro e w1 ⟨rfl, hc1⟩))
        have hc2 : Chg (fun _ => False) w w1 := hc1.of_drewN
        clear hc1
        have e0 := cell_keep hc2 c0
        have e1 := cell_keep hc2 c1
        have e2 := cell_keep hc2 c2
        have e3 := cell_keep hc2 c3
        have p0 := free_keep hc2 (a := ⟨b, 0, none⟩) hbl f0
        have p3 := free_keep hc2 (a := ⟨b, 3, none⟩) hbl f3
        go_wp2_with fail
        go_quiet (fail)
        go_wp2_with fail
        have hlk : ((k : Nat) : Int) ≤ c := by omega
        have hnl : (by8 (l.take (k))).length = (k) * 1 := by rw [by8_length, List.length_take]; omega
        have hncl : (by8 st.content).length = st.content.length * 1 := by rw [by8_length]; omega
        have HNL := Lib.hid hnl; clear hnl
        have HNC := Lib.hid hncl; clear hncl
        have hcq := hc2.drewN nq
        generalize w1.drewN nq = wq at hcq ⊢
        clear e0 e1 e2 e3 p0 p3 hc2
        have hc2 := hcq; clear hcq
        have e0 := cell_keep hc2 c0
        have e3 := cell_keep hc2 c3
        have hsz := hc2.size
        have hbl1 : b < wq.heap.size := by omega
        have hk0 : 0 < (k) := by omega
        go_region_law (first
          | (refine step_append_lies _ rfl (.tmp 70) (.tmp 74) 36 rfl 0 5 i0 (.int .u8 0) 1 1 Try.underlying36 hi hz0 hz1 hz2 rfl (by decide) (.slice (some ⟨wq.heap.size, 0, none⟩) 0 0) 0 [] (by simp [Act.eval, Act.put]) (by exact World.ownsRow_lit wq #[] 0 (by omega) (by unfold maxLen; omega) rfl) ⟨vg, 0, none⟩ st.content.length cap2 (by8 st.content) (by simp [Act.eval, Act.put]) HNC.out (HCon.out _ (by first | exact hc2.alloc _ | exact (hc2.alloc _).drew)) HO2.out hcon0 (by unfold maxLen; omega) (by omega) (by omega) _ rfl ?_; intro g1 cap1 w2 hown2 hgr2 hor2 hgl2; have hc3 : Chg (fun _ => False) w w2 := chg_grown (by first | exact hc2.alloc _ | exact (hc2.alloc _).drew) hgr2 (own_ge hsz); have hg1 : w.heap.size ≤ g1 := own_or hor2 hsz (by simp; omega))
          | (refine step_append_lies _ rfl (.tmp 75) (.tmp 78) 36 rfl 0 5 i0 (.int .u8 0) 1 1 Try.underlying36 hi hz0 hz1 hz2 rfl (by decide) (.slice (some ⟨g1, 0, none⟩) (0 + st.content.length) cap1) _ _ (by simp [Act.eval, Act.put]) hown2 ⟨ag, ao, none⟩ (k) c (by8 (l.take (k))) (by simp [Act.eval, Act.put]) HNL.out (HNew.out _ hc3) (HO.out (k)) hk0 (by unfold maxLen; omega) (by omega) (by omega) _ rfl ?_; intro g2 cap2' w3 hown3 hgr3 hor3 hgl3; have hc4 : Chg (fun _ => False) w w3 := chg_grown hc3 hgr3 (own_ge hg1); have hg2 : w.heap.size ≤ g2 := own_or hor3 hg1 hc3.size; have e0 := cell_keep hc4 c0; have e3 := cell_keep hc4 c3; have p0 := free_keep hc4 (a := ⟨b, 0, none⟩) hbl f0; have p3 := free_keep hc4 (a := ⟨b, 3, none⟩) hbl f3))
        all_goals
          go_wp2
          go_ret2
          exact ⟨by rw [HT.out]; rfl, by simpa using ref_close HH.out HT.out (by omega) (by omega) (by simpa using hown3) hc4 hg2⟩
    · by_cases hlk2 : (L : Int) < l.length
      · have htk : st.took l = L := by unfold mn2 at ht; repeat' split at ht
                                       all_goals omega
        clear ht
        have HT := Lib.hid htk; clear htk
        have HCon := Lib.hid (fun (W : World) (hW : Chg (fun _ => False) w W) (j : Nat) (u : Value) (hu : (by8 st.content)[j]? = some u) => cell_keep hW (hrow.cells rfl j u hu))
        have HNew := Lib.hid (fun (W : World) (hW : Chg (fun _ => False) w W) => news_of hlc (L) W hW)
        have HC := Lib.hid hchunk; clear hchunk
        have HL := Lib.hid hlc; clear hlc
        have HO := Lib.hid hone; clear hone
        have HO2 := Lib.hid hone2; clear hone2
        have HW := Lib.hid hrow; clear hrow
        have HR := Lib.hid hch; clear hch
        clear hA2 cells hcne hclt hl
        go_enter Try.func26, Try.ntmps26
        go_wp2_with fail
        go_quiet (fail)
        go_wp2_with fail
        go_region_held3 (fun w' => w'.cell? ⟨b, 1, none⟩ = some (.slice CA st.chunks.length cc) ∧ w'.cell? ⟨b, 2, none⟩ = some (.int .i64 ((st.content.length : Int) + L)) ∧ w'.cell? ⟨b, 3, none⟩ = some (.int .i64 st.writes))
          (first | go_keep | exact ⟨cell_keep hc1 c1, cell_keep hc1 c2, cell_keep hc1 c3⟩)
          (first | (go_at_call 29; refine (HC.out _ (by exact HR.out) (by have := ok.clen; omega) (by omega)).mono ?_; rintro e w1 ⟨rfl, hc1⟩))
        have hc2 : Chg (fun _ => False) w w1 := hc1.of_drewN
        clear hc1
        have e0 := cell_keep hc2 c0
        have e1 := cell_keep hc2 c1
        have e2 := cell_keep hc2 c2
        have e3 := cell_keep hc2 c3
        have p0 := free_keep hc2 (a := ⟨b, 0, none⟩) hbl f0
        have p3 := free_keep hc2 (a := ⟨b, 3, none⟩) hbl f3
        go_wp2_with fail
        go_quiet (fail)
        go_wp2_with fail
        have hlk : ((L : Nat) : Int) ≤ c := by omega
        have hnl : (by8 (l.take (L))).length = (L) * 1 := by rw [by8_length, List.length_take]; omega
        have hncl : (by8 st.content).length = st.content.length * 1 := by rw [by8_length]; omega
        have HNL := Lib.hid hnl; clear hnl
        have HNC := Lib.hid hncl; clear hncl
        have hcq := hc2.drewN nq
        generalize w1.drewN nq = wq at hcq ⊢
        clear e0 e1 e2 e3 p0 p3 hc2
        have hc2 := hcq; clear hcq
        have e0 := cell_keep hc2 c0
        have e3 := cell_keep hc2 c3
        have hsz := hc2.size
        have hbl1 : b < wq.heap.size := by omega
        have hk0 : 0 < (L) := by omega
        go_region_law (first
          | (refine step_append_lies _ rfl (.tmp 70) (.tmp 74) 36 rfl 0 5 i0 (.int .u8 0) 1 1 Try.underlying36 hi hz0 hz1 hz2 rfl (by decide) (.slice (some ⟨wq.heap.size, 0, none⟩) 0 0) 0 [] (by simp [Act.eval, Act.put]) (by exact World.ownsRow_lit wq #[] 0 (by omega) (by unfold maxLen; omega) rfl) ⟨vg, 0, none⟩ st.content.length cap2 (by8 st.content) (by simp [Act.eval, Act.put]) HNC.out (HCon.out _ (by first | exact hc2.alloc _ | exact (hc2.alloc _).drew)) HO2.out hcon0 (by unfold maxLen; omega) (by omega) (by omega) _ rfl ?_; intro g1 cap1 w2 hown2 hgr2 hor2 hgl2; have hc3 : Chg (fun _ => False) w w2 := chg_grown (by first | exact hc2.alloc _ | exact (hc2.alloc _).drew) hgr2 (own_ge hsz); have hg1 : w.heap.size ≤ g1 := own_or hor2 hsz (by simp; omega))
          | (refine step_append_lies _ rfl (.tmp 75) (.tmp 78) 36 rfl 0 5 i0 (.int .u8 0) 1 1 Try.underlying36 hi hz0 hz1 hz2 rfl (by decide) (.slice (some ⟨g1, 0, none⟩) (0 + st.content.length) cap1) _ _ (by simp [Act.eval, Act.put]) hown2 ⟨ag, ao, none⟩ (L) c (by8 (l.take (L))) (by simp [Act.eval, Act.put]) HNL.out (HNew.out _ hc3) (HO.out (L)) hk0 (by unfold maxLen; omega) (by omega) (by omega) _ rfl ?_; intro g2 cap2' w3 hown3 hgr3 hor3 hgl3; have hc4 : Chg (fun _ => False) w w3 := chg_grown hc3 hgr3 (own_ge hg1); have hg2 : w.heap.size ≤ g2 := own_or hor3 hg1 hc3.size; have e0 := cell_keep hc4 c0; have e3 := cell_keep hc4 c3; have p0 := free_keep hc4 (a := ⟨b, 0, none⟩) hbl f0; have p3 := free_keep hc4 (a := ⟨b, 3, none⟩) hbl f3))
        all_goals
          go_wp2
          go_ret2
          exact ⟨by rw [HT.out]; rfl, by simpa using ref_close HH.out HT.out (by omega) (by omega) (by simpa using hown3) hc4 hg2⟩
      · have htk : st.took l = l.length := by
          unfold mn2 at ht; repeat' split at ht
          all_goals omega
        clear ht
        have HT := Lib.hid htk; clear htk
        have HCon := Lib.hid (fun (W : World) (hW : Chg (fun _ => False) w W) (j : Nat) (u : Value) (hu : (by8 st.content)[j]? = some u) => cell_keep hW (hrow.cells rfl j u hu))
        have HNew := Lib.hid (fun (W : World) (hW : Chg (fun _ => False) w W) => news_of hlc (l.length) W hW)
        have HC := Lib.hid hchunk; clear hchunk
        have HL := Lib.hid hlc; clear hlc
        have HO := Lib.hid hone; clear hone
        have HO2 := Lib.hid hone2; clear hone2
        have HW := Lib.hid hrow; clear hrow
        have HR := Lib.hid hch; clear hch
        clear hA2 cells hcne hclt hl
        go_enter Try.func26, Try.ntmps26
        go_wp2_with fail
        go_quiet (fail)
        go_wp2_with fail
        go_region_held3 (fun w' => w'.cell? ⟨b, 1, none⟩ = some (.slice CA st.chunks.length cc) ∧ w'.cell? ⟨b, 2, none⟩ = some (.int .i64 ((st.content.length : Int) + L)) ∧ w'.cell? ⟨b, 3, none⟩ = some (.int .i64 st.writes))
          (first | go_keep | exact ⟨cell_keep hc1 c1, cell_keep hc1 c2, cell_keep hc1 c3⟩)
          (first | (go_at_call 29; refine (HC.out _ (by exact HR.out) (by have := ok.clen; omega) (by omega)).mono ?_; rintro e w1 ⟨rfl, hc1⟩))
        have hc2 : Chg (fun _ => False) w w1 := hc1.of_drewN
        clear hc1
        have e0 := cell_keep hc2 c0
        have e1 := cell_keep hc2 c1
        have e2 := cell_keep hc2 c2
        have e3 := cell_keep hc2 c3
        have p0 := free_keep hc2 (a := ⟨b, 0, none⟩) hbl f0
        have p3 := free_keep hc2 (a := ⟨b, 3, none⟩) hbl f3
        go_wp2_with fail
        go_quiet (fail)
        go_wp2_with fail
        have hlk : ((l.length : Nat) : Int) ≤ c := by omega
        have hnl : (by8 (l.take (l.length))).length = (l.length) * 1 := by rw [by8_length, List.length_take]; omega
        have hncl : (by8 st.content).length = st.content.length * 1 := by rw [by8_length]; omega
        have HNL := Lib.hid hnl; clear hnl
        have HNC := Lib.hid hncl; clear hncl
        have hcq := hc2.drewN nq
        generalize w1.drewN nq = wq at hcq ⊢
        clear e0 e1 e2 e3 p0 p3 hc2
        have hc2 := hcq; clear hcq
        have e0 := cell_keep hc2 c0
        have e3 := cell_keep hc2 c3
        have hsz := hc2.size
        have hbl1 : b < wq.heap.size := by omega
        have hk0 : 0 < (l.length) := by omega
        go_region_law (first
          | (refine step_append_lies _ rfl (.tmp 70) (.tmp 74) 36 rfl 0 5 i0 (.int .u8 0) 1 1 Try.underlying36 hi hz0 hz1 hz2 rfl (by decide) (.slice (some ⟨wq.heap.size, 0, none⟩) 0 0) 0 [] (by simp [Act.eval, Act.put]) (by exact World.ownsRow_lit wq #[] 0 (by omega) (by unfold maxLen; omega) rfl) ⟨vg, 0, none⟩ st.content.length cap2 (by8 st.content) (by simp [Act.eval, Act.put]) HNC.out (HCon.out _ (by first | exact hc2.alloc _ | exact (hc2.alloc _).drew)) HO2.out hcon0 (by unfold maxLen; omega) (by omega) (by omega) _ rfl ?_; intro g1 cap1 w2 hown2 hgr2 hor2 hgl2; have hc3 : Chg (fun _ => False) w w2 := chg_grown (by first | exact hc2.alloc _ | exact (hc2.alloc _).drew) hgr2 (own_ge hsz); have hg1 : w.heap.size ≤ g1 := own_or hor2 hsz (by simp; omega))
          | (refine step_append_lies _ rfl (.tmp 75) (.tmp 78) 36 rfl 0 5 i0 (.int .u8 0) 1 1 Try.underlying36 hi hz0 hz1 hz2 rfl (by decide) (.slice (some ⟨g1, 0, none⟩) (0 + st.content.length) cap1) _ _ (by simp [Act.eval, Act.put]) hown2 ⟨ag, ao, none⟩ (l.length) c (by8 (l.take (l.length))) (by simp [Act.eval, Act.put]) HNL.out (HNew.out _ hc3) (HO.out (l.length)) hk0 (by unfold maxLen; omega) (by omega) (by omega) _ rfl ?_; intro g2 cap2' w3 hown3 hgr3 hor3 hgl3; have hc4 : Chg (fun _ => False) w w3 := chg_grown hc3 hgr3 (own_ge hg1); have hg2 : w.heap.size ≤ g2 := own_or hor3 hg1 hc3.size; have e0 := cell_keep hc4 c0; have e3 := cell_keep hc4 c3; have p0 := free_keep hc4 (a := ⟨b, 0, none⟩) hbl f0; have p3 := free_keep hc4 (a := ⟨b, 3, none⟩) hbl f3))
        all_goals
          go_wp2
          go_ret2
          exact ⟨by rw [HT.out]; rfl, by simpa using ref_close HH.out HT.out (by omega) (by omega) (by simpa using hown3) hc4 hg2⟩
end Go.Proofs.Ytgbpoehhikiieaa
