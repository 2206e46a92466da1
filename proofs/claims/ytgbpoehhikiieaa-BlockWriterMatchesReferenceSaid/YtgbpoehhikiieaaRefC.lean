/- The walk of the reference sink's Write where bytes are taken, into an empty sink. -/
import Derived.Test.YtgbpoehhikiieaaRefB
set_option linter.unusedVariables false
set_option linter.unusedSimpArgs false
namespace Go.Proofs.Ytgbpoehhikiieaa
open Go.RowKit

theorem took_first {st : SinkSt} {l : List UInt8} (ok : SinkOk st) (h1 : 0 < st.took l) (hc : st.content = []) :
    (st.failAt < 0 ∧ (st.took l : Int) = mn2 l.length (chunkOf st.chunks st.writes)) ∨
    (0 < st.failAt ∧ (st.took l : Int) = mn2 l.length (mn2 (chunkOf st.chunks st.writes) st.failAt)) := by
  rcases took_cases ok h1 with h | ⟨h2, h3, h4⟩
  · exact .inl h
  · right
    simp only [hc, List.length_nil] at h3 h4
    exact ⟨by omega, by rw [h4]; congr 2; omega⟩

theorem ref_close0 {w w3 : World} {b g cap' k : Nat} {v : Value} {CA : Option Addr} {cc : Nat} {st : SinkSt} {l : List UInt8} (h : IsRef w b v CA cc st) (hc0 : st.content = [])
    (htook : st.took l = k) (hkl : k ≤ l.length) (hknz : 0 < k)
    (hown : w3.ownsRow 0 5 1 (.slice (some ⟨g, 0, none⟩) k cap') k (by8 (l.take k)))
    (hc : Chg (fun _ => False) w w3) (hg : w.heap.size ≤ g) :
    ∃ v', IsRef ((w3.setCell ⟨b, 0, none⟩ (.slice (some ⟨g, 0, none⟩) k cap')).setCell ⟨b, 3, none⟩ (.int .i64 ((st.writes : Int) + 1))) b v' CA cc (st.next l) ∧
      Chg (fun i => i = b) w ((w3.setCell ⟨b, 0, none⟩ (.slice (some ⟨g, 0, none⟩) k cap')).setCell ⟨b, 3, none⟩ (.int .i64 ((st.writes : Int) + 1))) ∧
      (∀ i, v'.ownBlock = some i → w.heap.size ≤ i) := by
  have e : st.content.length + k = k := by rw [hc0]; simp
  have := ref_close (cap' := cap') h htook hkl hknz (by rw [e, hc0]; simpa [by8] using hown) hc hg
  rwa [e] at this

set_option maxHeartbeats 1000000 in
theorem refWrite_first (b : Nat) (v : Value) (CA A : Option Addr) (cc c : Nat) (st : SinkSt) (l : List UInt8) (w : World) (h : IsRef w b v CA cc st) (ok : SinkOk st)
    (hl : Rd w A (by8 l)) (hlen : l.length ≤ 100000000) (hcap : l.length ≤ c) (hcon0 : st.content = [])
    (h0 : 0 < l.length) (h1 : 0 < st.took l) :
    Calls Try.prog 26 #[.pointer (some ⟨b, 0, none⟩), .slice A l.length c] w fun e w' => e = .returned (.tuple #[.int .i64 (st.took l), .int .i64 0]) ∧
      ∃ v', IsRef w' b v' CA cc (st.next l) ∧ Chg (fun k => k = b) w w' ∧ (∀ k, v'.ownBlock = some k → w.heap.size ≤ k) := by
  have HH := Lib.hid h
  have HC0 := Lib.hid hcon0
  obtain ⟨i0, hi, hz0, hz1, hz2⟩ := info_parts infoU8
  have hcon : st.content.length ≤ 100000000 := by rw [hcon0]; simp
  obtain ⟨hnil0, cells, hch, hrow, hne, hclt, hcne⟩ := h
  obtain ⟨ag, ao, rfl, hlc⟩ : ∃ g off, A = some ⟨g, off, none⟩ ∧ ∀ j u, (by8 l)[j]? = some u → w.cell? ⟨g, off + j, none⟩ = some u := by
    rcases hl with h | h
    · exfalso; have := by8_length l; rw [h] at this; simp at this; omega
    · exact h
  have hag : ag < w.heap.size := by
    have := hlc 0 ((by8 l)[0]'(by rw [by8_length]; exact h0)) (by simp)
    exact World.block_lt_of_cell? w _ this
  have c0 := cells.cell 0
  have c1 := cells.cell 1
  have c2 := cells.cell 2
  have c3 := cells.cell 3
  simp only [List.getElem?_toArray, List.getElem?_cons_zero, List.getElem?_cons_succ] at c0 c1 c2 c3
  obtain rfl := hnil0 hcon0
  clear hnil0
  have hchunk := fun F W => refChunk CA cc st.chunks F st.writes W
  have hk1 := chunk_pos st.chunks st.writes
  have ht := took_first ok h1 hcon0
  generalize chunkOf st.chunks st.writes = K at *
  obtain ⟨k, rfl⟩ : ∃ k : Nat, K = k := ⟨K.toNat, by omega⟩
  have hwr : st.writes ≤ 100000000 := by have := ok.writes; omega
  have hbl := cells.lt
  have f0 := cells.free 0
  have f3 := cells.free 3
  have hnil : ((l.length : Int) == 0) = false := by simp; intro h; subst h; simp at h0
  have hone : ∀ m, ∀ u ∈ by8 (l.take m), u.oneCell' = true := by
    intro m u hu; simp only [by8, List.mem_map] at hu; obtain ⟨x, _, rfl⟩ := hu; rfl
  rcases ht with ⟨hf, ht⟩ | ⟨hf, ht⟩
  · have hfd : decide (0 ≤ st.failAt) = false := by simpa using hf
    have hchunk := hchunk st.failAt
    by_cases hkl : (k : Int) < l.length
    · have htk : st.took l = k := by unfold mn2 at ht; rw [if_pos hkl] at ht; omega
      clear ht
      have HT := Lib.hid htk; clear htk
      have HNew := Lib.hid (fun (W : World) (hW : Chg (fun _ => False) w W) => news_of hlc (k) W hW)
      have HC := Lib.hid hchunk; clear hchunk
      have HL := Lib.hid hlc; clear hlc
      have HO := Lib.hid hone; clear hone
      have HR := Lib.hid hch; clear hch
      clear cells hcne hclt hl hrow hcon0
      go_enter Try.func26, Try.ntmps26
      go_wp2_with fail
      go_quiet (fail)
      go_wp2_with fail
      go_region_held3 (fun w' => w'.cell? ⟨b, 1, none⟩ = some (.slice CA st.chunks.length cc) ∧ w'.cell? ⟨b, 2, none⟩ = some (.int .i64 st.failAt) ∧ w'.cell? ⟨b, 3, none⟩ = some (.int .i64 st.writes))
        (first | go_keep | exact ⟨cell_keep hc1 c1, cell_keep hc1 c2, cell_keep hc1 c3⟩)
        (first | (go_at_call 29; refine (HC.out _ (by exact HR.out) (by have := ok.clen; omega) (by omega)).mono ?_; rintro e w1 ⟨rfl, hc1⟩))
      have hc2 : Chg (fun _ => False) w w1 := hc1.of_drewN
      clear hc1
      have e0 := cell_keep hc2 c0
      have e1 := cell_keep hc2 c1
      have e2 := cell_keep hc2 c2
      have e3 := cell_keep hc2 c3
      have p0 := free_keep hc2 (a := ⟨b, 0, none⟩) hbl f0
      have p3 := free_keep hc2 (a := ⟨b, 3, none⟩) hbl f3
      go_wp2_with fail
      go_quiet (fail)
      go_wp2_with fail
      have hlk : ((k : Nat) : Int) ≤ c := by omega
      have hnl : (by8 (l.take (k))).length = (k) * 1 := by rw [by8_length, List.length_take]; omega
      have HNL := Lib.hid hnl; clear hnl
      have hcq := hc2.drewN nq
      generalize w1.drewN nq = wq at hcq ⊢
      clear e0 e1 e2 e3 p0 p3 hc2
      have hc2 := hcq; clear hcq
      have e0 := cell_keep hc2 c0
      have e3 := cell_keep hc2 c3
      have hsz := hc2.size
      have hbl1 : b < wq.heap.size := by omega
      have hk0 : 0 < (k) := by omega
      go_region_law (first
        | (refine step_append_lies _ rfl (.tmp 75) (.tmp 78) 36 rfl 0 5 i0 (.int .u8 0) 1 1 Try.underlying36 hi hz0 hz1 hz2 rfl (by decide) (.slice (some ⟨wq.heap.size, 0, none⟩) 0 0) 0 [] (by simp [Act.eval, Act.put]) (by exact World.ownsRow_lit wq #[] 0 (by omega) (by unfold maxLen; omega) rfl) ⟨ag, ao, none⟩ (k) c (by8 (l.take (k))) (by simp [Act.eval, Act.put]) HNL.out (HNew.out _ (by first | exact hc2.alloc _ | exact (hc2.alloc _).drew)) (HO.out (k)) hk0 (by unfold maxLen; omega) (by omega) (by omega) _ rfl ?_; intro g2 cap2' w3 hown3 hgr3 hor3 hgl3; have hc4 : Chg (fun _ => False) w w3 := chg_grown (by first | exact hc2.alloc _ | exact (hc2.alloc _).drew) hgr3 (own_ge hsz); have hg2 : w.heap.size ≤ g2 := own_or hor3 hsz (by simp; omega); have e0 := cell_keep hc4 c0; have e3 := cell_keep hc4 c3; have p0 := free_keep hc4 (a := ⟨b, 0, none⟩) hbl f0; have p3 := free_keep hc4 (a := ⟨b, 3, none⟩) hbl f3))
      all_goals
        go_wp2
        go_ret2
        exact ⟨by rw [HT.out]; rfl, ref_close0 HH.out HC0.out HT.out (by omega) (by omega) (by simpa using hown3) hc4 hg2⟩
    · have htk : st.took l = l.length := by unfold mn2 at ht; rw [if_neg hkl] at ht; omega
      clear ht
      have HT := Lib.hid htk; clear htk
      have HNew := Lib.hid (fun (W : World) (hW : Chg (fun _ => False) w W) => news_of hlc (l.length) W hW)
      have HC := Lib.hid hchunk; clear hchunk
      have HL := Lib.hid hlc; clear hlc
      have HO := Lib.hid hone; clear hone
      have HR := Lib.hid hch; clear hch
      clear cells hcne hclt hl hrow hcon0
      go_enter Try.func26, Try.ntmps26
      go_wp2_with fail
      go_quiet (fail)
      go_wp2_with fail
      go_region_held3 (fun w' => w'.cell? ⟨b, 1, none⟩ = some (.slice CA st.chunks.length cc) ∧ w'.cell? ⟨b, 2, none⟩ = some (.int .i64 st.failAt) ∧ w'.cell? ⟨b, 3, none⟩ = some (.int .i64 st.writes))
        (first | go_keep | exact ⟨cell_keep hc1 c1, cell_keep hc1 c2, cell_keep hc1 c3⟩)
        (first | (go_at_call 29; refine (HC.out _ (by exact HR.out) (by have := ok.clen; omega) (by omega)).mono ?_; rintro e w1 ⟨rfl, hc1⟩))
      have hc2 : Chg (fun _ => False) w w1 := hc1.of_drewN
      clear hc1
      have e0 := cell_keep hc2 c0
      have e1 := cell_keep hc2 c1
      have e2 := cell_keep hc2 c2
      have e3 := cell_keep hc2 c3
      have p0 := free_keep hc2 (a := ⟨b, 0, none⟩) hbl f0
      have p3 := free_keep hc2 (a := ⟨b, 3, none⟩) hbl f3
      go_wp2_with fail
      go_quiet (fail)
      go_wp2_with fail
      have hlk : ((l.length : Nat) : Int) ≤ c := by omega
      have hnl : (by8 (l.take (l.length))).length = (l.length) * 1 := by rw [by8_length, List.length_take]; omega
      have HNL := Lib.hid hnl; clear hnl
      have hcq := hc2.drewN nq
      generalize w1.drewN nq = wq at hcq ⊢
      clear e0 e1 e2 e3 p0 p3 hc2
      have hc2 := hcq; clear hcq
      have e0 := cell_keep hc2 c0
      have e3 := cell_keep hc2 c3
      have hsz := hc2.size
      have hbl1 : b < wq.heap.size := by omega
      have hk0 : 0 < (l.length) := by omega
      go_region_law (first
        | (refine step_append_lies _ rfl (.tmp 75) (.tmp 78) 36 rfl 0 5 i0 (.int .u8 0) 1 1 Try.underlying36 hi hz0 hz1 hz2 rfl (by decide) (.slice (some ⟨wq.heap.size, 0, none⟩) 0 0) 0 [] (by simp [Act.eval, Act.put]) (by exact World.ownsRow_lit wq #[] 0 (by omega) (by unfold maxLen; omega) rfl) ⟨ag, ao, none⟩ (l.length) c (by8 (l.take (l.length))) (by simp [Act.eval, Act.put]) HNL.out (HNew.out _ (by first | exact hc2.alloc _ | exact (hc2.alloc _).drew)) (HO.out (l.length)) hk0 (by unfold maxLen; omega) (by omega) (by omega) _ rfl ?_; intro g2 cap2' w3 hown3 hgr3 hor3 hgl3; have hc4 : Chg (fun _ => False) w w3 := chg_grown (by first | exact hc2.alloc _ | exact (hc2.alloc _).drew) hgr3 (own_ge hsz); have hg2 : w.heap.size ≤ g2 := own_or hor3 hsz (by simp; omega); have e0 := cell_keep hc4 c0; have e3 := cell_keep hc4 c3; have p0 := free_keep hc4 (a := ⟨b, 0, none⟩) hbl f0; have p3 := free_keep hc4 (a := ⟨b, 3, none⟩) hbl f3))
      all_goals
        go_wp2
        go_ret2
        exact ⟨by rw [HT.out]; rfl, ref_close0 HH.out HC0.out HT.out (by omega) (by omega) (by simpa using hown3) hc4 hg2⟩
  · obtain ⟨L, hL⟩ : ∃ L : Nat, st.failAt = (L : Int) := ⟨st.failAt.toNat, by omega⟩
    have hL0 : 0 < L := by omega
    have hLm : (L : Int) ≤ 9223372036854775807 := by have := ok.fail; omega
    have hchunk := hchunk (L : Int)
    rw [hL] at c2 ht
    have hfd : decide (0 ≤ (L : Int)) = true := by simp
    have hfe : ((0 : Int) == (L : Int)) = false := by simp; omega
    clear hL hf
    by_cases hkl : (k : Int) < l.length
    · by_cases hlk2 : (L : Int) < k
      · have htk : st.took l = L := by unfold mn2 at ht; repeat' split at ht
                                       all_goals omega
        clear ht
        have HT := Lib.hid htk; clear htk
        have HNew := Lib.hid (fun (W : World) (hW : Chg (fun _ => False) w W) => news_of hlc (L) W hW)
        have HC := Lib.hid hchunk; clear hchunk
        have HL := Lib.hid hlc; clear hlc
        have HO := Lib.hid hone; clear hone
        have HR := Lib.hid hch; clear hch
        clear cells hcne hclt hl hrow hcon0
        go_enter Try.func26, Try.ntmps26
        go_wp2_with fail
        go_quiet (fail)
        go_wp2_with fail
        go_region_held3 (fun w' => w'.cell? ⟨b, 1, none⟩ = some (.slice CA st.chunks.length cc) ∧ w'.cell? ⟨b, 2, none⟩ = some (.int .i64 (L : Int)) ∧ w'.cell? ⟨b, 3, none⟩ = some (.int .i64 st.writes))
          (first | go_keep | exact ⟨cell_keep hc1 c1, cell_keep hc1 c2, cell_keep hc1 c3⟩)
          (first | (go_at_call 29; refine (HC.out _ (by exact HR.out) (by have := ok.clen; omega) (by omega)).mono ?_; rintro e w1 ⟨rfl, hc1⟩))
        have hc2 : Chg (fun _ => False) w w1 := hc1.of_drewN
        clear hc1
        have e0 := cell_keep hc2 c0
        have e1 := cell_keep hc2 c1
        have e2 := cell_keep hc2 c2
        have e3 := cell_keep hc2 c3
        have p0 := free_keep hc2 (a := ⟨b, 0, none⟩) hbl f0
        have p3 := free_keep hc2 (a := ⟨b, 3, none⟩) hbl f3
        go_wp2_with fail
        go_quiet (fail)
        go_wp2_with fail
        have hlk : ((L : Nat) : Int) ≤ c := by omega
        have hnl : (by8 (l.take (L))).length = (L) * 1 := by rw [by8_length, List.length_take]; omega
        have HNL := Lib.hid hnl; clear hnl
        have hcq := hc2.drewN nq
        generalize w1.drewN nq = wq at hcq ⊢
        clear e0 e1 e2 e3 p0 p3 hc2
        have hc2 := hcq; clear hcq
        have e0 := cell_keep hc2 c0
        have e3 := cell_keep hc2 c3
        have hsz := hc2.size
        have hbl1 : b < wq.heap.size := by omega
        have hk0 : 0 < (L) := by omega
        go_region_law (first
          | (refine step_append_lies _ rfl (.tmp 75) (.tmp 78) 36 rfl 0 5 i0 (.int .u8 0) 1 1 Try.underlying36 hi hz0 hz1 hz2 rfl (by decide) (.slice (some ⟨wq.heap.size, 0, none⟩) 0 0) 0 [] (by simp [Act.eval, Act.put]) (by exact World.ownsRow_lit wq #[] 0 (by omega) (by unfold maxLen; omega) rfl) ⟨ag, ao, none⟩ (L) c (by8 (l.take (L))) (by simp [Act.eval, Act.put]) HNL.out (HNew.out _ (by first | exact hc2.alloc _ | exact (hc2.alloc _).drew)) (HO.out (L)) hk0 (by unfold maxLen; omega) (by omega) (by omega) _ rfl ?_; intro g2 cap2' w3 hown3 hgr3 hor3 hgl3; have hc4 : Chg (fun _ => False) w w3 := chg_grown (by first | exact hc2.alloc _ | exact (hc2.alloc _).drew) hgr3 (own_ge hsz); have hg2 : w.heap.size ≤ g2 := own_or hor3 hsz (by simp; omega); have e0 := cell_keep hc4 c0; have e3 := cell_keep hc4 c3; have p0 := free_keep hc4 (a := ⟨b, 0, none⟩) hbl f0; have p3 := free_keep hc4 (a := ⟨b, 3, none⟩) hbl f3))
        all_goals
          go_wp2
          go_ret2
          exact ⟨by rw [HT.out]; rfl, ref_close0 HH.out HC0.out HT.out (by omega) (by omega) (by simpa using hown3) hc4 hg2⟩
      · have htk : st.took l = k := by unfold mn2 at ht; repeat' split at ht
                                       all_goals omega
        clear ht
        have HT := Lib.hid htk; clear htk
        have HNew := Lib.hid (fun (W : World) (hW : Chg (fun _ => False) w W) => news_of hlc (k) W hW)
        have HC := Lib.hid hchunk; clear hchunk
        have HL := Lib.hid hlc; clear hlc
        have HO := Lib.hid hone; clear hone
        have HR := Lib.hid hch; clear hch
        clear cells hcne hclt hl hrow hcon0
        go_enter Try.func26, Try.ntmps26
        go_wp2_with fail
        go_quiet (fail)
        go_wp2_with fail
        go_region_held3 (fun w' => w'.cell? ⟨b, 1, none⟩ = some (.slice CA st.chunks.length cc) ∧ w'.cell? ⟨b, 2, none⟩ = some (.int .i64 (L : Int)) ∧ w'.cell? ⟨b, 3, none⟩ = some (.int .i64 st.writes))
          (first | go_keep | exact ⟨cell_keep hc1 c1, cell_keep hc1 c2, cell_keep hc1 c3⟩)
          (first | (go_at_call 29; refine (HC.out _ (by exact HR.out) (by have := ok.clen; omega) (by omega)).mono ?_; rintro e w1 ⟨rfl, hc1⟩))
        have hc2 : Chg (fun _ => False) w w1 := hc1.of_drewN
        clear hc1
        have e0 := cell_keep hc2 c0
        have e1 := cell_keep hc2 c1
        have e2 := cell_keep hc2 c2
        have e3 := cell_keep hc2 c3
        have p0 := free_keep hc2 (a := ⟨b, 0, none⟩) hbl f0
        have p3 := free_keep hc2 (a := ⟨b, 3, none⟩) hbl f3
        go_wp2_with fail
        go_quiet (fail)
        go_wp2_with fail
        have hlk : ((k : Nat) : Int) ≤ c := by omega
        have hnl : (by8 (l.take (k))).length = (k) * 1 := by rw [by8_length, List.length_take]; omega
        have HNL := Lib.hid hnl; clear hnl
        have hcq := hc2.drewN nq
        generalize w1.drewN nq = wq at hcq ⊢
        clear e0 e1 e2 e3 p0 p3 hc2
        have hc2 := hcq; clear hcq
        have e0 := cell_keep hc2 c0
        have e3 := cell_keep hc2 c3
        have hsz := hc2.size
        have hbl1 : b < wq.heap.size := by omega
        have hk0 : 0 < (k) := by omega
        go_region_law (first
          | (refine step_append_lies _ rfl (.tmp 75) (.tmp 78) 36 rfl 0 5 i0 (.int .u8 0) 1 1 Try.underlying36 hi hz0 hz1 hz2 rfl (by decide) (.slice (some ⟨wq.heap.size, 0, none⟩) 0 0) 0 [] (by simp [Act.eval, Act.put]) (by exact World.ownsRow_lit wq #[] 0 (by omega) (by unfold maxLen; omega) rfl) ⟨ag, ao, none⟩ (k) c (by8 (l.take (k))) (by simp [Act.eval, Act.put]) HNL.out (HNew.out _ (by first | exact hc2.alloc _ | exact (hc2.alloc _).drew)) (HO.out (k)) hk0 (by unfold maxLen; omega) (by omega) (by omega) _ rfl ?_; intro g2 cap2' w3 hown3 hgr3 hor3 hgl3; have hc4 : Chg (fun _ => False) w w3 := chg_grown (by first | exact hc2.alloc _ | exact (hc2.alloc _).drew) hgr3 (own_ge hsz); have hg2 : w.heap.size ≤ g2 := own_or hor3 hsz (by simp; omega); have e0 := cell_keep hc4 c0; have e3 := cell_keep hc4 c3; have p0 := free_keep hc4 (a := ⟨b, 0, none⟩) hbl f0; have p3 := free_keep hc4 (a := ⟨b, 3, none⟩) hbl f3))
        all_goals
          go_wp2
          go_ret2
          exact ⟨by rw [HT.out]; rfl, ref_close0 HH.out HC0.out HT.out (by omega) (by omega) (by simpa using hown3) hc4 hg2⟩
    · by_cases hlk2 : (L : Int) < l.length
      · have htk : st.took l = L := by unfold mn2 at ht; repeat' split at ht
                                       all_goals omega
        clear ht
        have HT := Lib.hid htk; clear htk
        have HNew := Lib.hid (fun (W : World) (hW : Chg (fun _ => False) w W) => news_of hlc (L) W hW)
        have HC := Lib.hid hchunk; clear hchunk
        have HL := Lib.hid hlc; clear hlc
        have HO := Lib.hid hone; clear hone
        have HR := Lib.hid hch; clear hch
        clear cells hcne hclt hl hrow hcon0
        go_enter Try.func26, Try.ntmps26
        go_wp2_with fail
        go_quiet (fail)
        go_wp2_with fail
        go_region_held3 (fun w' => w'.cell? ⟨b, 1, none⟩ = some (.slice CA st.chunks.length cc) ∧ w'.cell? ⟨b, 2, none⟩ = some (.int .i64 (L : Int)) ∧ w'.cell? ⟨b, 3, none⟩ = some (.int .i64 st.writes))
          (first | go_keep | exact ⟨cell_keep hc1 c1, cell_keep hc1 c2, cell_keep hc1 c3⟩)
          (first | (go_at_call 29; refine (HC.out _ (by exact HR.out) (by have := ok.clen; omega) (by omega)).mono ?_; rintro e w1 ⟨rfl, hc1⟩))
        have hc2 : Chg (fun _ => False) w w1 := hc1.of_drewN
        clear hc1
        have e0 := cell_keep hc2 c0
        have e1 := cell_keep hc2 c1
        have e2 := cell_keep hc2 c2
        have e3 := cell_keep hc2 c3
        have p0 := free_keep hc2 (a := ⟨b, 0, none⟩) hbl f0
        have p3 := free_keep hc2 (a := ⟨b, 3, none⟩) hbl f3
        go_wp2_with fail
        go_quiet (fail)
        go_wp2_with fail
        have hlk : ((L : Nat) : Int) ≤ c := by omega
        have hnl : (by8 (l.take (L))).length = (L) * 1 := by rw [by8_length, List.length_take]; omega
        have HNL := Lib.hid hnl; clear hnl
        have hcq := hc2.drewN nq
        generalize w1.drewN nq = wq at hcq ⊢
        clear e0 e1 e2 e3 p0 p3 hc2
        have hc2 := hcq; clear hcq
        have e0 := cell_keep hc2 c0
        have e3 := cell_keep hc2 c3
        have hsz := hc2.size
        have hbl1 : b < wq.heap.size := by omega
        have hk0 : 0 < (L) := by omega
        go_region_law (first
          | (refine step_append_lies _ rfl (.tmp 75) (.tmp 78) 36 rfl 0 5 i0 (.int .u8 0) 1 1 Try.underlying36 hi hz0 hz1 hz2 rfl (by decide) (.slice (some ⟨wq.heap.size, 0, none⟩) 0 0) 0 [] (by simp [Act.eval, Act.put]) (by exact World.ownsRow_lit wq #[] 0 (by omega) (by unfold maxLen; omega) rfl) ⟨ag, ao, none⟩ (L) c (by8 (l.take (L))) (by simp [Act.eval, Act.put]) HNL.out (HNew.out _ (by first | exact hc2.alloc _ | exact (hc2.alloc _).drew)) (HO.out (L)) hk0 (by unfold maxLen; omega) (by omega) (by omega) _ rfl ?_; intro g2 cap2' w3 hown3 hgr3 hor3 hgl3; have hc4 : Chg (fun _ => False) w w3 := chg_grown (by first | exact hc2.alloc _ | exact (hc2.alloc _).drew) hgr3 (own_ge hsz); have hg2 : w.heap.size ≤ g2 := own_or hor3 hsz (by simp; omega); have e0 := cell_keep hc4 c0; have e3 := cell_keep hc4 c3; have p0 := free_keep hc4 (a := ⟨b, 0, none⟩) hbl f0; have p3 := free_keep hc4 (a := ⟨b, 3, none⟩) hbl f3))
        all_goals
          go_wp2
          go_ret2
          exact ⟨by rw [HT.out]; rfl, ref_close0 HH.out HC0.out HT.out (by omega) (by omega) (by simpa using hown3) hc4 hg2⟩
      · have htk : st.took l = l.length := by
          unfold mn2 at ht; repeat' split at ht
          all_goals omega
        clear ht
        have HT := Lib.hid htk; clear htk
        have HNew := Lib.hid (fun (W : World) (hW : Chg (fun _ => False) w W) => news_of hlc (l.length) W hW)
        have HC := Lib.hid hchunk; clear hchunk
        have HL := Lib.hid hlc; clear hlc
        have HO := Lib.hid hone; clear hone
        have HR := Lib.hid hch; clear hch
        clear cells hcne hclt hl hrow hcon0
        go_enter Try.func26, Try.ntmps26
        go_wp2_with fail
        go_quiet (fail)
        go_wp2_with fail
        go_region_held3 (fun w' => w'.cell? ⟨b, 1, none⟩ = some (.slice CA st.chunks.length cc) ∧ w'.cell? ⟨b, 2, none⟩ = some (.int .i64 (L : Int)) ∧ w'.cell? ⟨b, 3, none⟩ = some (.int .i64 st.writes))
          (first | go_keep | exact ⟨cell_keep hc1 c1, cell_keep hc1 c2, cell_keep hc1 c3⟩)
          (first | (go_at_call 29; refine (HC.out _ (by exact HR.out) (by have := ok.clen; omega) (by omega)).mono ?_; rintro e w1 ⟨rfl, hc1⟩))
        have hc2 : Chg (fun _ => False) w w1 := hc1.of_drewN
        clear hc1
        have e0 := cell_keep hc2 c0
        have e1 := cell_keep hc2 c1
        have e2 := cell_keep hc2 c2
        have e3 := cell_keep hc2 c3
        have p0 := free_keep hc2 (a := ⟨b, 0, none⟩) hbl f0
        have p3 := free_keep hc2 (a := ⟨b, 3, none⟩) hbl f3
        go_wp2_with fail
        go_quiet (fail)
        go_wp2_with fail
        have hlk : ((l.length : Nat) : Int) ≤ c := by omega
        have hnl : (by8 (l.take (l.length))).length = (l.length) * 1 := by rw [by8_length, List.length_take]; omega
        have HNL := Lib.hid hnl; clear hnl
        have hcq := hc2.drewN nq
        generalize w1.drewN nq = wq at hcq ⊢
        clear e0 e1 e2 e3 p0 p3 hc2
        have hc2 := hcq; clear hcq
        have e0 := cell_keep hc2 c0
        have e3 := cell_keep hc2 c3
        have hsz := hc2.size
        have hbl1 : b < wq.heap.size := by omega
        have hk0 : 0 < (l.length) := by omega
        go_region_law (first
          | (refine step_append_lies _ rfl (.tmp 75) (.tmp 78) 36 rfl 0 5 i0 (.int .u8 0) 1 1 Try.underlying36 hi hz0 hz1 hz2 rfl (by decide) (.slice (some ⟨wq.heap.size, 0, none⟩) 0 0) 0 [] (by simp [Act.eval, Act.put]) (by exact World.ownsRow_lit wq #[] 0 (by omega) (by unfold maxLen; omega) rfl) ⟨ag, ao, none⟩ (l.length) c (by8 (l.take (l.length))) (by simp [Act.eval, Act.put]) HNL.out (HNew.out _ (by first | exact hc2.alloc _ | exact (hc2.alloc _).drew)) (HO.out (l.length)) hk0 (by unfold maxLen; omega) (by omega) (by omega) _ rfl ?_; intro g2 cap2' w3 hown3 hgr3 hor3 hgl3; have hc4 : Chg (fun _ => False) w w3 := chg_grown (by first | exact hc2.alloc _ | exact (hc2.alloc _).drew) hgr3 (own_ge hsz); have hg2 : w.heap.size ≤ g2 := own_or hor3 hsz (by simp; omega); have e0 := cell_keep hc4 c0; have e3 := cell_keep hc4 c3; have p0 := free_keep hc4 (a := ⟨b, 0, none⟩) hbl f0; have p3 := free_keep hc4 (a := ⟨b, 3, none⟩) hbl f3))
        all_goals
          go_wp2
          go_ret2
          exact ⟨by rw [HT.out]; rfl, ref_close0 HH.out HC0.out HT.out (by omega) (by omega) (by simpa using hown3) hc4 hg2⟩
end Go.Proofs.Ytgbpoehhikiieaa
