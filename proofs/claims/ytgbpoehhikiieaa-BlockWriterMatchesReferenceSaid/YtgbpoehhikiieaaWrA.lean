/- The block writer's Write. -/
import Derived.Test.YtgbpoehhikiieaaRefD
set_option linter.unusedVariables false
set_option linter.unusedSimpArgs false
namespace Go.Proofs.Ytgbpoehhikiieaa
open Go.RowKit

/-- The writer's status after a write: the sink's state, the error. -/
def wstep (st : SinkSt) (err : Int) (l : List UInt8) : SinkSt × Int := if err ≠ 0 then (st, err) else st.all l

set_option maxHeartbeats 400000 in
theorem wFail (b off : Nat) (e0 e : Int) (P : Value) (w : World) (h : Blk w b #[.int .i64 off, .int .i64 e0, P] 63) :
    Calls Try.prog 21 #[.pointer (some ⟨b, 0, none⟩), .int .i64 e] w fun x w' => x = .returned (.int .i64 e) ∧ w' = w.setCell ⟨b, 1, none⟩ (.int .i64 e) := by
  have c1 := h.cell 1
  have f1 := h.free 1
  simp only [List.getElem?_toArray, List.getElem?_cons_zero, List.getElem?_cons_succ] at c1
  go_enter Try.func21, Try.ntmps21
  go_wp2
  go_ret
  exact ⟨rfl, rfl⟩

theorem IsSink.setOther {w : World} {b wb o : Nat} {v u : Value} {CA : Option Addr} {cc : Nat} {st : SinkSt} (h : IsSink w b v CA cc st) (hne : wb ≠ b) (hv : v.ownBlock ≠ some wb) (hc : ∀ ad, CA = some ad → ad.block ≠ wb) :
    IsSink (w.setCell ⟨wb, o, none⟩ u) b v CA cc st := by
  have hch : Chg (fun k => k = wb) w (w.setCell ⟨wb, o, none⟩ u) := (Chg.refl _ w).setCell _ _ (fun _ => rfl)
  exact ⟨h.blk.chg hch (fun e => hne e.symm), h.chunks.chg hch (fun ad e hh => hc ad e hh), own_chg h.row hch (fun k hk e => hv (e ▸ hk)), h.ne, fun ad e => Nat.lt_of_lt_of_le (h.clt ad e) hch.size, h.cne⟩

/-- The loop of Write. -/
structure WrLoop (w : World) (wb b : Nat) (v : Value) (CA : Option Addr) (cc : Nat) (st : SinkSt) (l : List UInt8) (bv : Value) (wr : World) : Prop where
  out : ∃ (A' : Option Addr) (c' : Nat) (rest : List UInt8) (v' : Value) (st' : SinkSt), bv = .slice A' rest.length c' ∧ Rd wr A' (by8 rest) ∧ rest.length ≤ c' ∧ (∀ ad, A' = some ad → rest ≠ [] → ad.block ≠ b ∧ ad.block ≠ wb ∧ some ad.block ≠ v.ownBlock ∧ ad.block < w.heap.size) ∧
    Blk wr wb #[.int .i64 (st'.content.length : Int), .int .i64 0, .pointer (some ⟨b, 0, none⟩)] 63 ∧
    IsSink wr b v' CA cc st' ∧ SinkOk st' ∧ st'.content.length + rest.length ≤ st.content.length + l.length ∧ Chg (fun k => k = b ∨ k = wb ∨ some k = v.ownBlock) w wr ∧ (v'.ownBlock = v.ownBlock ∨ ∀ k, v'.ownBlock = some k → w.heap.size ≤ k) ∧ st'.all rest = st.all l

theorem wrWrite_err (wb : Nat) (off : Nat) (err : Int) (P A : Value) (w : World) (hw : Blk w wb #[.int .i64 off, .int .i64 err, P] 63) (he : (err == 0) = false) :
    Calls Try.prog 8 #[.pointer (some ⟨wb, 0, none⟩), A] w fun e w' => e = .returned (.int .i64 err) ∧ w' = w := by
  have c1 := hw.cell 1
  simp only [List.getElem?_toArray, List.getElem?_cons_zero, List.getElem?_cons_succ] at c1
  have he2 : (err != 0) = true := by simpa using he
  go_enter Try.func8, Try.ntmps8
  go_wp2_with fail
  go_ret
  exact ⟨rfl, rfl⟩

set_option maxHeartbeats 1000000 in
theorem wrWrite_ok (wb b : Nat) (v : Value) (CA A : Option Addr) (cc c : Nat) (st : SinkSt) (l : List UInt8) (w : World)
    (hw : Blk w wb #[.int .i64 (st.content.length : Int), .int .i64 0, .pointer (some ⟨b, 0, none⟩)] 63) (h : IsSink w b v CA cc st) (ok : SinkOk st)
    (hl : Rd w A (by8 l)) (hsz : st.content.length + l.length ≤ 100000000) (hcap : l.length ≤ c)
    (hA : ∀ ad, A = some ad → l ≠ [] → ad.block ≠ b ∧ ad.block ≠ wb ∧ some ad.block ≠ v.ownBlock ∧ ad.block < w.heap.size) (hne : wb ≠ b) (hnv : some wb ≠ v.ownBlock) (hnc : ∀ ad, CA = some ad → ad.block ≠ wb) :
    Calls Try.prog 8 #[.pointer (some ⟨wb, 0, none⟩), .slice A l.length c] w fun e w' => e = .returned (.int .i64 (st.all l).2) ∧
      ∃ v', IsSink w' b v' CA cc (st.all l).1 ∧ Blk w' wb #[.int .i64 ((st.all l).1.content.length : Int), .int .i64 (st.all l).2, .pointer (some ⟨b, 0, none⟩)] 63 ∧
        Chg (fun k => k = b ∨ k = wb ∨ some k = v.ownBlock) w w' ∧ (v'.ownBlock = v.ownBlock ∨ ∀ k, v'.ownBlock = some k → w.heap.size ≤ k) := by
  have hstart : WrLoop w wb b v CA cc st l (.slice A l.length c) w := ⟨⟨A, c, l, v, st, rfl, hl, hcap, hA, hw, h, ok, Nat.le_refl _, Chg.refl _ _, .inl rfl, rfl⟩⟩
  have c1 := hw.cell 1
  simp only [List.getElem?_toArray, List.getElem?_cons_zero, List.getElem?_cons_succ] at c1
  have hwlt := hw.lt
  clear h ok hl hcap hA hw
  go_enter Try.func8, Try.ntmps8
  go_wp2_with fail
  clear c1
  go_loopw [1] (fun bv wr => WrLoop w wb b v CA cc st l bv wr) (fun bv _ => slLen bv)
  case atStart => exact hstart
  case round =>
    obtain ⟨A', c', rest, v', st', rfl, hr, hc', hA', hW, hi, ok', hsum, hch, hv', hall⟩ := hrel.out
    clear hstart hrel
    have c0 := hW.cell 0
    have c2 := hW.cell 2
    have f0 := hW.free 0
    have f1 := hW.free 1
    simp only [List.getElem?_toArray, List.getElem?_cons_zero, List.getElem?_cons_succ] at c0 c2
    have hnv' : some wb ≠ v'.ownBlock := by
      rcases hv' with h | h
      · rw [h]; exact hnv
      · intro e; have := h wb e.symm; omega
    by_cases h0 : rest = []
    · subst h0
      have hfin : st.all l = (st', 0) := by rw [← hall, all_nil]
      have HF := Lib.hid hfin; clear hfin hall
      simp only [List.length_nil]
      go_wp2_with fail
      go_ret
      exact ⟨by rw [HF.out]; rfl, v', by rw [HF.out]; exact ⟨hi, hW, hch, hv'⟩⟩
    · have hpos : 0 < rest.length := by cases hh : rest with | nil => exact absurd hh h0 | cons a t => simp
      have hOff : Off A' (fun k => k = b ∨ some k = v'.ownBlock) := by
        intro ad e hh
        obtain ⟨h1, h2, h3, h4⟩ := hA' ad e h0
        rcases hh with hh | hh
        · exact h1 hh
        · rcases hv' with h | h
          · exact h3 (by rw [hh, h])
          · have := h _ hh.symm; omega
      have hw := sinkWrite b v' CA A' cc c' st' rest wr hi ok' hr (by omega) (by omega) hOff hc'
      have hcomp : ∀ (w1 : World) (v1 : Value), Chg (fun k => k = b ∨ some k = v'.ownBlock) wr w1 → (v1.ownBlock = v'.ownBlock ∨ ∀ k, v1.ownBlock = some k → wr.heap.size ≤ k) →
          Chg (fun k => k = b ∨ k = wb ∨ some k = v.ownBlock) w w1 ∧ (v1.ownBlock = v.ownBlock ∨ ∀ k, v1.ownBlock = some k → w.heap.size ≤ k) := by
        intro w1 v1 hch1 hv1
        refine ⟨hch.trans hch1 (fun _ _ h => h) ?_, ?_⟩
        · intro i hi hh
          rcases hh with hh | hh
          · exact .inl hh
          · rcases hv' with h | h
            · exact .inr (.inr (by rw [hh, h]))
            · have := h _ hh.symm; omega
        · rcases hv1 with h | h
          · rw [h]; exact hv'
          · exact .inr fun k hk => Nat.le_trans hch.size (h k hk)
      have HCo := Lib.hid hcomp; clear hcomp
      by_cases h1 : st'.took rest = 0
      · have hfin : st.all l = (st', 11) := by rw [← hall, all_full h0 h1]
        have e1 : st'.err rest = 11 := err_full h0 h1
        have e2 : st'.put rest = st' := put_full h1
        rw [e1, e2] at hw
        have HF := Lib.hid hfin; clear hfin hall
        have HW := Lib.hid hw; clear hw e1 e2 h1 h0
        have HB := Lib.hid hW; clear hW
        go_wp2_with (first | (go_at_call 20; refine HW.out.mono ?_; rintro e w1 ⟨rfl, v1, hi1, hch1, hv1⟩; have HB1 := Lib.hid (HB.out.chg hch1 (fun h => h.elim hne hnv'))) | (go_at_call 21; refine (wFail wb st'.content.length 0 11 (.pointer (some ⟨b, 0, none⟩)) _ HB1.out).mono ?_; rintro e w2 ⟨rfl, rfl⟩))
        go_ret
        refine ⟨by rw [HF.out]; rfl, v1, ?_⟩
        rw [HF.out]
        obtain ⟨k1, k2⟩ := HCo.out w1 v1 hch1 hv1
        have hwv1 : some wb ≠ v1.ownBlock := by
          rcases hv1 with h | h
          · rw [h]; exact hnv'
          · intro e; have := h wb e.symm; have := hch.size; omega
        exact ⟨hi1.setOther hne hwv1.symm hnc, HB1.out.set 1 _, k1.setCell _ _ (fun _ => .inr (.inl rfl)), k2⟩
      · have hfin : (st'.put rest).all (rest.drop (st'.took rest)) = st.all l := by rw [← hall, all_step h0 h1]
        have e1 : st'.err rest = 0 := err_some h1
        rw [e1] at hw
        have htl := took_le st' rest
        have hpl := put_len st' rest
        have hdl : (rest.drop (st'.took rest)).length = rest.length - st'.took rest := List.length_drop ..
        have hok2 := SinkSt.put_ok ok' rest
        generalize hput : st'.put rest = st2 at *
        generalize htk : st'.took rest = T at *
        clear hput htk e1
        have HF := Lib.hid hfin; clear hfin hall
        have HW := Lib.hid hw; clear hw
        have HB := Lib.hid hW; clear hW
        have HD := Lib.hid hdl; clear hdl
        have HP := Lib.hid hpl; clear hpl
        have hT : 0 < T := by omega
        clear h1
        have hTc : (T : Int) ≤ c' := by omega
        have hrn : ∀ (w1 : World), Chg (fun k => k = b ∨ some k = v'.ownBlock) wr w1 → Rd w1 A' (by8 rest) := by
          intro w1 hch1
          exact hr.chg hch1 hOff
        have HRn := Lib.hid hrn; clear hrn
        have hA2 := Lib.hid (fun ad e => hA' ad e h0); clear hA'
        have H0 := Lib.hid h0; clear h0
        by_cases hcT : c' = T
        · have hcT' : T = c' := hcT.symm
          clear hcT
          subst hcT'
          go_wp2_with (go_at_call 20; refine HW.out.mono ?_; rintro e w1 ⟨rfl, v1, hi1, hch1, hv1⟩; have HB1 := Lib.hid (HB.out.chg hch1 (fun h => h.elim hne hnv')); have d0 := HB1.out.cell 0; have g0 := HB1.out.free 0; simp only [List.getElem?_toArray, List.getElem?_cons_zero, List.getElem?_cons_succ] at d0)
          go_roundw
          case rel =>
            have hd0 : rest.drop T = [] := by have := HD.out; apply List.eq_nil_of_length_eq_zero; omega
            obtain ⟨k1, k2⟩ := HCo.out w1 v1 hch1 hv1
            have hwv1 : some wb ≠ v1.ownBlock := by
              rcases hv1 with h | h
              · rw [h]; exact hnv'
              · intro e; have := h wb e.symm; have := hch.size; omega
            have hb2 := HB1.out.set 0 (.int .i64 ((st'.content.length : Int) + T))
            refine ⟨⟨A', T - T, rest.drop T, v1, st2, by rw [HD.out, show rest.length - T = 0 by omega, show T - T = 0 by omega], by rw [hd0]; exact .inl rfl, by rw [HD.out]; omega, fun ad e hn => absurd hd0 hn, ?_, hi1.setOther hne hwv1.symm hnc, hok2, by rw [HD.out, HP.out]; omega, k1.setCell _ _ (fun _ => .inr (.inl rfl)), k2, HF.out⟩⟩
            rw [HP.out]; simpa using hb2
          case measure => simp [slLen]; omega
        · go_wp2_with (go_at_call 20; refine HW.out.mono ?_; rintro e w1 ⟨rfl, v1, hi1, hch1, hv1⟩; have HB1 := Lib.hid (HB.out.chg hch1 (fun h => h.elim hne hnv')); have d0 := HB1.out.cell 0; have g0 := HB1.out.free 0; simp only [List.getElem?_toArray, List.getElem?_cons_zero, List.getElem?_cons_succ] at d0)
          go_roundw
          case rel =>
            have hr2 := (HRn.out w1 hch1).drop T
            rw [← by8_drop] at hr2
            obtain ⟨k1, k2⟩ := HCo.out w1 v1 hch1 hv1
            have hwv1 : some wb ≠ v1.ownBlock := by
              rcases hv1 with h | h
              · rw [h]; exact hnv'
              · intro e; have := h wb e.symm; have := hch.size; omega
            have hb2 := HB1.out.set 0 (.int .i64 ((st'.content.length : Int) + T))
            have hoff2 : ∀ ad, Option.map (fun x => x.add T) A' = some ad → ad.block ≠ b ∧ ad.block ≠ wb ∧ some ad.block ≠ v.ownBlock ∧ ad.block < w.heap.size := by
              intro ad e
              obtain ⟨ad0, e0, rfl⟩ := Option.map_eq_some_iff.1 e
              have := hA2.out ad0 e0
              unfold Addr.add; split <;> simpa using this
            refine ⟨⟨_, c' - T, rest.drop T, v1, st2, by rw [HD.out], ?_, by rw [HD.out]; omega, fun ad e _ => hoff2 ad e, ?_, hi1.setOther hne hwv1.symm hnc, hok2, by rw [HD.out, HP.out]; omega, k1.setCell _ _ (fun _ => .inr (.inl rfl)), k2, HF.out⟩⟩
            · exact hr2.chg ((Chg.refl (fun k => k = wb) w1).setCell ⟨wb, 0, none⟩ _ (fun _ => rfl)) (fun ad e hh => (hoff2 ad e).2.1 hh)
            · rw [HP.out]; simpa using hb2
          case measure => simp [slLen]; omega
end Go.Proofs.Ytgbpoehhikiieaa
