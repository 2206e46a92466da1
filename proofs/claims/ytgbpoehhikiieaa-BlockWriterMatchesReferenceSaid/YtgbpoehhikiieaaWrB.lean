/- Both writers' Write as one contract each. -/
import Derived.Test.YtgbpoehhikiieaaWrA
set_option linter.unusedVariables false
set_option linter.unusedSimpArgs false
namespace Go.Proofs.Ytgbpoehhikiieaa
open Go.RowKit

theorem IsRef.setOther {w : World} {b wb o : Nat} {v u : Value} {CA : Option Addr} {cc : Nat} {st : SinkSt} (h : IsRef w b v CA cc st) (hne : wb ≠ b) (hv : v.ownBlock ≠ some wb) (hc : ∀ ad, CA = some ad → ad.block ≠ wb) :
    IsRef (w.setCell ⟨wb, o, none⟩ u) b v CA cc st := by
  have hch : Chg (fun k => k = wb) w (w.setCell ⟨wb, o, none⟩ u) := (Chg.refl _ w).setCell _ _ (fun _ => rfl)
  exact ⟨h.nil, h.blk.chg hch (fun e => hne e.symm), h.chunks.chg hch (fun ad e hh => hc ad e hh), own_chg h.row hch (fun k hk e => hv (e ▸ hk)), h.ne, fun ad e => Nat.lt_of_lt_of_le (h.clt ad e) hch.size, h.cne⟩

theorem wrWrite (wb b : Nat) (v : Value) (CA A : Option Addr) (cc c : Nat) (st : SinkSt) (err : Int) (l : List UInt8) (w : World)
    (hw : Blk w wb #[.int .i64 (st.content.length : Int), .int .i64 err, .pointer (some ⟨b, 0, none⟩)] 63) (h : IsSink w b v CA cc st) (ok : SinkOk st)
    (hl : Rd w A (by8 l)) (hsz : st.content.length + l.length ≤ 100000000) (hcap : l.length ≤ c)
    (hA : ∀ ad, A = some ad → l ≠ [] → ad.block ≠ b ∧ ad.block ≠ wb ∧ some ad.block ≠ v.ownBlock ∧ ad.block < w.heap.size) (hne : wb ≠ b) (hnv : some wb ≠ v.ownBlock) (hnc : ∀ ad, CA = some ad → ad.block ≠ wb) :
    Calls Try.prog 8 #[.pointer (some ⟨wb, 0, none⟩), .slice A l.length c] w fun e w' => e = .returned (.int .i64 (wstep st err l).2) ∧
      ∃ v', IsSink w' b v' CA cc (wstep st err l).1 ∧ Blk w' wb #[.int .i64 ((wstep st err l).1.content.length : Int), .int .i64 (wstep st err l).2, .pointer (some ⟨b, 0, none⟩)] 63 ∧
        Chg (fun k => k = b ∨ k = wb ∨ some k = v.ownBlock) w w' ∧ (v'.ownBlock = v.ownBlock ∨ ∀ k, v'.ownBlock = some k → w.heap.size ≤ k) := by
  by_cases he : err = 0
  · subst he
    have e : wstep st 0 l = st.all l := by simp [wstep]
    rw [e]
    exact wrWrite_ok wb b v CA A cc c st l w hw h ok hl hsz hcap hA hne hnv hnc
  · have e : wstep st err l = (st, err) := by simp [wstep, he]
    rw [e]
    refine (wrWrite_err wb _ err _ _ w hw (by simpa using he)).mono ?_
    rintro e w' ⟨rfl, rfl⟩
    exact ⟨rfl, v, h, hw, Chg.refl _ _, .inl rfl⟩

theorem mrWrite_err (wb : Nat) (off : Nat) (err : Int) (P A : Value) (w : World) (hw : Blk w wb #[P, .int .i64 off, .int .i64 err] 35) (he : (err == 0) = false) :
    Calls Try.prog 9 #[.pointer (some ⟨wb, 0, none⟩), A] w fun e w' => e = .returned (.int .i64 err) ∧ w' = w := by
  have c2 := hw.cell 2
  simp only [List.getElem?_toArray, List.getElem?_cons_zero, List.getElem?_cons_succ] at c2
  have he2 : (err != 0) = true := by simpa using he
  go_enter Try.func9, Try.ntmps9
  go_wp2_with fail
  go_ret
  exact ⟨rfl, rfl⟩

theorem all_len (st : SinkSt) (l : List UInt8) : st.content.length ≤ (st.all l).1.content.length ∧ (st.all l).1.content.length ≤ st.content.length + l.length := by
  induction h : l.length using Nat.strongRecOn generalizing st l with
  | _ n ih =>
    by_cases h0 : l = []
    · subst h0; rw [all_nil]; exact ⟨Nat.le_refl _, Nat.le_add_right _ _⟩
    · by_cases h1 : st.took l = 0
      · rw [all_full h0 h1]; exact ⟨Nat.le_refl _, Nat.le_add_right _ _⟩
      · rw [all_step h0 h1]
        have hp := put_len st l
        have ht := took_le st l
        have hpos : 0 < l.length := by cases hh : l with | nil => exact absurd hh h0 | cons a t => simp
        have hd : (l.drop (st.took l)).length = l.length - st.took l := List.length_drop ..
        have := ih _ (by omega) (st.put l) (l.drop (st.took l)) hd
        omega

theorem all_ok {st : SinkSt} (ok : SinkOk st) (l : List UInt8) : SinkOk (st.all l).1 := by
  induction h : l.length using Nat.strongRecOn generalizing st l with
  | _ n ih =>
    by_cases h0 : l = []
    · subst h0; rw [all_nil]; exact ok
    · by_cases h1 : st.took l = 0
      · rw [all_full h0 h1]; exact ok
      · rw [all_step h0 h1]
        have hpos : 0 < l.length := by cases hh : l with | nil => exact absurd hh h0 | cons a t => simp
        have hd : (l.drop (st.took l)).length = l.length - st.took l := List.length_drop ..
        exact ih _ (by omega) (SinkSt.put_ok ok l) (l.drop (st.took l)) hd

set_option maxHeartbeats 1000000 in
theorem mrWrite_ok (wb b : Nat) (v : Value) (CA A : Option Addr) (cc c : Nat) (st : SinkSt) (l : List UInt8) (w : World)
    (hw : Blk w wb #[.pointer (some ⟨b, 0, none⟩), .int .i64 (st.content.length : Int), .int .i64 0] 35) (h : IsRef w b v CA cc st) (ok : SinkOk st)
    (hl : Rd w A (by8 l)) (hsz : st.content.length + l.length ≤ 100000000) (hcap : l.length ≤ c)
    (hA : ∀ ad, A = some ad → l ≠ [] → ad.block ≠ b) (hne : wb ≠ b) (hnv : some wb ≠ v.ownBlock) (hnc : ∀ ad, CA = some ad → ad.block ≠ wb) :
    Calls Try.prog 9 #[.pointer (some ⟨wb, 0, none⟩), .slice A l.length c] w fun e w' => e = .returned (.int .i64 (st.all l).2) ∧
      ∃ v', IsRef w' b v' CA cc (st.all l).1 ∧ Blk w' wb #[.pointer (some ⟨b, 0, none⟩), .int .i64 ((st.all l).1.content.length : Int), .int .i64 (st.all l).2] 35 ∧
        Chg (fun k => k = b ∨ k = wb) w w' ∧ (v' = v ∨ ∀ k, v'.ownBlock = some k → w.heap.size ≤ k) := by
  have c0 := hw.cell 0
  have c1 := hw.cell 1
  have c2 := hw.cell 2
  simp only [List.getElem?_toArray, List.getElem?_cons_zero, List.getElem?_cons_succ] at c0 c1 c2
  obtain ⟨VA, vcap, hv, hvc, _⟩ := own_form h.row
  have b0 := h.blk.cell 0
  simp only [List.getElem?_toArray, List.getElem?_cons_zero, List.getElem?_cons_succ, hv] at b0
  have hcall := refWriteAll b v CA A cc c st l w h ok hl hsz hcap hA
  have hlen := all_len st l
  have hwlt := hw.lt
  generalize st.all l = p at *
  obtain ⟨st2, e2⟩ := p
  simp only at hcall hlen ⊢
  obtain ⟨hlen1, hlen2⟩ := hlen
  have HW := Lib.hid hcall; clear hcall
  have HB := Lib.hid hw; clear hw
  have HH := Lib.hid h; clear h
  have HV := Lib.hid hv; clear hv
  clear hA hl
  go_enter Try.func9, Try.ntmps9
  go_wp2_with (go_at_call 22; refine HW.out.mono ?_; rintro e w1 ⟨rfl, v1, hi1, hch1, hv1⟩; have HB1 := Lib.hid (HB.out.chg hch1 (fun h => hne h)); have d0 := HB1.out.cell 0; have d1 := HB1.out.cell 1; have d2 := HB1.out.cell 2; have g1 := HB1.out.free 1; have g2 := HB1.out.free 2; have k0 := hi1.blk.cell 0; simp only [List.getElem?_toArray, List.getElem?_cons_zero, List.getElem?_cons_succ] at d0 d1 d2 k0; obtain ⟨VA1, vcap1, hv1e, hvc1, _⟩ := own_form hi1.row; rw [hv1e] at k0; have HV1 := Lib.hid hv1e; clear hv1e)
  have hwv1 : some wb ≠ v1.ownBlock := by
    rcases hv1 with h | h
    · rw [h]; exact hnv
    · intro e; have := h wb e.symm; omega
  have hi2 := hi1.setOther (o := 2) (u := .int .i64 e2) hne hwv1.symm hnc
  have hB2 := HB1.out.set 2 (.int .i64 e2)
  have hch2 := (hch1.mono (U := fun k => k = b ∨ k = wb) (fun _ _ h => .inl h)).setCell ⟨wb, 2, none⟩ (.int .i64 e2) (fun _ => .inr rfl)
  clear d0 d1 d2 k0 g1 g2
  generalize w1.setCell ⟨wb, 2, none⟩ (.int .i64 e2) = w2 at *
  have d0 := hB2.cell 0
  have d1 := hB2.cell 1
  have d2 := hB2.cell 2
  have g1 := hB2.free 1
  have k0 := hi2.blk.cell 0
  simp at d0 d1 d2 k0
  rw [HV1.out] at k0
  have HI2 := Lib.hid hi2; clear hi2
  have HB2 := Lib.hid hB2; clear hB2
  go_still_tail 17, (by kernel_rfl)
  go_wp2
  go_ret
  have hb3 := HB2.out.set 1 (.int .i64 (st2.content.length : Int))
  refine ⟨rfl, v1, ?_⟩
  rw [show (st.content.length : Int) + ((st2.content.length : Int) - (st.content.length : Int)) = (st2.content.length : Int) from by omega]
  refine ⟨(HI2.out.setOther hne hwv1.symm hnc).drewN 1, ?_, (hch2.setCell ⟨wb, 1, none⟩ _ (fun _ => .inr rfl)).drew, hv1⟩
  exact Blk.drew (by simpa using hb3)

theorem mrWrite (wb b : Nat) (v : Value) (CA A : Option Addr) (cc c : Nat) (st : SinkSt) (err : Int) (l : List UInt8) (w : World)
    (hw : Blk w wb #[.pointer (some ⟨b, 0, none⟩), .int .i64 (st.content.length : Int), .int .i64 err] 35) (h : IsRef w b v CA cc st) (ok : SinkOk st)
    (hl : Rd w A (by8 l)) (hsz : st.content.length + l.length ≤ 100000000) (hcap : l.length ≤ c)
    (hA : ∀ ad, A = some ad → l ≠ [] → ad.block ≠ b) (hne : wb ≠ b) (hnv : some wb ≠ v.ownBlock) (hnc : ∀ ad, CA = some ad → ad.block ≠ wb) :
    Calls Try.prog 9 #[.pointer (some ⟨wb, 0, none⟩), .slice A l.length c] w fun e w' => e = .returned (.int .i64 (wstep st err l).2) ∧
      ∃ v', IsRef w' b v' CA cc (wstep st err l).1 ∧ Blk w' wb #[.pointer (some ⟨b, 0, none⟩), .int .i64 ((wstep st err l).1.content.length : Int), .int .i64 (wstep st err l).2] 35 ∧
        Chg (fun k => k = b ∨ k = wb) w w' ∧ (v' = v ∨ ∀ k, v'.ownBlock = some k → w.heap.size ≤ k) := by
  by_cases he : err = 0
  · subst he
    have e : wstep st 0 l = st.all l := by simp [wstep]
    rw [e]
    exact mrWrite_ok wb b v CA A cc c st l w hw h ok hl hsz hcap hA hne hnv hnc
  · have e : wstep st err l = (st, err) := by simp [wstep, he]
    rw [e]
    refine (mrWrite_err wb _ err _ _ w hw (by simpa using he)).mono ?_
    rintro e w' ⟨rfl, rfl⟩
    exact ⟨rfl, v, h, hw, Chg.refl _ _, .inl rfl⟩

end Go.Proofs.Ytgbpoehhikiieaa
