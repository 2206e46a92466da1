/- The block reader's Next over a source without chunks and failures. -/
import Derived.Test.YtgbpoehhikiieaaNew
set_option linter.unusedVariables false
set_option linter.unusedSimpArgs false
namespace Go.Proofs.Ytgbpoehhikiieaa
open Go.RowKit

theorem rFail (b off : Nat) (e0 e : Int) (P : Value) (w : World) (h : Blk w b #[.int .i64 off, .int .i64 e0, P] 69) :
    Calls Try.prog 21 #[.pointer (some ⟨b, 0, none⟩), .int .i64 e] w fun x w' => x = .returned (.int .i64 e) ∧ w' = w.setCell ⟨b, 1, none⟩ (.int .i64 e) := by
  have c1 := h.cell 1
  have f1 := h.free 1
  simp only [List.getElem?_toArray, List.getElem?_cons_zero, List.getElem?_cons_succ] at c1
  go_enter Try.func21, Try.ntmps21
  go_wp2
  go_ret
  exact ⟨rfl, rfl⟩

theorem IsSrc.chg {S : Nat → Prop} {w w' : World} {b : Nat} {RA : Option Addr} {rc off reads : Nat} {l : List UInt8} (h : IsSrc w b RA rc l off reads) (c : Chg S w w') (hb : ¬ S b) (hR : ∀ ad, RA = some ad → ¬ S ad.block) : IsSrc w' b RA rc l off reads := by
  obtain ⟨⟨A, cc, hk⟩, hr, hcap, hne⟩ := h
  exact ⟨⟨A, cc, hk.chg c hb⟩, hr.chg c hR, hcap, hne⟩

structure NxState (w : World) (rb sb : Nat) (l : List UInt8) (m ro B : Nat) (wr : World) : Prop where
  out : ∃ RA rc off reads, IsSrc wr sb RA rc (l.drop m) off reads ∧ off ≤ B + m ∧ reads ≤ B + m ∧ Blk wr rb #[.int .i64 ((ro + m : Nat) : Int), .int .i64 0, .pointer (some ⟨sb, 0, none⟩)] 69 ∧
    (∀ ad, RA = some ad → ad.block ≠ rb ∧ ad.block < w.heap.size) ∧ Chg (fun k => k = rb ∨ k = sb) w wr

structure NxLoop (w : World) (rb sb : Nat) (l : List UInt8) (ro B : Nat) (bv : Value) (wr : World) : Prop where
  out : ∃ g cap m, bv = .slice (some ⟨g, 0, none⟩) m cap ∧ m ≤ 512 ∧ m ≤ l.length ∧ wr.ownsRow 0 5 1 (.slice (some ⟨g, 0, none⟩) m cap) m (by8 (l.take m)) ∧ w.heap.size ≤ g ∧ NxState w rb sb l m ro B wr

def NxPost (w : World) (rb sb : Nat) (l : List UInt8) (ro B : Nat) (e : Ending) (w' : World) : Prop :=
  (512 ≤ l.length ∧ ∃ A' c', e = .returned (.tuple #[.slice A' 512 c', .int .i64 0]) ∧ NxState w rb sb l 512 ro B w') ∨
  (l.length < 512 ∧ e = .returned (.tuple #[.slice none 0 0, .int .i64 5]) ∧ Chg (fun k => k = rb ∨ k = sb) w w')

set_option maxHeartbeats 1000000 in
set_option maxRecDepth 100000 in
theorem rdNext (rb sb : Nat) (l : List UInt8) (ro B : Nat) (w : World) (h : NxState w rb sb l 0 ro B w) (hB : B ≤ 50000) (hne : rb ≠ sb) (hl : l ≠ []) (hl2 : l.length ≤ 100000) (hro : ro ≤ 1000) :
    Calls Try.prog 18 #[.pointer (some ⟨rb, 0, none⟩)] w (NxPost w rb sb l ro B) := by
  obtain ⟨i0, hi, hz0, hz1, hz2⟩ := info_parts infoU8
  have hH := Lib.hid h
  obtain ⟨RA, rc, off, reads, h1, h2, h3, h4, h5, h6⟩ := h.out
  have c1 := h4.cell 1
  simp only [List.getElem?_toArray, List.getElem?_cons_zero, List.getElem?_cons_succ] at c1
  have hsbl : sb < w.heap.size := by obtain ⟨⟨A, c, hb⟩, _⟩ := h1; exact hb.lt
  have hrbl : rb < w.heap.size := h4.lt
  clear h h1 h2 h3 h4 h5 h6
  go_enter Try.func18, Try.ntmps18
  go_wp2_with (first | (at_make; refine wpList_make_own _ rfl (.const (.int .i64 0)) (.const (.int .i64 512)) 36 rfl 0 5 i0 (.int .u8 0) 1 Try.underlying36 hi hz0 hz1 .i64 .i64 512 512 rfl rfl rfl ?b1 (by unfold maxLen; omega) (Nat.zero_le _) ?_))
  case b1 => rw [hz2]; omega
  intro w1 hown hgrow
  clear c1
  have hc1 : Chg (fun _ => False) w w1 := (Chg.of_grown hgrow).mono (fun _ _ h => by cases h)
  have hst : NxLoop w rb sb l ro B (.slice (some ⟨w.heap.size, 0, none⟩) 0 512) w1 := by
    obtain ⟨RA, rc, off, reads, ⟨⟨A, c, hb⟩, hr, hcap, hne2⟩, h2, h3, h4, h5, h6⟩ := hH.out.out
    refine ⟨⟨w.heap.size, 512, 0, rfl, by omega, by omega, by simpa [by8] using hown, Nat.le_refl _, ⟨⟨RA, rc, off, reads, ⟨⟨A, c, hb.chg hc1 (fun h => h)⟩, hr.chg hc1 (fun _ _ h => h), hcap, hne2⟩, h2, h3, h4.chg hc1 (fun h => h), h5, hc1.mono (fun _ _ h => h.elim)⟩⟩⟩⟩
  have HS := Lib.hid hst; clear hst hown hgrow hc1
  go_wp2_with fail
  go_loopw [4] (fun bv wr => NxLoop w rb sb l ro B bv wr) (fun bv _ => 512 - slLen bv)
  case atStart => exact HS.out
  case round =>
    obtain ⟨g, cap, m, rfl, hm, hml, hown, hg, hst⟩ := hrel.out
    obtain ⟨RA, rc, off, reads, hsrc, hoff, hreads, hblk, hRA, hch⟩ := hst.out
    clear hrel HS
    have c0 := hblk.cell 0
    have c2 := hblk.cell 2
    have f0 := hblk.free 0
    have f1 := hblk.free 1
    simp only [List.getElem?_toArray, List.getElem?_cons_zero, List.getElem?_cons_succ] at c0 c2
    by_cases h512 : m = 512
    · subst h512
      have HT := Lib.hid hst
      go_wp2_with fail
      go_ret2
      exact .inl ⟨hml, _, _, rfl, HT.out⟩
    · have hm2 : m < 512 := by omega
      have hmi : (m : Int) < 512 := by omega
      have hsub : (512 : Int) - (m : Int) = ((512 - m : Nat) : Int) := by omega
      have HSub := Lib.hid hsub; clear hsub h512
      by_cases hend : m = l.length
      · have hl0 : 0 < m := by
          have : 0 < l.length := by cases hh : l with | nil => exact absurd hh hl | cons a t => simp
          omega
        have hlz : ((m : Int) > 0) := by omega
        have hd0 : l.drop m = [] := List.drop_eq_nil_of_le (by omega)
        rw [hd0] at hsrc
        have hll : l.length < 512 := by omega
        clear hend hd0
        have HSrc := Lib.hid hsrc; clear hsrc
        have HB := Lib.hid hblk; clear hblk
        go_wp2_with fail
        rewrite [HSub.out]
        refine (srcRead_end sb RA rc off reads (512 - m) _ HSrc.out (by omega)).mono ?_
        rintro e w2 ⟨rfl, q, rfl⟩
        go_wp2_with fail
        refine (rFail rb (ro + m) 0 5 (.pointer (some ⟨sb, 0, none⟩)) _ (HB.out.drewN q)).mono ?_
        rintro e w3 ⟨rfl, rfl⟩
        go_wp2_with fail
        go_ret2
        exact .inr ⟨hll, rfl, (hch.setCell ⟨rb, 1, none⟩ (.int .i64 5) (fun _ => .inl rfl)).drewN q⟩
      · have hne2 : l.drop m ≠ [] := by intro e; have := List.drop_eq_nil_iff.1 e; omega
        have hdl : (l.drop m).length = l.length - m := List.length_drop ..
        have hread := srcRead_some sb RA rc off reads (512 - m) (min (512 - m) (l.drop m).length) (l.drop m) wr hsrc (by omega) (by omega) hne2 (by omega) rfl (by omega) (by omega)
        have hk0 : 0 < min (512 - m) (l.drop m).length := by omega
        have hk1 : min (512 - m) (l.drop m).length ≤ 512 - m := by omega
        have hk2 : min (512 - m) (l.drop m).length ≤ l.length - m := by omega
        generalize min (512 - m) (l.drop m).length = k at *
        clear hdl hne2 hend
        have HRead := Lib.hid hread; clear hread
        have HSrc := Lib.hid hsrc; clear hsrc
        have HB := Lib.hid hblk; clear hblk
        have HOwn := Lib.hid hown; clear hown
        have hrbw : rb < wr.heap.size := HB.out.lt
        have hgw := (HOwn.out.lt g rfl).2
        go_wp2_with fail
        rewrite [HSub.out]
        refine HRead.out.mono ?_
        rintro e w2 ⟨A', c', RA', rc', rfl, r1, r2, r3, r4, r5⟩
        have hb2 := HB.out.chg r4 hne
        have d0 := hb2.cell 0
        have g0 := hb2.free 0
        simp only [List.getElem?_toArray, List.getElem?_cons_zero] at d0
        obtain ⟨k1, rfl⟩ : ∃ k1, A' = some ⟨k1, 0, none⟩ := by
          rcases r1.2 with ⟨h, h'⟩ | ⟨g, cap, cur, h, _⟩
          · omega
          · injection h with h; exact ⟨g, h⟩
        have hown2 := own_chg HOwn.out r4 (fun i hi e => by have := own_blk_eq hi; omega)
        have hnl : (by8 ((l.drop m).take k)).length = k * 1 := by rw [by8_length, List.length_take, List.length_drop]; omega
        have hnews := r1.cells (g := k1) rfl
        have HNL := Lib.hid hnl; clear hnl
        have HNews := Lib.hid hnews; clear hnews
        have HR2 := Lib.hid r2; have HR3 := Lib.hid r3; have HR4 := Lib.hid r4; have HR5 := Lib.hid r5; have HO2 := Lib.hid hown2; have HR1 := Lib.hid r1
        have HOne := Lib.hid (by8_one ((l.drop m).take k))
        have hrb2 := hb2.lt
        have HB2 := Lib.hid hb2
        have hsz := r4.size
        clear r1 r2 r3 r4 r5 hown2 hb2 c0 c2 f0 f1
        go_wp2_with (first | (at_builtin; refine wpList_append_lies _ rfl (.tmp 57) (.tmp 58) 36 rfl 0 5 i0 (.int .u8 0) 1 1 Try.underlying36 hi hz0 hz1 hz2 rfl (by decide) (.slice (some ⟨g, 0, none⟩) m cap) m (by8 (l.take m)) rfl HO2.out ⟨k1, 0, none⟩ k c' (by8 ((l.drop m).take k)) rfl HNL.out HNews.out HOne.out hk0 (by unfold maxLen; omega) (by omega) (Nat.zero_le _) _ rfl ?_; intro g2 cap2 w3 q1 q2 q3 q4; have hc3 := Lib.hid ((Chg.of_grown q2).mono (U := fun i => i = g) (fun i _ e => (own_blk_eq e.symm).symm)); have d1 := (HB2.out.chg hc3.out (fun e => by omega)).cell 0; have g1 := (HB2.out.chg hc3.out (fun e => by omega)).free 0; simp only [List.getElem?_toArray, List.getElem?_cons_zero] at d1; have HQ1 := Lib.hid q1; have hg2 : w.heap.size ≤ g2 := own_or q3 hg (by omega); clear q1 q2 q3 d0 g0))
        go_roundw
        case rel =>
          have hmk : by8 (l.take m) ++ by8 ((l.drop m).take k) = by8 (l.take (m + k)) := by rw [← by8_append, List.take_add]
          have hb3 := (HB2.out.chg hc3.out (fun e => by omega)).set 0 (.int .i64 (((ro + m : Nat) : Int) + k))
          have hcs : Chg (fun i => i = rb) w3 (w3.setCell ⟨rb, 0, none⟩ (.int .i64 (((ro + m : Nat) : Int) + k))) := (Chg.refl (fun i => i = rb) w3).setCell ⟨rb, 0, none⟩ _ (fun _ => rfl)
          have hRA2 : ∀ ad, RA' = some ad → ad.block ≠ rb ∧ ad.block < w.heap.size := by
            intro ad e
            obtain ⟨ad0, e0, he⟩ := HR5.out ad e
            rw [he]; exact hRA ad0 e0
          have hsrc3 := (HR3.out.chg hc3.out (fun e => by omega) (fun ad e hh => by have := hRA2 ad e; omega)).chg hcs (fun e => hne e.symm) (fun ad e hh => (hRA2 ad e).1 hh)
          rw [List.drop_drop] at hsrc3
          have hown3 := own_chg HQ1.out hcs (fun i hi e => by have := own_blk_eq hi; omega)
          rw [hmk] at hown3
          refine ⟨⟨g2, cap2, m + k, rfl, by omega, by omega, hown3, hg2, ⟨⟨RA', rc', off + k, reads + 1, hsrc3, by omega, by omega, ?_, hRA2, ?_⟩⟩⟩⟩
          · rw [show (((ro + (m + k) : Nat)) : Int) = ((ro + m : Nat) : Int) + k by omega]
            simpa using hb3
          · exact ((hch.trans (U := fun i => i = rb ∨ i = sb) HR4.out (fun _ _ h => h) (fun _ _ h => .inr h)).trans (U := fun i => i = rb ∨ i = sb) hc3.out (fun _ _ h => h) (fun i hi e => by omega)).setCell ⟨rb, 0, none⟩ _ (fun _ => .inl rfl)
        case measure => simp [slLen]; omega
end Go.Proofs.Ytgbpoehhikiieaa
