/- 'alive': the chapter's examples hold. -/
import Derived.Test.YtgbpoehhikiieaaNext
import Derived.Lib.SlBytesConst
set_option linter.unusedVariables false
set_option linter.unusedSimpArgs false
namespace Go.Proofs.Ytgbpoehhikiieaa
open Go.RowKit

theorem all_open (f : Int) (content : List UInt8) (writes : Nat) (l : List UInt8) (hf : f < 0) (hl : l.length ≤ 1048576) (h0 : l ≠ []) :
    (SinkSt.mk [] f content writes).all l = (⟨[], f, content ++ l, writes + 1⟩, 0) := by
  have hpos : 0 < l.length := by cases hh : l with | nil => exact absurd hh h0 | cons a t => simp
  have hch : chunkOf [] writes = 1048576 := by simp [chunkOf]
  have hr : roomOf [] f content.length writes = 1048576 := by unfold roomOf; rw [if_neg (fun h => by omega), hch]
  have ht : (SinkSt.mk [] f content writes).took l = l.length := by
    show (mn2 (l.length : Int) (roomOf [] f content.length writes)).toNat = l.length
    rw [hr]; unfold mn2; split <;> omega
  rw [all_step h0 (by omega), ht, List.drop_length, all_nil]
  simp only [SinkSt.put, ht, if_pos hpos, SinkSt.next, List.take_length]

theorem IsSink.chg {S : Nat → Prop} {w w' : World} {b : Nat} {v : Value} {CA : Option Addr} {cc : Nat} {st : SinkSt} (h : IsSink w b v CA cc st) (c : Chg S w w') (hb : ¬ S b) (hv : ∀ k, v.ownBlock = some k → ¬ S k) (hC : Off CA S) : IsSink w' b v CA cc st :=
  ⟨h.blk.chg c hb, h.chunks.chg c hC, own_chg h.row c hv, h.ne, fun ad e => Nat.lt_of_lt_of_le (h.clt ad e) c.size, h.cne⟩

set_option maxHeartbeats 4000000 in
theorem alive_any (w : World) : Calls Try.prog 4 #[] w fun e w' => e = .returned (.bool true) ∧ Chg (fun _ => False) w w' := by
  obtain ⟨i0, hi, hz0, hz1, hz2⟩ := info_parts infoU8
  go_enter Try.func4, Try.ntmps4
  go_wp2_with (first | (at_make; refine wpList_make_full _ rfl (.const (.int .i64 600)) (.const (.int .i64 600)) 36 rfl 0 5 i0 (.int .u8 0) 1 Try.underlying36 hi hz0 hz1 .i64 .i64 600 600 600 rfl rfl rfl rfl ?b1 (by unfold maxLen; omega) (Nat.zero_le _) ?_))
  case b1 => rw [hz2]; omega
  intro w1 hown hgrow
  have hc1 : Chg (fun _ => False) w w1 := (Chg.of_grown hgrow).mono (fun _ _ h => by cases h)
  obtain ⟨l, hll, hown'⟩ : ∃ l : List UInt8, l.length = 600 ∧ w1.ownsRow 0 5 1 (.slice (some ⟨w.heap.size, 0, none⟩) 600 600) 600 (by8 l) := ⟨List.replicate 600 0, List.length_replicate .., by rw [← made_zeros]; simpa using hown⟩
  have HLL := Lib.hid hll
  have hrd := Rd.of_own hown' rfl
  have hsrc := srcNew (some ⟨w.heap.size, 0, none⟩) 600 600 l w1 hrd hll (by omega) (fun h => by cases h)
  clear hown hown' hrd hgrow hll
  have HS := Lib.hid hsrc; clear hsrc
  go_wp2_with fail
  refine HS.out.mono ?_
  rintro e w2 ⟨kb, RA, rc, rfl, s1, s2, s3, s4, s5⟩
  have hc2 := hc1.trans (U := fun _ => False) s2 (fun _ _ h => h) (fun _ _ h => h)
  have HS1 := Lib.hid (And.intro s1 s5); clear s1 s2 s5 HS
  go_wp2_with fail
  refine (rdNew kb w2).mono ?_
  rintro e w3 ⟨rfl, r1, r2⟩
  have hc3 := hc2.trans (U := fun _ => False) r2 (fun _ _ h => h) (fun _ _ h => h)
  have HR := Lib.hid (And.intro r1 r2); clear r1 r2
  go_wp2_with fail
  refine (sinkNew none 0 0 [] (-1) w3 (.inl rfl) rfl (by omega) (fun _ => rfl)).mono ?_
  rintro e w4 ⟨sb, CA, cc, rfl, t1, t2, t3, t4⟩
  have hc4 := hc3.trans (U := fun _ => False) t2 (fun _ _ h => h) (fun _ _ h => h)
  have HT := Lib.hid (And.intro t1 (And.intro t2 t4)); clear t1 t2 t4
  go_wp2_with fail
  refine (wrNew sb w4).mono ?_
  rintro e w5 ⟨rfl, v1, v2⟩
  have hc5 := hc4.trans (U := fun _ => False) v2 (fun _ _ h => h) (fun _ _ h => h)
  have HV := Lib.hid (And.intro v1 v2); clear v1 v2
  go_wp2_with fail
  obtain ⟨s1, s5⟩ := HS1.out
  obtain ⟨r1, r2⟩ := HR.out
  obtain ⟨t1, t2, t4⟩ := HT.out
  obtain ⟨v1, v2⟩ := HV.out
  have hc25 : Chg (fun _ => False) w2 w5 := (r2.trans (U := fun _ => False) t2 (fun _ _ h => h) (fun _ _ h => h)).trans v2 (fun _ _ h => h) (fun _ _ h => h)
  have hc35 : Chg (fun _ => False) w3 w5 := t2.trans v2 (fun _ _ h => h) (fun _ _ h => h)
  have hz2 := r2.size
  have hz3 := t2.size
  have hz4 := v2.size
  have hr3 := r1.lt
  have hv5 := v1.lt
  have hst : NxState w5 w2.heap.size kb l 0 0 0 w5 := ⟨⟨RA, rc, 0, 0, s1.chg hc25 (fun h => h) (fun _ _ h => h), by omega, by omega, r1.chg hc35 (fun h => h), fun ad e => by have := s5 ad e; omega, Chg.refl _ _⟩⟩
  have hsink5 : IsSink w5 sb (.slice none 0 0) CA cc ⟨[], -1, [], 0⟩ := t1.keep v2
  have hsb4 := t1.blk.lt
  have hca5 := t1.clt
  have HA := Lib.hid (And.intro hsink5 (And.intro v1 (And.intro t4 hca5)))
  have hln : l ≠ [] := by intro e; have := HLL.out; rw [e] at this; simp at this
  have hnx := rdNext w2.heap.size kb l 0 0 w5 hst (by omega) (by omega) hln (by rw [HLL.out]; omega) (by omega)
  have HN := Lib.hid hnx
  clear hnx hst hsink5 s1 s5 r1 r2 t1 t2 t4 v1 v2 hc25 hc35 hca5 HS1 HR HT HV hln hz2
  refine HN.out.mono ?_
  rintro e w6 hp
  obtain ⟨A6, c6, rfl, hst6⟩ : ∃ A' c', e = .returned (.tuple #[.slice A' 512 c', .int .i64 0]) ∧ NxState w5 w2.heap.size kb l 512 0 0 w6 := by
    rcases hp with ⟨_, h⟩ | ⟨h, _⟩
    · exact h
    · rw [HLL.out] at h; omega
  clear hp HN
  obtain ⟨RA6, rc6, off6, reads6, x1, x2, x3, x4, x5, x6⟩ := hst6.out
  have hst7 : NxState w6 w2.heap.size kb (l.drop 512) 0 512 512 w6 := ⟨⟨RA6, rc6, off6, reads6, by simpa using x1, by omega, by omega, by simpa using x4, fun ad e => ⟨(x5 ad e).1, Nat.lt_of_lt_of_le (x5 ad e).2 x6.size⟩, Chg.refl _ _⟩⟩
  have hdl : (l.drop 512).length = 88 := by rw [List.length_drop, HLL.out]
  have hdn : l.drop 512 ≠ [] := by intro e; rw [e] at hdl; simp at hdl
  have hnx := rdNext w2.heap.size kb (l.drop 512) 512 512 w6 hst7 (by omega) (by omega) hdn (by omega) (by omega)
  have HN := Lib.hid hnx
  have HX6 := Lib.hid x6
  have HDL := Lib.hid hdl
  clear hnx hst7 hst6 x1 x2 x3 x4 x5 x6 hdn hdl
  go_wp2_with fail
  refine HN.out.mono ?_
  rintro e w7 hp
  obtain ⟨rfl, hx7⟩ : e = .returned (.tuple #[.slice none 0 0, .int .i64 5]) ∧ Chg (fun k => k = w2.heap.size ∨ k = kb) w6 w7 := by
    rcases hp with ⟨h, _⟩ | ⟨_, h⟩
    · rw [HDL.out] at h; omega
    · exact h
  clear hp HN
  have hx57 : Chg (fun k => k = w2.heap.size ∨ k = kb) w5 w7 := HX6.out.trans hx7 (fun _ _ h => h) (fun _ _ h => h)
  have HX7 := Lib.hid hx57
  clear hx7
  have hz57 := hx57.size
  clear hx57
  have kc := fun (W : World) (C : Array Value) (n c : Nat) => Lib.run_convert_bytes_const (P := Try.prog) W 36 5 C n c Try.underlying36 Try.underlying5
  go_wp2_with fail
  obtain ⟨a1, a2, a3, a4⟩ := HA.out
  have hb7 : Blk w7 w4.heap.size #[.int .i64 0, .int .i64 0, .pointer (some ⟨sb, 0, none⟩)] 63 := a2.chg HX7.out (fun h => by omega)
  have hsbge : w3.heap.size ≤ sb := t3
  have hs7 : IsSink w7 sb (.slice none 0 0) CA cc ⟨[], -1, [], 0⟩ := a1.chg HX7.out (fun h => by omega) (fun k hk => by cases hk) (fun ad e h => by have := a3 ad e; omega)
  have hal : Chg (fun _ => False) w7 (w7.alloc (.cells #[.int .u8 97, .int .u8 98, .int .u8 99] 5 (3, 4))) := (Chg.refl _ _).alloc _
  have hcell : ∀ j u, (by8 [97, 98, 99])[j]? = some u → (w7.alloc (.cells #[.int .u8 97, .int .u8 98, .int .u8 99] 5 (3, 4))).cell? ⟨w7.heap.size, 0 + j, none⟩ = some u := by
    intro j u hu
    rw [Nat.zero_add]
    simp only [World.cell?, World.alloc, Array.getElem?_push_size]
    simpa [by8] using hu
  have hsz8 : (w7.alloc (.cells #[.int .u8 97, .int .u8 98, .int .u8 99] 5 (3, 4))).heap.size = w7.heap.size + 1 := by simp
  have hcaw : ∀ ad, CA = some ad → ad.block < w4.heap.size := a4
  have hc7 : Chg (fun _ => False) w w7 := hc5.trans HX7.out (fun _ _ h => h) (fun i hi h => by have := hc2.size; have := hc1.size; omega)
  have e1 : wstep ⟨[], -1, [], 0⟩ 0 [97, 98, 99] = (⟨[], -1, [97, 98, 99], 1⟩, 0) := by
    have := all_open (-1) [] 0 [97, 98, 99] (by omega) (by decide) (by simp)
    simp only [wstep]; simpa using this
  have ok0 : SinkOk ⟨[], -1, [], 0⟩ := ⟨by simp, fun x h => by simp at h, by simp, by simp, fun h => by simp at h⟩
  have ok1 : SinkOk ⟨[], -1, [97, 98, 99], 1⟩ := ⟨by simp, fun x h => by simp at h, by simp, by simp, fun h => by simp at h⟩
  have hwr := wrWrite w4.heap.size sb (.slice none 0 0) CA (some ⟨w7.heap.size, 0, none⟩) cc 3 ⟨[], -1, [], 0⟩ 0 [97, 98, 99] _ (hb7.chg hal (fun h => h)) (hs7.keep hal) ok0 (.inr ⟨_, _, rfl, hcell⟩) (by simp) (by simp)
    (fun ad e _ => by cases e; exact ⟨by simp only; omega, by simp only; omega, fun h => by simp [Value.ownBlock] at h, by simp⟩) (by omega) (by simp [Value.ownBlock]) (fun ad e => by have := hcaw ad e; omega)
  rw [e1] at hwr
  have HW := Lib.hid hwr
  have HC7 := Lib.hid hc7
  have HAL := Lib.hid hal
  clear hwr hb7 hs7 hal hcell hc7 a1 a2 a3 a4 kc
  refine HW.out.mono ?_
  rintro e w9 ⟨rfl, v9, y1, y2, y3, y4⟩
  have hc9 : Chg (fun k => k = sb ∨ k = w4.heap.size) w7 w9 := HAL.out.trans y3 (fun _ _ h => h.elim) (fun i hi h => by
    rcases h with h | h | h
    · exact .inl h
    · exact .inr h
    · simp [Value.ownBlock] at h)
  have hv9 : ∀ k, v9.ownBlock = some k → w7.heap.size ≤ k := by
    intro k hk
    rcases y4 with h | h
    · rw [h] at hk; simp [Value.ownBlock] at hk
    · have := h k hk; omega
  have e2 : padLen (SinkSt.mk [] (-1) [97, 98, 99] 1).content.length = 509 := by decide
  have e3 : wstep ⟨[], -1, [97, 98, 99], 1⟩ 0 (List.replicate 509 0) = (⟨[], -1, [97, 98, 99] ++ List.replicate 509 0, 2⟩, 0) := by
    unfold wstep
    rw [if_neg (fun h => h rfl)]
    exact all_open (-1) [97, 98, 99] 1 (List.replicate 509 0) (by omega) (by rw [List.length_replicate]; omega) (fun h => by have := congrArg List.length h; rw [List.length_replicate] at this; exact absurd this (by decide))
  have hpd := wrPad w4.heap.size sb v9 CA cc ⟨[], -1, [97, 98, 99], 1⟩ 0 w9 y2 y1 ok1 (by simp) (by omega) (by intro h; have := hv9 _ h.symm; omega) (fun ad e => by have := hcaw ad e; omega)
  rw [e2, e3] at hpd
  have HP := Lib.hid hpd
  have HC9 := Lib.hid hc9
  clear hpd hc9 y1 y2 y3 y4 e1 e2 e3 HW
  go_wp2_with fail
  refine HP.out.mono ?_
  rintro e w10 ⟨rfl, v10, z1, z2, z3, z4⟩
  have e4 : (([97, 98, 99] ++ List.replicate 509 (0 : UInt8)).length : Int) = ((512 : Nat) : Int) := by rw [List.length_append, List.length_replicate]; rfl
  have hb10 : Blk w10 w4.heap.size #[.int .i64 ((512 : Nat) : Int), .int .i64 0, .pointer (some ⟨sb, 0, none⟩)] 63 := by
    simp only [e4] at z2; exact z2
  have HO := Lib.hid (wrOffset w4.heap.size 512 (.int .i64 0) (.pointer (some ⟨sb, 0, none⟩)) w10 hb10)
  have hfin : Chg (fun _ => False) w w10 := (HC7.out.trans (U := fun k => k = sb ∨ k = w4.heap.size) HC9.out (fun _ _ h => h.elim) (fun _ _ h => h)).trans z3 (fun i hi h => by have := hc2.size; have := hc1.size; omega) (fun i hi h => by
    have h3 := hc3.size; have h4 := hc4.size
    rcases h with h | h | h
    · omega
    · omega
    · have := hv9 _ h.symm; have := HX7.out.size; omega)
  have HF := Lib.hid hfin
  clear hfin hb10 e4 z1 z2 z3 z4 HP
  go_wp2_with fail
  refine HO.out.mono ?_
  rintro e w11 ⟨rfl, rfl⟩
  go_wp2_with fail
  go_ret
  exact ⟨rfl, HF.out⟩
end Go.Proofs.Ytgbpoehhikiieaa
