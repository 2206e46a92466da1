/- Pad and Zeros of both writers. -/
import Derived.Test.YtgbpoehhikiieaaWrB
set_option linter.unusedVariables false
set_option linter.unusedSimpArgs false
namespace Go.Proofs.Ytgbpoehhikiieaa
open Go.RowKit

theorem i64_and511 (n : Int) : bits .and .i64 n 511 = n % 512 := by
  have h511 : (BitVec.ofInt 64 511).toNat = 2 ^ 9 - 1 := by decide
  have key : (BitVec.ofInt 64 n &&& BitVec.ofInt 64 511).toNat = (n % ((2 ^ 64 : Nat) : Int)).toNat % 2 ^ 9 := by
    rw [BitVec.toNat_and, BitVec.toNat_ofInt, h511, Nat.and_two_pow_sub_one_eq_mod]
  show IntKind.i64.wrap ((BitVec.ofInt 64 n &&& BitVec.ofInt 64 511).toNat : Nat) = n % 512
  rw [key, IntKind.wrap_i64]
  omega

theorem IsRef.keep {w w' : World} {b : Nat} {v : Value} {CA : Option Addr} {cc : Nat} {st : SinkSt} (h : IsRef w b v CA cc st) (c : Chg (fun _ => False) w w') : IsRef w' b v CA cc st :=
  ⟨h.nil, h.blk.chg c (fun h => h), h.chunks.chg c (fun _ _ h => h), own_chg h.row c (fun _ _ h => h), h.ne, fun ad e => Nat.lt_of_lt_of_le (h.clt ad e) c.size, h.cne⟩
theorem IsSink.keep {w w' : World} {b : Nat} {v : Value} {CA : Option Addr} {cc : Nat} {st : SinkSt} (h : IsSink w b v CA cc st) (c : Chg (fun _ => False) w w') : IsSink w' b v CA cc st :=
  ⟨h.blk.chg c (fun h => h), h.chunks.chg c (fun _ _ h => h), own_chg h.row c (fun _ _ h => h), h.ne, fun ad e => Nat.lt_of_lt_of_le (h.clt ad e) c.size, h.cne⟩
theorem own_lt' {w : World} {e : TypeId} {size : Nat} {v : Value} {n : Nat} {xs : List Value} (h : w.ownsRow 0 e size v n xs) (k : Nat) (hk : v.ownBlock = some k) : k < w.heap.size := (h.lt k hk).2

def padLen (off : Nat) : Nat := (512 - off % 512) % 512

theorem made_zeros (n : Nat) : (madeCells #[Value.int .u8 0] n).toList = by8 (List.replicate n 0) := by
  rw [toList_madeCells_one]
  simp [by8]

theorem mrZ (wb b : Nat) (v : Value) (CA : Option Addr) (cc p : Nat) (st : SinkSt) (err : Int) (w w1 : World)
    (hw : Blk w wb #[.pointer (some ⟨b, 0, none⟩), .int .i64 (st.content.length : Int), .int .i64 err] 35) (h : IsRef w b v CA cc st) (ok : SinkOk st)
    (hsz : st.content.length ≤ 90000000) (hp : p ≤ 600000) (hne : wb ≠ b) (hnv : some wb ≠ v.ownBlock) (hnc : ∀ ad, CA = some ad → ad.block ≠ wb)
    (hown : w1.ownsRow 0 5 1 (.slice (some ⟨w.heap.size, 0, none⟩) p p) p (madeCells #[Value.int .u8 0] p).toList) (hgrow : w.grownBy w1 none) :
    Calls Try.prog 9 #[.pointer (some ⟨wb, 0, none⟩), .slice (some ⟨w.heap.size, 0, none⟩) p p] w1 fun e w' => e = .returned (.int .i64 (wstep st err (List.replicate p 0)).2) ∧
      ∃ v', IsRef w' b v' CA cc (wstep st err (List.replicate p 0)).1 ∧ Blk w' wb #[.pointer (some ⟨b, 0, none⟩), .int .i64 ((wstep st err (List.replicate p 0)).1.content.length : Int), .int .i64 (wstep st err (List.replicate p 0)).2] 35 ∧
        Chg (fun k => k = b ∨ k = wb) w w' ∧ (v' = v ∨ ∀ k, v'.ownBlock = some k → w.heap.size ≤ k) := by
  have hc : Chg (fun _ => False) w w1 := (Chg.of_grown hgrow).mono (fun _ _ h => by cases h)
  have hbl := h.blk.lt
  rw [made_zeros] at hown
  have hcall := mrWrite wb b v CA (some ⟨w.heap.size, 0, none⟩) cc p st err (List.replicate p 0) w1 (hw.chg hc (fun h => h)) (h.keep hc) ok (Rd.of_own hown rfl) (by rw [List.length_replicate]; omega) (by rw [List.length_replicate]; omega)
    (by intro ad e _; cases e; simp only; omega) hne hnv hnc
  rw [List.length_replicate] at hcall
  refine hcall.mono fun e w' ⟨he, v', k1, k2, k3, k4⟩ => ⟨he, v', k1, k2, hc.trans k3 (fun _ _ h => h.elim) (fun _ _ h => h), ?_⟩
  rcases k4 with h | h
  · exact .inl h
  · exact .inr fun k hk => Nat.le_trans hc.size (h k hk)

theorem wrZ (wb b : Nat) (v : Value) (CA : Option Addr) (cc p : Nat) (st : SinkSt) (err : Int) (w w1 : World)
    (hw : Blk w wb #[.int .i64 (st.content.length : Int), .int .i64 err, .pointer (some ⟨b, 0, none⟩)] 63) (h : IsSink w b v CA cc st) (ok : SinkOk st)
    (hsz : st.content.length ≤ 90000000) (hp : p ≤ 600000) (hne : wb ≠ b) (hnv : some wb ≠ v.ownBlock) (hnc : ∀ ad, CA = some ad → ad.block ≠ wb)
    (hown : w1.ownsRow 0 5 1 (.slice (some ⟨w.heap.size, 0, none⟩) p p) p (madeCells #[Value.int .u8 0] p).toList) (hgrow : w.grownBy w1 none) :
    Calls Try.prog 8 #[.pointer (some ⟨wb, 0, none⟩), .slice (some ⟨w.heap.size, 0, none⟩) p p] w1 fun e w' => e = .returned (.int .i64 (wstep st err (List.replicate p 0)).2) ∧
      ∃ v', IsSink w' b v' CA cc (wstep st err (List.replicate p 0)).1 ∧ Blk w' wb #[.int .i64 ((wstep st err (List.replicate p 0)).1.content.length : Int), .int .i64 (wstep st err (List.replicate p 0)).2, .pointer (some ⟨b, 0, none⟩)] 63 ∧
        Chg (fun k => k = b ∨ k = wb ∨ some k = v.ownBlock) w w' ∧ (v'.ownBlock = v.ownBlock ∨ ∀ k, v'.ownBlock = some k → w.heap.size ≤ k) := by
  have hc : Chg (fun _ => False) w w1 := (Chg.of_grown hgrow).mono (fun _ _ h => by cases h)
  have hbl := h.blk.lt
  have hwl := hw.lt
  have hvl := own_lt' h.row
  have hlt := own_lt' hown w.heap.size rfl
  rw [made_zeros] at hown
  have hcall := wrWrite wb b v CA (some ⟨w.heap.size, 0, none⟩) cc p st err (List.replicate p 0) w1 (hw.chg hc (fun h => h)) (h.keep hc) ok (Rd.of_own hown rfl) (by rw [List.length_replicate]; omega) (by rw [List.length_replicate]; omega)
    (by intro ad e _; cases e; exact ⟨by simp only; omega, by simp only; omega, fun e => by have := hvl _ e.symm; simp only at this; omega, hlt⟩) hne hnv hnc
  rw [List.length_replicate] at hcall
  refine hcall.mono fun e w' ⟨he, v', k1, k2, k3, k4⟩ => ⟨he, v', k1, k2, hc.trans k3 (fun _ _ h => h.elim) (fun _ _ h => h), ?_⟩
  rcases k4 with h | h
  · exact .inl h
  · exact .inr fun k hk => Nat.le_trans hc.size (h k hk)

set_option maxHeartbeats 1000000 in
theorem mrPad (wb b : Nat) (v : Value) (CA : Option Addr) (cc : Nat) (st : SinkSt) (err : Int) (w : World)
    (hw : Blk w wb #[.pointer (some ⟨b, 0, none⟩), .int .i64 (st.content.length : Int), .int .i64 err] 35) (h : IsRef w b v CA cc st) (ok : SinkOk st)
    (hsz : st.content.length ≤ 90000000) (hne : wb ≠ b) (hnv : some wb ≠ v.ownBlock) (hnc : ∀ ad, CA = some ad → ad.block ≠ wb) :
    Calls Try.prog 11 #[.pointer (some ⟨wb, 0, none⟩)] w fun e w' => e = .returned (.int .i64 (wstep st err (List.replicate (padLen st.content.length) 0)).2) ∧
      ∃ v', IsRef w' b v' CA cc (wstep st err (List.replicate (padLen st.content.length) 0)).1 ∧ Blk w' wb #[.pointer (some ⟨b, 0, none⟩), .int .i64 ((wstep st err (List.replicate (padLen st.content.length) 0)).1.content.length : Int), .int .i64 (wstep st err (List.replicate (padLen st.content.length) 0)).2] 35 ∧
        Chg (fun k => k = b ∨ k = wb) w w' ∧ (v' = v ∨ ∀ k, v'.ownBlock = some k → w.heap.size ≤ k) := by
  obtain ⟨i0, hi, hz0, hz1, hz2⟩ := info_parts infoU8
  have c1 := hw.cell 1
  simp only [List.getElem?_toArray, List.getElem?_cons_zero, List.getElem?_cons_succ] at c1
  have hp : padLen st.content.length < 512 := Nat.mod_lt _ (by omega)
  have hpe : ((512 : Int) - (st.content.length : Int) % 512) % 512 = (padLen st.content.length : Int) := by unfold padLen; omega
  generalize hpl : padLen st.content.length = p at *
  clear hpl
  have HB := Lib.hid hw; clear hw
  have HH := Lib.hid h; clear h
  go_enter Try.func11, Try.ntmps11
  go_wp2_with (first | (at_make; refine wpList_make_full _ rfl (.tmp 10) (.tmp 10) 36 rfl 0 5 i0 (.int .u8 0) 1 Try.underlying36 hi hz0 hz1 .i64 .i64 _ _ p rfl rfl ?b1 ?b2 ?b3 ?b4 (Nat.zero_le _) ?_))
  case b1 => exact hpe
  case b2 => exact hpe
  case b3 => rw [hz2]; omega
  case b4 => unfold maxLen; omega
  intro w1 hown hgrow
  have hcall := mrZ wb b v CA cc p st err w w1 HB.out HH.out ok hsz (by omega) hne hnv hnc hown hgrow
  have HC := Lib.hid hcall; clear hcall hown
  go_wp2_with (go_at_call 9; refine HC.out.mono ?_; rintro e w2 ⟨rfl, v1, k1, k2, k3, k4⟩)
  go_ret
  exact ⟨rfl, v1, k1, k2, k3, k4⟩

set_option maxHeartbeats 1000000 in
theorem wrPad (wb b : Nat) (v : Value) (CA : Option Addr) (cc : Nat) (st : SinkSt) (err : Int) (w : World)
    (hw : Blk w wb #[.int .i64 (st.content.length : Int), .int .i64 err, .pointer (some ⟨b, 0, none⟩)] 63) (h : IsSink w b v CA cc st) (ok : SinkOk st)
    (hsz : st.content.length ≤ 90000000) (hne : wb ≠ b) (hnv : some wb ≠ v.ownBlock) (hnc : ∀ ad, CA = some ad → ad.block ≠ wb) :
    Calls Try.prog 10 #[.pointer (some ⟨wb, 0, none⟩)] w fun e w' => e = .returned (.int .i64 (wstep st err (List.replicate (padLen st.content.length) 0)).2) ∧
      ∃ v', IsSink w' b v' CA cc (wstep st err (List.replicate (padLen st.content.length) 0)).1 ∧ Blk w' wb #[.int .i64 ((wstep st err (List.replicate (padLen st.content.length) 0)).1.content.length : Int), .int .i64 (wstep st err (List.replicate (padLen st.content.length) 0)).2, .pointer (some ⟨b, 0, none⟩)] 63 ∧
        Chg (fun k => k = b ∨ k = wb ∨ some k = v.ownBlock) w w' ∧ (v'.ownBlock = v.ownBlock ∨ ∀ k, v'.ownBlock = some k → w.heap.size ≤ k) := by
  obtain ⟨i0, hi, hz0, hz1, hz2⟩ := info_parts infoU8
  have c0 := hw.cell 0
  simp only [List.getElem?_toArray, List.getElem?_cons_zero, List.getElem?_cons_succ] at c0
  have hp : padLen st.content.length < 512 := Nat.mod_lt _ (by omega)
  have hpe : bits .and .i64 (-(st.content.length : Int)) 511 = (padLen st.content.length : Int) := by rw [i64_and511]; unfold padLen; omega
  generalize hpl : padLen st.content.length = p at *
  clear hpl
  have HB := Lib.hid hw; clear hw
  have HH := Lib.hid h; clear h
  go_enter Try.func10, Try.ntmps10
  go_wp2_with (first | (at_make; refine wpList_make_full _ rfl (.tmp 12) (.tmp 12) 36 rfl 0 5 i0 (.int .u8 0) 1 Try.underlying36 hi hz0 hz1 .i64 .i64 _ _ p rfl rfl ?b1 ?b2 ?b3 ?b4 (Nat.zero_le _) ?_))
  case b1 => first | rfl | exact hpe
  case b2 => first | rfl | exact hpe
  case b3 => rw [hz2]; omega
  case b4 => unfold maxLen; omega
  intro w1 hown hgrow
  have hcall := wrZ wb b v CA cc p st err w w1 HB.out HH.out ok hsz (by omega) hne hnv hnc hown hgrow
  have HC := Lib.hid hcall; clear hcall hown
  go_wp2_with (go_at_call 8; refine HC.out.mono ?_; rintro e w2 ⟨rfl, v1, k1, k2, k3, k4⟩)
  go_ret
  exact ⟨rfl, v1, k1, k2, k3, k4⟩
end Go.Proofs.Ytgbpoehhikiieaa
