/- Zeros and Offset of both writers; Bytes. -/
import Derived.Test.YtgbpoehhikiieaaPad
set_option linter.unusedVariables false
set_option linter.unusedSimpArgs false
namespace Go.Proofs.Ytgbpoehhikiieaa
open Go.RowKit

/-- What Zeros does: the state, the error behind, the answer. -/
def zstep (st : SinkSt) (err n : Int) : (SinkSt × Int) × Int :=
  if n < 0 ∨ n > 1024 then ((st, err), 2) else (wstep st err (List.replicate (512 * n.toNat) 0), (wstep st err (List.replicate (512 * n.toNat) 0)).2)

theorem mrZeros_no (wb : Nat) (n : Int) (w : World) (h : n < 0 ∨ n > 1024) :
    Calls Try.prog 13 #[.pointer (some ⟨wb, 0, none⟩), .int .i64 n] w fun e w' => e = .returned (.int .i64 2) ∧ w' = w := by
  by_cases h0 : n < 0
  · go_enter Try.func13, Try.ntmps13
    go_wp2_with fail
    go_ret
    exact ⟨rfl, rfl⟩
  · have h1 : n > 1024 := by omega
    have hd : decide (n < 0) = false := by simpa using h0
    go_enter Try.func13, Try.ntmps13
    go_wp2_with fail
    go_ret
    exact ⟨rfl, rfl⟩

theorem wrZeros_no (wb : Nat) (n : Int) (w : World) (h : n < 0 ∨ n > 1024) :
    Calls Try.prog 12 #[.pointer (some ⟨wb, 0, none⟩), .int .i64 n] w fun e w' => e = .returned (.int .i64 2) ∧ w' = w := by
  by_cases h0 : n < 0
  · go_enter Try.func12, Try.ntmps12
    go_wp2_with fail
    go_ret
    exact ⟨rfl, rfl⟩
  · have h1 : n > 1024 := by omega
    have hd : decide (n < 0) = false := by simpa using h0
    go_enter Try.func12, Try.ntmps12
    go_wp2_with fail
    go_ret
    exact ⟨rfl, rfl⟩

set_option maxHeartbeats 1000000 in
theorem mrZeros_yes (wb b : Nat) (v : Value) (CA : Option Addr) (cc n : Nat) (st : SinkSt) (err : Int) (w : World) (hn : n ≤ 1024)
    (hw : Blk w wb #[.pointer (some ⟨b, 0, none⟩), .int .i64 (st.content.length : Int), .int .i64 err] 35) (h : IsRef w b v CA cc st) (ok : SinkOk st)
    (hsz : st.content.length ≤ 90000000) (hne : wb ≠ b) (hnv : some wb ≠ v.ownBlock) (hnc : ∀ ad, CA = some ad → ad.block ≠ wb) :
    Calls Try.prog 13 #[.pointer (some ⟨wb, 0, none⟩), .int .i64 n] w fun e w' => e = .returned (.int .i64 (wstep st err (List.replicate (512 * n) 0)).2) ∧
      ∃ v', IsRef w' b v' CA cc (wstep st err (List.replicate (512 * n) 0)).1 ∧ Blk w' wb #[.pointer (some ⟨b, 0, none⟩), .int .i64 ((wstep st err (List.replicate (512 * n) 0)).1.content.length : Int), .int .i64 (wstep st err (List.replicate (512 * n) 0)).2] 35 ∧
        Chg (fun k => k = b ∨ k = wb) w w' ∧ (v' = v ∨ ∀ k, v'.ownBlock = some k → w.heap.size ≤ k) := by
  obtain ⟨i0, hi, hz0, hz1, hz2⟩ := info_parts infoU8
  have hd : decide ((n : Int) < 0) = false := by simp
  have hd2 : decide (1024 < (n : Int)) = false := by simp; omega
  have hpe : 512 * (n : Int) = ((512 * n : Nat) : Int) := by omega
  have HP := Lib.hid hpe; clear hpe
  have HB := Lib.hid hw; clear hw
  have HH := Lib.hid h; clear h
  go_enter Try.func13, Try.ntmps13
  go_wp2_with (first | (at_make; refine wpList_make_full _ rfl (.tmp 13) (.tmp 13) 36 rfl 0 5 i0 (.int .u8 0) 1 Try.underlying36 hi hz0 hz1 .i64 .i64 _ _ (512 * n) rfl rfl ?b1 ?b2 ?b3 ?b4 (Nat.zero_le _) ?_))
  case b1 => exact HP.out
  case b2 => exact HP.out
  case b3 => rw [hz2]; omega
  case b4 => unfold maxLen; omega
  intro w1 hown hgrow
  have hcall := mrZ wb b v CA cc (512 * n) st err w w1 HB.out HH.out ok hsz (by omega) hne hnv hnc hown hgrow
  have HC := Lib.hid hcall; clear hcall hown
  go_wp2_with (go_at_call 9; refine HC.out.mono ?_; rintro e w2 ⟨rfl, v1, k1, k2, k3, k4⟩)
  go_ret
  exact ⟨rfl, v1, k1, k2, k3, k4⟩

set_option maxHeartbeats 1000000 in
theorem wrZeros_yes (wb b : Nat) (v : Value) (CA : Option Addr) (cc n : Nat) (st : SinkSt) (err : Int) (w : World) (hn : n ≤ 1024)
    (hw : Blk w wb #[.int .i64 (st.content.length : Int), .int .i64 err, .pointer (some ⟨b, 0, none⟩)] 63) (h : IsSink w b v CA cc st) (ok : SinkOk st)
    (hsz : st.content.length ≤ 90000000) (hne : wb ≠ b) (hnv : some wb ≠ v.ownBlock) (hnc : ∀ ad, CA = some ad → ad.block ≠ wb) :
    Calls Try.prog 12 #[.pointer (some ⟨wb, 0, none⟩), .int .i64 n] w fun e w' => e = .returned (.int .i64 (wstep st err (List.replicate (512 * n) 0)).2) ∧
      ∃ v', IsSink w' b v' CA cc (wstep st err (List.replicate (512 * n) 0)).1 ∧ Blk w' wb #[.int .i64 ((wstep st err (List.replicate (512 * n) 0)).1.content.length : Int), .int .i64 (wstep st err (List.replicate (512 * n) 0)).2, .pointer (some ⟨b, 0, none⟩)] 63 ∧
        Chg (fun k => k = b ∨ k = wb ∨ some k = v.ownBlock) w w' ∧ (v'.ownBlock = v.ownBlock ∨ ∀ k, v'.ownBlock = some k → w.heap.size ≤ k) := by
  obtain ⟨i0, hi, hz0, hz1, hz2⟩ := info_parts infoU8
  have hd : decide ((n : Int) < 0) = false := by simp
  have hd2 : decide (1024 < (n : Int)) = false := by simp; omega
  have hpe : 512 * (n : Int) = ((512 * n : Nat) : Int) := by omega
  have HP := Lib.hid hpe; clear hpe
  have HB := Lib.hid hw; clear hw
  have HH := Lib.hid h; clear h
  go_enter Try.func12, Try.ntmps12
  go_wp2_with (first | (at_make; refine wpList_make_full _ rfl (.tmp 17) (.tmp 17) 36 rfl 0 5 i0 (.int .u8 0) 1 Try.underlying36 hi hz0 hz1 .i64 .i64 _ _ (512 * n) rfl rfl ?b1 ?b2 ?b3 ?b4 (Nat.zero_le _) ?_))
  case b1 => exact HP.out
  case b2 => exact HP.out
  case b3 => rw [hz2]; omega
  case b4 => unfold maxLen; omega
  intro w1 hown hgrow
  have hcall := wrZ wb b v CA cc (512 * n) st err w w1 HB.out HH.out ok hsz (by omega) hne hnv hnc hown hgrow
  have HC := Lib.hid hcall; clear hcall hown
  go_wp2_with (go_at_call 8; refine HC.out.mono ?_; rintro e w2 ⟨rfl, v1, k1, k2, k3, k4⟩)
  go_ret
  exact ⟨rfl, v1, k1, k2, k3, k4⟩

theorem wrOffset (wb : Nat) (off : Nat) (e P : Value) (w : World) (hw : Blk w wb #[.int .i64 off, e, P] 63) :
    Calls Try.prog 14 #[.pointer (some ⟨wb, 0, none⟩)] w fun e w' => e = .returned (.int .i64 off) ∧ w' = w := by
  have c0 := hw.cell 0
  simp only [List.getElem?_toArray, List.getElem?_cons_zero] at c0
  go_enter Try.func14, Try.ntmps14
  go_wp2_with fail
  go_ret
  exact ⟨rfl, rfl⟩
end Go.Proofs.Ytgbpoehhikiieaa
