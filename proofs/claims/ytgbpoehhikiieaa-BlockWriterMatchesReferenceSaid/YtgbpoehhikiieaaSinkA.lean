/- The walks of package sink: Len, room. -/
import Derived.Test.YtgbpoehhikiieaaBase
set_option linter.unusedVariables false
set_option linter.unusedSimpArgs false
namespace Go.Proofs.Ytgbpoehhikiieaa
open Go.RowKit

theorem sinkLen (b n c : Nat) (A : Option Addr) (w : World)
    (h2 : w.cell? ⟨b, 2, none⟩ = some (.slice A n c)) :
    Calls Try.prog 28 #[.pointer (some ⟨b, 0, none⟩)] w fun e w' => e = .returned (.int .i64 n) ∧ w' = w := by
  go_enter Try.func28, Try.ntmps28
  go_wp2
  go_ret
  exact ⟨rfl, rfl⟩

def mx1 (x : Int) : Int := if x > 1 then x else 1
def mn2 (x y : Int) : Int := if y < x then y else x
def chunkOf (chunks : List Int) (writes : Nat) : Int := if chunks = [] then 1048576 else mx1 (chunks.getD (writes % chunks.length) 0)
def roomOf (chunks : List Int) (failAt : Int) (len writes : Nat) : Int :=
  if 0 ≤ failAt ∧ (len : Int) ≤ failAt then mn2 (chunkOf chunks writes) (failAt - len) else chunkOf chunks writes

set_option maxHeartbeats 1000000 in
theorem sinkRoom (b n c cc : Nat) (A CA : Option Addr) (chunks : List Int) (failAt : Int) (writes : Nat) (w : World)
    (h0 : w.cell? ⟨b, 0, none⟩ = some (.slice CA chunks.length cc)) (h1 : w.cell? ⟨b, 1, none⟩ = some (.int .i64 failAt))
    (h2 : w.cell? ⟨b, 2, none⟩ = some (.slice A n c)) (h3 : w.cell? ⟨b, 3, none⟩ = some (.int .i64 writes))
    (hr : Rd w CA (i64s chunks)) (hl : chunks.length ≤ 9223372036854775807) (hw : writes ≤ 9223372036854775807) (hn : n ≤ 9223372036854775807) (hf : failAt ≤ 9223372036854775807)
    (hwf : ∀ x ∈ chunks, -9223372036854775808 ≤ x ∧ x ≤ 9223372036854775807) :
    Calls Try.prog 25 #[.pointer (some ⟨b, 0, none⟩)] w fun e w' => e = .returned (.int .i64 (roomOf chunks failAt n writes)) ∧ ∃ q, w' = w.drewN q := by
  by_cases hc : 0 < chunks.length
  · have hi : writes % chunks.length < chunks.length := Nat.mod_lt _ hc
    obtain ⟨g, off, rfl, hcell⟩ : ∃ g off, CA = some ⟨g, off, none⟩ ∧ w.cell? ⟨g, off + writes % chunks.length, none⟩ = some (.int .i64 (chunks.getD (writes % chunks.length) 0)) := by
      rcases hr with h | ⟨g, off, rfl, h⟩
      · simp [i64s] at h; subst h; simp at hc
      · refine ⟨g, off, rfl, h _ _ ?_⟩
        simp [i64s, List.getD, hi]
    have hx := hwf (chunks.getD (writes % chunks.length) 0) (by simp [List.getD, hi])
    generalize hxe : chunks.getD (writes % chunks.length) 0 = x at *
    obtain ⟨hx1, hx2⟩ := hx
    clear hwf hr
    have HX := Lib.hid hxe; clear hxe
    have hroom : roomOf chunks failAt n writes = if 0 ≤ failAt ∧ (n : Int) ≤ failAt then mn2 (mx1 x) (failAt - n) else mx1 x := by
      have hne : chunks ≠ [] := by intro h; simp [h] at hc
      simp only [roomOf, chunkOf, if_neg hne, HX.out]
    have HR := Lib.hid hroom; clear hroom HX
    by_cases hf0 : 0 ≤ failAt
    · by_cases hlt : (n : Int) ≤ failAt
      · have hd : (failAt - n ≥ 0) := by omega
        by_cases hx3 : x > 1
        · by_cases hm : failAt - n < x
          all_goals
            go_enter Try.func25, Try.ntmps25
            go_wp2
            try go_quiet (fail)
            go_wp2
            try go_quiet ((go_at_call 28; first | exact quietS rfl (sinkLen b n c A _ h2) | exact Calls.quiet_of_same (sinkLen b n c A _ h2)))
            go_wp2
            go_ret
            refine ⟨?_, by first | exact ⟨_, rfl⟩ | exact ⟨0, rfl⟩⟩
            rw [HR.out]
            first | (simp [mn2, mx1, *]; done) | (simp [mn2, mx1, *]; omega)
        · by_cases hm : failAt - n < 1
          all_goals
            go_enter Try.func25, Try.ntmps25
            go_wp2
            try go_quiet (fail)
            go_wp2
            try go_quiet ((go_at_call 28; first | exact quietS rfl (sinkLen b n c A _ h2) | exact Calls.quiet_of_same (sinkLen b n c A _ h2)))
            go_wp2
            go_ret
            refine ⟨?_, by first | exact ⟨_, rfl⟩ | exact ⟨0, rfl⟩⟩
            rw [HR.out]
            first | (simp [mn2, mx1, *]; done) | (simp [mn2, mx1, *]; omega)
      · by_cases hx3 : x > 1
        all_goals
          go_enter Try.func25, Try.ntmps25
          go_wp2
          try go_quiet (fail)
          go_wp2
          try go_quiet ((go_at_call 28; first | exact quietS rfl (sinkLen b n c A _ h2) | exact Calls.quiet_of_same (sinkLen b n c A _ h2)))
          go_wp2
          go_ret
          refine ⟨?_, by first | exact ⟨_, rfl⟩ | exact ⟨0, rfl⟩⟩
          rw [HR.out]
          first | (simp [mn2, mx1, *]; done) | (simp [mn2, mx1, *]; omega)
    · by_cases hx3 : x > 1
      all_goals
        go_enter Try.func25, Try.ntmps25
        go_wp2
        try go_quiet (fail)
        go_wp2
        try go_quiet ((go_at_call 28; first | exact quietS rfl (sinkLen b n c A _ h2) | exact Calls.quiet_of_same (sinkLen b n c A _ h2)))
        go_wp2
        go_ret
        refine ⟨?_, by first | exact ⟨_, rfl⟩ | exact ⟨0, rfl⟩⟩
        rw [HR.out]
        first | (simp [mn2, mx1, *]; done) | (simp [mn2, mx1, *]; omega)
  · obtain rfl : chunks = [] := by cases chunks with | nil => rfl | cons a t => simp at hc
    have hroom : roomOf [] failAt n writes = if 0 ≤ failAt ∧ (n : Int) ≤ failAt then mn2 1048576 (failAt - n) else 1048576 := by
      simp only [roomOf, chunkOf, if_true]
    have HR := Lib.hid hroom; clear hroom
    simp only [List.length_nil] at h0
    clear hr hwf hc
    by_cases hf0 : 0 ≤ failAt
    · by_cases hlt : (n : Int) ≤ failAt
      · have hd : (failAt - n ≥ 0) := by omega
        by_cases hm : failAt - n < 1048576
        all_goals
          go_enter Try.func25, Try.ntmps25
          go_wp2
          try go_quiet ((go_at_call 28; first | exact quietS rfl (sinkLen b n c A _ h2) | exact Calls.quiet_of_same (sinkLen b n c A _ h2)))
          go_wp2
          go_ret
          refine ⟨?_, by first | exact ⟨_, rfl⟩ | exact ⟨0, rfl⟩⟩
          rw [HR.out]
          first | (simp [mn2, mx1, *]; done) | (simp [mn2, mx1, *]; omega)
      · skip
        go_enter Try.func25, Try.ntmps25
        go_wp2
        try go_quiet ((go_at_call 28; first | exact quietS rfl (sinkLen b n c A _ h2) | exact Calls.quiet_of_same (sinkLen b n c A _ h2)))
        go_wp2
        go_ret
        refine ⟨?_, by first | exact ⟨_, rfl⟩ | exact ⟨0, rfl⟩⟩
        rw [HR.out]
        first | (simp [mn2, mx1, *]; done) | (simp [mn2, mx1, *]; omega)
    · skip
      go_enter Try.func25, Try.ntmps25
      go_wp2
      try go_quiet ((go_at_call 28; first | exact quietS rfl (sinkLen b n c A _ h2) | exact Calls.quiet_of_same (sinkLen b n c A _ h2)))
      go_wp2
      go_ret
      refine ⟨?_, by first | exact ⟨_, rfl⟩ | exact ⟨0, rfl⟩⟩
      rw [HR.out]
      first | (simp [mn2, mx1, *]; done) | (simp [mn2, mx1, *]; omega)
end Go.Proofs.Ytgbpoehhikiieaa
