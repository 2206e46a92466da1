/- The walks of package paxtarref05 (and Chunk of paxtarref04): the reference's sink. -/
import Derived.Test.YtgbpoehhikiieaaSinkB
set_option linter.unusedVariables false
set_option linter.unusedSimpArgs false
namespace Go.Proofs.Ytgbpoehhikiieaa
open Go.RowKit

set_option maxHeartbeats 1000000 in
theorem refChunk (CA : Option Addr) (cc : Nat) (chunks : List Int) (failAt : Int) (i : Nat) (w : World)
    (hr : Rd w CA (i64s chunks)) (hl : chunks.length ≤ 9223372036854775807) (hw : i ≤ 9223372036854775807) :
    Calls Try.prog 29 #[.agg #[.slice CA chunks.length cc, .int .i64 failAt], .int .i64 i] w fun e w' => e = .returned (.int .i64 (chunkOf chunks i)) ∧ Chg (fun _ => False) w w' := by
  by_cases hc : 0 < chunks.length
  · have hi : i % chunks.length < chunks.length := Nat.mod_lt _ hc
    have hlz : ((chunks.length : Int) == 0) = false := by simp; intro h; simp [h] at hc
    have hne : chunks ≠ [] := by intro h; simp [h] at hc
    obtain ⟨g, off, rfl, hcell⟩ : ∃ g off, CA = some ⟨g, off, none⟩ ∧ w.cell? ⟨g, off + i % chunks.length, none⟩ = some (.int .i64 (chunks.getD (i % chunks.length) 0)) := by
      rcases hr with h | ⟨g, off, rfl, h⟩
      · simp [i64s] at h; subst h; simp at hc
      · refine ⟨g, off, rfl, h _ _ ?_⟩
        simp [i64s, List.getD, hi]
    have hg := World.block_lt_of_cell? w _ hcell
    simp only at hg
    have hch : chunkOf chunks i = mx1 (chunks.getD (i % chunks.length) 0) := by simp only [chunkOf, if_neg hne]
    generalize hxe : chunks.getD (i % chunks.length) 0 = x at *
    clear hr hne hxe
    have HX := Lib.hid hch; clear hch
    by_cases hx : x < 1
    all_goals
      go_enter Try.func29, Try.ntmps29
      go_wp2
      go_quiet (fail)
      go_wp2
      go_ret
      exact ⟨by rw [HX.out]; simp [mx1]; omega, by first | exact ((Chg.refl _ _).alloc _).drewN _ | exact (Chg.refl _ _).alloc _⟩
  · obtain rfl : chunks = [] := by cases chunks with | nil => rfl | cons a t => simp at hc
    have hch : chunkOf [] i = 1048576 := by simp only [chunkOf, if_true]
    have HX := Lib.hid hch; clear hch hr hc
    simp only [List.length_nil]
    go_enter Try.func29, Try.ntmps29
    go_wp2
    go_ret
    exact ⟨by rw [HX.out]; rfl, (Chg.refl _ _).alloc _⟩

/-- Block b is the reference's sink in state st, v its row. -/
structure IsRef (w : World) (b : Nat) (v : Value) (CA : Option Addr) (cc : Nat) (st : SinkSt) : Prop where
  nil : st.content = [] → v = .slice none 0 0
  blk : Blk w b #[v, .slice CA st.chunks.length cc, .int .i64 st.failAt, .int .i64 st.writes] 49
  chunks : Rd w CA (i64s st.chunks)
  row : w.ownsRow 0 5 1 v st.content.length (by8 st.content)
  ne : v.ownBlock ≠ some b
  clt : ∀ ad, CA = some ad → ad.block < w.heap.size
  cne : Off CA (fun k => k = b ∨ some k = v.ownBlock)

theorem refWrite_nil (b : Nat) (A : Option Addr) (c : Nat) (w : World) :
    Calls Try.prog 26 #[.pointer (some ⟨b, 0, none⟩), .slice A 0 c] w fun e w' => e = .returned (.tuple #[.int .i64 0, .int .i64 0]) ∧ w' = w := by
  go_enter Try.func26, Try.ntmps26
  go_wp2_with fail
  go_ret2
  exact ⟨rfl, rfl⟩

set_option maxHeartbeats 1000000 in
theorem refWrite_full (b : Nat) (v : Value) (CA A : Option Addr) (cc c : Nat) (st : SinkSt) (l : List UInt8) (w : World) (h : IsRef w b v CA cc st)
    (hlen : l.length ≤ 100000000) (hcon : st.content.length ≤ 100000000) (h0 : 0 < l.length) (h1 : st.failAt = st.content.length) :
    Calls Try.prog 26 #[.pointer (some ⟨b, 0, none⟩), .slice A l.length c] w fun e w' => e = .returned (.tuple #[.int .i64 0, .int .i64 11]) ∧ ∃ q, w' = w.drewN q := by
  obtain ⟨_, cells, hch, hrow, hne, hclt, hcne⟩ := h
  have c0 := cells.cell 0
  have c1 := cells.cell 1
  have c2 := cells.cell 2
  have c3 := cells.cell 3
  simp only [List.getElem?_toArray, List.getElem?_cons_zero, List.getElem?_cons_succ, h1] at c0 c1 c2 c3
  obtain ⟨A2, cap2, rfl, hcap2, _⟩ := own_form hrow
  have hnil : ((l.length : Int) == 0) = false := by simp; intro h; subst h; simp at h0
  have hf : (st.content.length : Int) ≥ 0 := by omega
  clear h1 cells
  go_enter Try.func26, Try.ntmps26
  go_wp2_with fail
  go_quiet (fail)
  go_wp2
  go_ret2
  exact ⟨rfl, _, rfl⟩
end Go.Proofs.Ytgbpoehhikiieaa
