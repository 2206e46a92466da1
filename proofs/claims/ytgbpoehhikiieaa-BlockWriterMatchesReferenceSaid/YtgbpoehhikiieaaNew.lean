/- The constructors. -/
import Derived.Test.YtgbpoehhikiieaaSrc
set_option linter.unusedVariables false
set_option linter.unusedSimpArgs false
namespace Go.Proofs.Ytgbpoehhikiieaa
open Go.RowKit

theorem i64s_length (l : List Int) : (i64s l).length = l.length := by simp [i64s]

set_option maxHeartbeats 1000000 in
theorem sinkNew (CA : Option Addr) (n cc : Nat) (chunks : List Int) (f : Int) (w : World) (hl : Rd w CA (i64s chunks)) (hn : chunks.length = n) (hn2 : n ≤ 300) (hA : CA = none → n = 0) :
    Calls Try.prog 5 #[.agg #[.slice CA n cc, .int .i64 f]] w fun e w' => ∃ k CA' cc', e = .returned (.pointer (some ⟨k, 0, none⟩)) ∧ IsSink w' k (.slice none 0 0) CA' cc' ⟨chunks, f, [], 0⟩ ∧ Chg (fun _ => False) w w' ∧ w.heap.size ≤ k ∧
      (∀ ad, CA' = some ad → w.heap.size ≤ ad.block) := by
  have hcall := fun W (hW : Chg (fun _ => False) w W) => cloneI_any CA n cc (i64s chunks) W (by rw [i64s_length]; exact hn) (by omega) (i64s_one _) (hl.chg hW (fun _ _ h => h)) hA
  have HC := Lib.hid hcall; clear hcall
  go_enter Try.func5, Try.ntmps5
  go_wp2_with fail
  go_region_held3 (fun W => W.cell? ⟨w.heap.size, 0, none⟩ = some (.slice CA n cc) ∧ W.cell? ⟨w.heap.size, 1, none⟩ = some (.int .i64 f))
    (first | go_keep | exact ⟨cell_keep hch1 (by simp), cell_keep hch1 (by simp)⟩)
    (first | (go_at_call 19; refine (HC.out _ ((Chg.refl _ _).alloc _).drew).mono ?_; rintro e w1 ⟨A', c', rfl, h1, hch1, h3⟩))
  have hc1 : Chg (fun _ => False) w w1 := ((Chg.refl (fun _ => False) w).alloc _).trans hch1.of_drew (fun _ _ h => h) (fun _ _ h => h)
  have hlt := fun ad (e : A' = some ad) => own_lt' h1 ad.block (by rw [e]; rfl)
  have h3' := fun ad (e : A' = some ad) => h3 ad.block (by rw [e]; rfl)
  have hr1 := Rd.of_own h1 rfl
  have H := Lib.hid (And.intro hr1 (And.intro hlt h3'))
  clear h1 h3 hr1 hlt h3'
  go_wp2
  go_ret
  obtain ⟨hr1, hlt, h3⟩ := H.out
  refine ⟨w1.heap.size, A', c', rfl, ⟨?_, hr1.chg ((Chg.refl (fun _ => False) _).alloc _) (fun _ _ h => h), World.ownsRow_nil _ _ _ _, by simp [Value.ownBlock], ?_, ?_⟩, hc1.alloc _, hc1.size, ?_⟩
  · subst hn; exact Blk.new w1 _ _
  · intro ad e; have := hlt ad e; simp; omega
  · intro ad e hh
    rcases hh with hh | hh
    · have := hlt ad e; omega
    · simp [Value.ownBlock] at hh
  · intro ad e
    have := h3 ad e; simp at this; omega

set_option maxHeartbeats 1000000 in
theorem wrNew (b : Nat) (w : World) :
    Calls Try.prog 7 #[.pointer (some ⟨b, 0, none⟩)] w fun e w' => e = .returned (.pointer (some ⟨w.heap.size, 0, none⟩)) ∧ Blk w' w.heap.size #[.int .i64 0, .int .i64 0, .pointer (some ⟨b, 0, none⟩)] 63 ∧ Chg (fun _ => False) w w' := by
  go_enter Try.func7, Try.ntmps7
  go_wp2_with fail
  go_ret
  exact ⟨rfl, Blk.new w _ _, (Chg.refl _ _).alloc _⟩

set_option maxHeartbeats 1000000 in
theorem rdNew (b : Nat) (w : World) :
    Calls Try.prog 16 #[.pointer (some ⟨b, 0, none⟩)] w fun e w' => e = .returned (.pointer (some ⟨w.heap.size, 0, none⟩)) ∧ Blk w' w.heap.size #[.int .i64 0, .int .i64 0, .pointer (some ⟨b, 0, none⟩)] 69 ∧ Chg (fun _ => False) w w' := by
  go_enter Try.func16, Try.ntmps16
  go_wp2_with fail
  go_ret
  exact ⟨rfl, Blk.new w _ _, (Chg.refl _ _).alloc _⟩

set_option maxHeartbeats 1000000 in
theorem srcNew (BA : Option Addr) (n c : Nat) (l : List UInt8) (w : World) (hl : Rd w BA (by8 l)) (hn : l.length = n) (hn2 : n ≤ 100000) (hA : BA = none → n = 0) :
    Calls Try.prog 17 #[.slice BA n c, .agg #[.slice none 0 0, .int .i64 (-1)]] w fun e w' => ∃ k RA rc, e = .returned (.pointer (some ⟨k, 0, none⟩)) ∧ IsSrc w' k RA rc l 0 0 ∧ Chg (fun _ => False) w w' ∧ w.heap.size ≤ k ∧ k < w'.heap.size ∧
      (∀ ad, RA = some ad → w.heap.size ≤ ad.block ∧ ad.block ≠ k ∧ ad.block < w'.heap.size) := by
  have hcall := fun W (hW : Chg (fun _ => False) w W) => clone8_any BA n c (by8 l) W (by rw [by8_length]; exact hn) (by omega) (by8_one _) (hl.chg hW (fun _ _ h => h)) hA
  have hcall2 := fun W => cloneI_nil 0 0 W
  have HC := Lib.hid hcall; clear hcall
  have HC2 := Lib.hid hcall2; clear hcall2
  go_enter Try.func17, Try.ntmps17
  go_wp2_with fail
  go_region_held3 (fun W => W.cell? ⟨w.heap.size, 0, none⟩ = some (.slice none 0 0) ∧ W.cell? ⟨w.heap.size, 1, none⟩ = some (.int .i64 (-1)))
    (first | go_keep | exact ⟨cell_keep hch1 (by simp), cell_keep hch1 (by simp)⟩)
    (first | (go_at_call 23; refine (HC.out _ ((Chg.refl _ _).alloc _).drew).mono ?_; rintro e w1 ⟨A', c', rfl, h1, hch1, h3⟩) | (go_at_call 19; refine (HC2.out _).mono ?_; rintro e w2 ⟨rfl, rfl⟩))
  have hc1 : Chg (fun _ => False) w w2 := ((Chg.refl (fun _ => False) w).alloc _).trans hch1.of_drew (fun _ _ h => h) (fun _ _ h => h)
  have hlt := fun ad (e : A' = some ad) => own_lt' h1 ad.block (by rw [e]; rfl)
  have h3' := fun ad (e : A' = some ad) => h3 ad.block (by rw [e]; rfl)
  have hr1 := Rd.of_own h1 rfl
  obtain ⟨_, _, hve, hcap, _⟩ := own_form h1
  have hcap' : n ≤ c' := by injection hve with _ _ h; omega
  have H := Lib.hid (And.intro hr1 (And.intro hlt h3'))
  clear h1 h3 hr1 hlt h3' hve hcap
  go_wp2
  go_ret
  obtain ⟨hr1, hlt, h3⟩ := H.out
  refine ⟨w2.heap.size, A', c', rfl, ⟨⟨none, 0, ?_⟩, hr1.chg ((Chg.refl (fun _ => False) _).alloc _) (fun _ _ h => h), by omega, ?_⟩, hc1.alloc _, hc1.size, by simp, ?_⟩
  · subst hn; exact Blk.new w2 _ _
  · intro ad e _; have := hlt ad e; omega
  · intro ad e
    have := h3 ad e; have := hlt ad e; simp at *; omega

set_option maxHeartbeats 1000000 in
theorem refNew_zero (CA : Option Addr) (cc : Nat) (f : Int) (w : World) (hc : CA = none → cc = 0) :
    Calls Try.prog 6 #[.agg #[.slice CA 0 cc, .int .i64 f]] w fun e w' => ∃ k, e = .returned (.pointer (some ⟨k, 0, none⟩)) ∧ w.heap.size ≤ k ∧ Chg (fun _ => False) w w' ∧ ∃ k', k' < k ∧ w.heap.size ≤ k' ∧ Blk w' k #[.slice none 0 0, .slice (some ⟨k', 0, none⟩) 0 0, .int .i64 f, .int .i64 0] 49 := by
  cases CA with
  | none =>
    obtain rfl := hc rfl
    go_enter Try.func6, Try.ntmps6
    go_wp2_with fail
    go_region
    go_wp2
    go_ret
    refine ⟨w.heap.size + 1 + 1, rfl, by omega, ?_, w.heap.size + 1, by omega, by omega, ?_⟩
    · first | exact ((((Chg.refl _ _).alloc _).alloc _).alloc _).drew | exact (((Chg.refl _ _).alloc _).alloc _).alloc _
    · have := Blk.new ((w.alloc (.cells #[.slice none 0 0, .int .i64 f] 24)).alloc (.cells #[] 3)) #[.slice none 0 0, .slice (some ⟨w.heap.size + 1, 0, none⟩) 0 0, .int .i64 f, .int .i64 0] 49
      simp only [World.size_alloc] at this
      exact this
  | some a =>
    go_enter Try.func6, Try.ntmps6
    go_wp2_with fail
    go_region
    go_wp2
    go_ret
    refine ⟨w.heap.size + 1 + 1, rfl, by omega, ?_, w.heap.size + 1, by omega, by omega, ?_⟩
    · first | exact ((((Chg.refl _ _).alloc _).alloc _).alloc _).drew | exact (((Chg.refl _ _).alloc _).alloc _).alloc _
    · have := Blk.new ((w.alloc (.cells #[.slice (some a) 0 cc, .int .i64 f] 24)).alloc (.cells #[] 3)) #[.slice none 0 0, .slice (some ⟨w.heap.size + 1, 0, none⟩) 0 0, .int .i64 f, .int .i64 0] 49
      simp only [World.size_alloc] at this
      exact this

set_option maxHeartbeats 1000000 in
theorem refNew_some (g off n cc : Nat) (chunks : List Int) (f : Int) (w : World) (hl : ∀ j u, (i64s chunks)[j]? = some u → w.cell? ⟨g, off + j, none⟩ = some u) (hn : chunks.length = n) (h0 : 0 < n) (hn2 : n ≤ 300) :
    Calls Try.prog 6 #[.agg #[.slice (some ⟨g, off, none⟩) n cc, .int .i64 f]] w fun e w' => ∃ k, e = .returned (.pointer (some ⟨k, 0, none⟩)) ∧ w.heap.size ≤ k ∧ Chg (fun _ => False) w w' ∧ ∃ k' cap, k' < k ∧ w.heap.size ≤ k' ∧ Blk w' k #[.slice none 0 0, .slice (some ⟨k', 0, none⟩) n cap, .int .i64 f, .int .i64 0] 49 ∧
      w'.ownsRow 0 3 1 (.slice (some ⟨k', 0, none⟩) n cap) n (i64s chunks) := by
  obtain ⟨i0, hi, hz0, hz1, hz2⟩ := info_parts infoI64
  have hnl : (i64s chunks).length = n * 1 := by rw [i64s_length]; omega
  have hnews : ∀ W, Chg (fun _ => False) w W → ∀ j u, (i64s chunks)[j]? = some u → W.cell? ((⟨g, off, none⟩ : Addr).add j) = some u := by
    intro W hW j u hu
    rw [show ((⟨g, off, none⟩ : Addr).add j) = ⟨g, off + j, none⟩ by unfold Addr.add; split <;> simp_all]
    exact cell_keep hW (hl j u hu)
  have HL := Lib.hid hnews; clear hnews hl hn
  have HN := Lib.hid hnl; clear hnl
  have HO := Lib.hid (i64s_one chunks)
  go_enter Try.func6, Try.ntmps6
  go_wp2_with fail
  have hc0 : Chg (fun _ => False) w (w.alloc (.cells #[.slice (some ⟨g, off, none⟩) n cc, .int .i64 f] 24)) := (Chg.refl _ _).alloc _
  have b0 := Blk.new w #[.slice (some ⟨g, off, none⟩) n cc, .int .i64 f] 24
  have hsz : (w.alloc (.cells #[.slice (some ⟨g, off, none⟩) n cc, .int .i64 f] 24)).heap.size = w.heap.size + 1 := by simp
  generalize w.alloc (.cells #[.slice (some ⟨g, off, none⟩) n cc, .int .i64 f] 24) = wa at *
  have e0 := b0.cell 0
  have e1 := b0.cell 1
  simp only [List.getElem?_toArray, List.getElem?_cons_zero, List.getElem?_cons_succ] at e0 e1
  have hlt : w.heap.size < wa.heap.size := by omega
  have hle : w.heap.size ≤ wa.heap.size := by omega
  clear hsz b0
  go_region_law (first
    | (refine step_append_lies _ rfl (.tmp 3) (.tmp 5) 22 rfl 0 3 i0 (.int .i64 0) 1 8 Try.underlying22 hi hz0 hz1 hz2 rfl (by decide) (.slice (some ⟨wa.heap.size, 0, none⟩) 0 0) 0 [] (by simp [Act.eval, Act.put]) (by exact World.ownsRow_lit wa #[] 0 (Nat.zero_le _) (Nat.zero_le _) rfl) ⟨g, off, none⟩ n cc (i64s chunks) (by simp [Act.eval, Act.put]) HN.out (HL.out _ (by first | exact hc0.alloc _ | exact (hc0.alloc _).drew)) HO.out h0 (by unfold maxLen; omega) (by omega) (Nat.zero_le _) _ rfl ?_; intro k1 cap w2 hown hgr hor hgl; have hc2 : Chg (fun _ => False) w w2 := chg_grown (by first | exact hc0.alloc _ | exact (hc0.alloc _).drew) hgr (own_ge hle); have hg2 : w.heap.size ≤ k1 := own_or hor hle (by simp; omega); have hca : Chg (fun _ => False) wa w2 := chg_grown (by first | exact (Chg.refl _ _).alloc _ | exact ((Chg.refl _ _).alloc _).drew) hgr (own_ge (Nat.le_refl _)); have d0 := cell_keep hca e0; have d1 := cell_keep hca e1))
  all_goals
    go_wp2
    go_ret
    try simp only [Nat.zero_add, List.nil_append] at hown
    refine ⟨w2.heap.size, rfl, hc2.size, by first | exact hc2.alloc _ | exact (hc2.alloc _).drew, k1, cap, hgl, hg2, ?_, ?_⟩
    · first | exact Blk.new w2 _ _ | simpa using Blk.new w2 #[.slice none 0 0, .slice (some ⟨k1, 0, none⟩) n cap, .int .i64 f, .int .i64 0] 49
    · exact hown.alloc _

theorem refNew (CA : Option Addr) (n cc : Nat) (chunks : List Int) (f : Int) (w : World) (hl : Rd w CA (i64s chunks)) (hn : chunks.length = n) (hn2 : n ≤ 300) (hA : CA = none → cc = 0 ∧ n = 0) :
    Calls Try.prog 6 #[.agg #[.slice CA n cc, .int .i64 f]] w fun e w' => ∃ k CA' cc', e = .returned (.pointer (some ⟨k, 0, none⟩)) ∧ IsRef w' k (.slice none 0 0) CA' cc' ⟨chunks, f, [], 0⟩ ∧ Chg (fun _ => False) w w' ∧ w.heap.size ≤ k ∧
      (∀ ad, CA' = some ad → w.heap.size ≤ ad.block) := by
  by_cases h0 : 0 < n
  · rcases hl with h | ⟨g, off, rfl, h⟩
    · have := i64s_length chunks; rw [h] at this; simp at this; omega
    · refine (refNew_some g off n cc chunks f w h hn h0 hn2).mono ?_
      rintro e w' ⟨k, rfl, h1, h2, k', cap, h3, h4, h5, h6⟩
      refine ⟨k, some ⟨k', 0, none⟩, cap, rfl, ⟨fun _ => rfl, by subst hn; exact h5, Rd.of_own h6 rfl, World.ownsRow_nil _ _ _ _, by simp [Value.ownBlock], ?_, ?_⟩, h2, h1, ?_⟩
      · intro ad e; cases e; have := h5.lt; simp only; omega
      · intro ad e hh; cases e; rcases hh with hh | hh
        · simp only at hh; omega
        · simp [Value.ownBlock] at hh
      · intro ad e; cases e; exact h4
  · obtain rfl : n = 0 := by omega
    obtain rfl : chunks = [] := List.eq_nil_of_length_eq_zero hn
    refine (refNew_zero CA cc f w (fun e => (hA e).1)).mono ?_
    rintro e w' ⟨k, rfl, h1, h2, k', h3, h4, h5⟩
    refine ⟨k, some ⟨k', 0, none⟩, 0, rfl, ⟨fun _ => rfl, h5, .inl rfl, World.ownsRow_nil _ _ _ _, by simp [Value.ownBlock], ?_, ?_⟩, h2, h1, ?_⟩
    · intro ad e; cases e; have := h5.lt; simp only; omega
    · intro ad e hh; cases e; rcases hh with hh | hh
      · simp only at hh; omega
      · simp [Value.ownBlock] at hh
    · intro ad e; cases e; exact h4

end Go.Proofs.Ytgbpoehhikiieaa
