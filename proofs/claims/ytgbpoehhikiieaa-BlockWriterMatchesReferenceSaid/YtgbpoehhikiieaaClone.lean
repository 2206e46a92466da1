/- slices.Clone at bytes and at ints; Bytes. -/
import Derived.Test.YtgbpoehhikiieaaZeros
set_option linter.unusedVariables false
set_option linter.unusedSimpArgs false
namespace Go.Proofs.Ytgbpoehhikiieaa
open Go.RowKit

theorem infoI64 : (Try.prog.info? 3).map (fun i => (i.zero, i.size, i.bytes)) = some (some (.int .i64 0), 1, 8) := by kernel_rfl

set_option maxHeartbeats 400000 in
theorem clone8 (g off n c : Nat) (l : List Value) (w : World) (hn : l.length = n) (h0 : 0 < n) (hb : n ≤ 100000000) (hone : ∀ u ∈ l, u.oneCell' = true) (hl : ∀ j u, l[j]? = some u → w.cell? ⟨g, off + j, none⟩ = some u) :
    Calls Try.prog 23 #[.slice (some ⟨g, off, none⟩) n c] w fun e w' => ∃ k cap, e = .returned (.slice (some ⟨k, 0, none⟩) n cap) ∧ w'.ownsRow 0 5 1 (.slice (some ⟨k, 0, none⟩) n cap) n l ∧ w.heap.size ≤ k ∧ Chg (fun _ => False) w w' := by
  obtain ⟨i0, hi, hz0, hz1, hz2⟩ := info_parts infoU8
  have hnl : l.length = n * 1 := by omega
  have hnews : ∀ j u, l[j]? = some u → (w.alloc (.cells #[] 5)).cell? ((⟨g, off, none⟩ : Addr).add j) = some u := by
    intro j u hu
    rw [show ((⟨g, off, none⟩ : Addr).add j) = ⟨g, off + j, none⟩ by unfold Addr.add; split <;> simp_all]
    exact cell_keep ((Chg.refl _ w).alloc _) (hl j u hu)
  have hen := fun wx => Lib.run_eql_slice_nil (P := Try.prog) wx 36 5 (some ⟨g, off, none⟩) n c 0 0 Try.underlying36
  have HL := Lib.hid hnews; clear hnews hl hn
  have HN := Lib.hid hnl; clear hnl
  have HO := Lib.hid hone; clear hone
  go_enter Try.func23, Try.ntmps23
  go_wp2_with (first | (at_builtin; refine wpList_append_lies _ rfl (.tmp 5) (.tmp 6) 36 rfl 0 5 i0 (.int .u8 0) 1 1 Try.underlying36 hi hz0 hz1 hz2 rfl (by decide) (.slice (some ⟨w.heap.size, 0, none⟩) 0 0) 0 [] rfl (World.ownsRow_lit w #[] 0 (Nat.zero_le _) (Nat.zero_le _) rfl) ⟨g, off, none⟩ n c l rfl HN.out HL.out HO.out h0 ?b1 ?b2 (Nat.zero_le _) _ rfl ?_))
  case b1 => unfold maxLen; omega
  case b2 => omega
  intro k cap w1 hown hgrow hor hk
  have hw1 : w.heap.size ≤ k := own_or hor (Nat.le_refl _) (by simp)
  have hc : Chg (fun _ => False) w w1 := chg_grown ((Chg.refl _ w).alloc _) hgrow (own_ge (Nat.le_refl _))
  try simp only [Nat.zero_add, List.nil_append] at hown
  have HOwn := Lib.hid hown; clear hown
  have HC := Lib.hid hc; clear hc hgrow hor
  go_wp2
  go_ret
  exact ⟨k, cap, by simp, HOwn.out, hw1, HC.out⟩

theorem clone8_nil (n' c' : Nat) (w : World) :
    Calls Try.prog 23 #[.slice none n' c'] w fun e w' => e = .returned (.slice none 0 0) ∧ w' = w := by
  have hen := fun wx => Lib.run_eql_slice_nil (P := Try.prog) wx 36 5 none n' c' 0 0 Try.underlying36
  go_enter Try.func23, Try.ntmps23
  go_wp2_with fail
  go_ret
  exact ⟨rfl, rfl⟩

theorem clone8_zero (a : Addr) (c : Nat) (w : World) :
    Calls Try.prog 23 #[.slice (some a) 0 c] w fun e w' => e = .returned (.slice (some ⟨w.heap.size, 0, none⟩) 0 0) ∧ w' = w.alloc (.cells #[] 5) := by
  have hen := fun wx => Lib.run_eql_slice_nil (P := Try.prog) wx 36 5 (some a) 0 c 0 0 Try.underlying36
  go_enter Try.func23, Try.ntmps23
  go_wp2_with fail
  go_ret
  exact ⟨rfl, rfl⟩

theorem clone8_any (A : Option Addr) (n c : Nat) (l : List Value) (w : World) (hn : l.length = n) (hb : n ≤ 100000000) (hone : ∀ u ∈ l, u.oneCell' = true) (hl : Rd w A l) (hA : A = none → n = 0) :
    Calls Try.prog 23 #[.slice A n c] w fun e w' => ∃ A' c', e = .returned (.slice A' n c') ∧ w'.ownsRow 0 5 1 (.slice A' n c') n l ∧ Chg (fun _ => False) w w' ∧ (∀ k, (Value.slice A' n c').ownBlock = some k → w.heap.size ≤ k) := by
  by_cases h0 : 0 < n
  · rcases hl with h | ⟨g, off, rfl, h⟩
    · subst h; simp at hn; omega
    · refine (clone8 g off n c l w hn h0 hb hone h).mono ?_
      rintro e w' ⟨k, cap, rfl, h1, h2, h3⟩
      exact ⟨_, _, rfl, h1, h3, own_ge h2⟩
  · obtain rfl : n = 0 := by omega
    obtain rfl : l = [] := List.eq_nil_of_length_eq_zero hn
    cases A with
    | none =>
      refine (clone8_nil 0 c w).mono ?_
      rintro e w' ⟨rfl, rfl⟩
      exact ⟨none, 0, rfl, World.ownsRow_nil _ _ _ _, Chg.refl _ _, fun k hk => by cases hk⟩
    | some a =>
      refine (clone8_zero a c w).mono ?_
      rintro e w' ⟨rfl, rfl⟩
      exact ⟨_, _, rfl, World.ownsRow_lit w #[] 0 (Nat.zero_le _) (Nat.zero_le _) rfl, (Chg.refl _ _).alloc _, own_ge (Nat.le_refl _)⟩

set_option maxHeartbeats 400000 in
theorem cloneI (g off n c : Nat) (l : List Value) (w : World) (hn : l.length = n) (h0 : 0 < n) (hb : n ≤ 100000000) (hone : ∀ u ∈ l, u.oneCell' = true) (hl : ∀ j u, l[j]? = some u → w.cell? ⟨g, off + j, none⟩ = some u) :
    Calls Try.prog 19 #[.slice (some ⟨g, off, none⟩) n c] w fun e w' => ∃ k cap, e = .returned (.slice (some ⟨k, 0, none⟩) n cap) ∧ w'.ownsRow 0 3 1 (.slice (some ⟨k, 0, none⟩) n cap) n l ∧ w.heap.size ≤ k ∧ Chg (fun _ => False) w w' := by
  obtain ⟨i0, hi, hz0, hz1, hz2⟩ := info_parts infoI64
  have hnl : l.length = n * 1 := by omega
  have hnews : ∀ j u, l[j]? = some u → (w.alloc (.cells #[] 3)).cell? ((⟨g, off, none⟩ : Addr).add j) = some u := by
    intro j u hu
    rw [show ((⟨g, off, none⟩ : Addr).add j) = ⟨g, off + j, none⟩ by unfold Addr.add; split <;> simp_all]
    exact cell_keep ((Chg.refl _ w).alloc _) (hl j u hu)
  have hen := fun wx => Lib.run_eql_slice_nil (P := Try.prog) wx 22 3 (some ⟨g, off, none⟩) n c 0 0 Try.underlying22
  have HL := Lib.hid hnews; clear hnews hl hn
  have HN := Lib.hid hnl; clear hnl
  have HO := Lib.hid hone; clear hone
  go_enter Try.func19, Try.ntmps19
  go_wp2_with (first | (at_builtin; refine wpList_append_lies _ rfl (.tmp 5) (.tmp 6) 22 rfl 0 3 i0 (.int .i64 0) 1 8 Try.underlying22 hi hz0 hz1 hz2 rfl (by decide) (.slice (some ⟨w.heap.size, 0, none⟩) 0 0) 0 [] rfl (World.ownsRow_lit w #[] 0 (Nat.zero_le _) (Nat.zero_le _) rfl) ⟨g, off, none⟩ n c l rfl HN.out HL.out HO.out h0 ?b1 ?b2 (Nat.zero_le _) _ rfl ?_))
  case b1 => unfold maxLen; omega
  case b2 => omega
  intro k cap w1 hown hgrow hor hk
  have hw1 : w.heap.size ≤ k := own_or hor (Nat.le_refl _) (by simp)
  have hc : Chg (fun _ => False) w w1 := chg_grown ((Chg.refl _ w).alloc _) hgrow (own_ge (Nat.le_refl _))
  try simp only [Nat.zero_add, List.nil_append] at hown
  have HOwn := Lib.hid hown; clear hown
  have HC := Lib.hid hc; clear hc hgrow hor
  go_wp2
  go_ret
  exact ⟨k, cap, by simp, HOwn.out, hw1, HC.out⟩

theorem cloneI_nil (n' c' : Nat) (w : World) :
    Calls Try.prog 19 #[.slice none n' c'] w fun e w' => e = .returned (.slice none 0 0) ∧ w' = w := by
  have hen := fun wx => Lib.run_eql_slice_nil (P := Try.prog) wx 22 3 none n' c' 0 0 Try.underlying22
  go_enter Try.func19, Try.ntmps19
  go_wp2_with fail
  go_ret
  exact ⟨rfl, rfl⟩

theorem cloneI_zero (a : Addr) (c : Nat) (w : World) :
    Calls Try.prog 19 #[.slice (some a) 0 c] w fun e w' => e = .returned (.slice (some ⟨w.heap.size, 0, none⟩) 0 0) ∧ w' = w.alloc (.cells #[] 3) := by
  have hen := fun wx => Lib.run_eql_slice_nil (P := Try.prog) wx 22 3 (some a) 0 c 0 0 Try.underlying22
  go_enter Try.func19, Try.ntmps19
  go_wp2_with fail
  go_ret
  exact ⟨rfl, rfl⟩

theorem cloneI_any (A : Option Addr) (n c : Nat) (l : List Value) (w : World) (hn : l.length = n) (hb : n ≤ 100000000) (hone : ∀ u ∈ l, u.oneCell' = true) (hl : Rd w A l) (hA : A = none → n = 0) :
    Calls Try.prog 19 #[.slice A n c] w fun e w' => ∃ A' c', e = .returned (.slice A' n c') ∧ w'.ownsRow 0 3 1 (.slice A' n c') n l ∧ Chg (fun _ => False) w w' ∧ (∀ k, (Value.slice A' n c').ownBlock = some k → w.heap.size ≤ k) := by
  by_cases h0 : 0 < n
  · rcases hl with h | ⟨g, off, rfl, h⟩
    · subst h; simp at hn; omega
    · refine (cloneI g off n c l w hn h0 hb hone h).mono ?_
      rintro e w' ⟨k, cap, rfl, h1, h2, h3⟩
      exact ⟨_, _, rfl, h1, h3, own_ge h2⟩
  · obtain rfl : n = 0 := by omega
    obtain rfl : l = [] := List.eq_nil_of_length_eq_zero hn
    cases A with
    | none =>
      refine (cloneI_nil 0 c w).mono ?_
      rintro e w' ⟨rfl, rfl⟩
      exact ⟨none, 0, rfl, World.ownsRow_nil _ _ _ _, Chg.refl _ _, fun k hk => by cases hk⟩
    | some a =>
      refine (cloneI_zero a c w).mono ?_
      rintro e w' ⟨rfl, rfl⟩
      exact ⟨_, _, rfl, World.ownsRow_lit w #[] 0 (Nat.zero_le _) (Nat.zero_le _) rfl, (Chg.refl _ _).alloc _, own_ge (Nat.le_refl _)⟩

theorem by8_one (l : List UInt8) : ∀ u ∈ by8 l, u.oneCell' = true := by
  intro u hu; simp only [by8, List.mem_map] at hu; obtain ⟨x, _, rfl⟩ := hu; rfl
theorem i64s_one (l : List Int) : ∀ u ∈ i64s l, u.oneCell' = true := by
  intro u hu; simp only [i64s, List.mem_map] at hu; obtain ⟨x, _, rfl⟩ := hu; rfl

theorem sinkBytes (b : Nat) (v : Value) (CA : Option Addr) (cc : Nat) (st : SinkSt) (w : World) (h : IsSink w b v CA cc st) (hcon : st.content.length ≤ 100000000) :
    Calls Try.prog 15 #[.pointer (some ⟨b, 0, none⟩)] w fun e w' => ∃ A' c', e = .returned (.slice A' st.content.length c') ∧ w'.ownsRow 0 5 1 (.slice A' st.content.length c') st.content.length (by8 st.content) ∧ Chg (fun _ => False) w w' := by
  obtain ⟨VA, vcap, hv, hvc, hv0⟩ := own_form h.row
  have c2 := h.blk.cell 2
  simp only [List.getElem?_toArray, List.getElem?_cons_zero, List.getElem?_cons_succ, hv] at c2
  have hcall := clone8_any VA st.content.length vcap (by8 st.content) w (by8_length _) hcon (by8_one _) (Rd.of_own h.row hv) (fun e => (hv0 e).1)
  have HC := Lib.hid hcall; clear hcall
  clear hv0 hv
  go_enter Try.func15, Try.ntmps15
  go_wp2_with (go_at_call 23; refine HC.out.mono ?_; rintro e w1 ⟨A', c', rfl, h1, h2, _⟩)
  go_ret
  exact ⟨A', c', rfl, h1, h2⟩
end Go.Proofs.Ytgbpoehhikiieaa
