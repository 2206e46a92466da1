/- The walks of package sink: Write. -/
import Derived.Test.YtgbpoehhikiieaaSinkA
set_option linter.unusedVariables false
set_option linter.unusedSimpArgs false
namespace Go.Proofs.Ytgbpoehhikiieaa
open Go.RowKit

theorem infoU8 : (Try.prog.info? 5).map (fun i => (i.zero, i.size, i.bytes)) = some (some (.int .u8 0), 1, 1) := by kernel_rfl

/-- What a sink is: the settings, what it holds, how often it was written. -/
structure SinkSt where
  chunks : List Int
  failAt : Int
  content : List UInt8
  writes : Nat

structure SinkOk (st : SinkSt) : Prop where
  clen : st.chunks.length ≤ 300
  cwf : ∀ x ∈ st.chunks, -9223372036854775808 ≤ x ∧ x ≤ 9223372036854775807
  fail : st.failAt ≤ 9223372036854775807
  writes : st.writes ≤ st.content.length
  room : 0 ≤ st.failAt → (st.content.length : Int) ≤ st.failAt

/-- Block b is a sink in state st, v its row. -/
structure IsSink (w : World) (b : Nat) (v : Value) (CA : Option Addr) (cc : Nat) (st : SinkSt) : Prop where
  blk : Blk w b #[.slice CA st.chunks.length cc, .int .i64 st.failAt, v, .int .i64 st.writes] 59
  chunks : Rd w CA (i64s st.chunks)
  row : w.ownsRow 0 5 1 v st.content.length (by8 st.content)
  ne : v.ownBlock ≠ some b
  clt : ∀ ad, CA = some ad → ad.block < w.heap.size
  cne : Off CA (fun k => k = b ∨ some k = v.ownBlock)

def SinkSt.took (st : SinkSt) (l : List UInt8) : Nat := (mn2 (l.length : Int) (roomOf st.chunks st.failAt st.content.length st.writes)).toNat
def SinkSt.next (st : SinkSt) (l : List UInt8) : SinkSt := { st with content := st.content ++ l.take (st.took l), writes := st.writes + 1 }

theorem sink_close {w w1 : World} {b g cap' k m cap2 : Nat} {A2 CA : Option Addr} {cc : Nat} {st : SinkSt} {l : List UInt8} (h : IsSink w b (.slice A2 st.content.length cap2) CA cc st)
    (htook : st.took l = k) (hkl : k ≤ l.length)
    (hown : w1.ownsRow 0 5 1 (.slice (some ⟨g, 0, none⟩) (st.content.length + k) cap') (st.content.length + k) (by8 st.content ++ by8 (l.take k)))
    (hgrow : (w.drewN m).grownBy w1 (Value.slice A2 st.content.length cap2).ownBlock) (hor : (Value.slice A2 st.content.length cap2).ownBlock = some g ∨ g = (w.drewN m).heap.size) :
    ∃ v', IsSink ((w1.setCell ⟨b, 2, none⟩ (.slice (some ⟨g, 0, none⟩) (st.content.length + k) cap')).setCell ⟨b, 3, none⟩ (.int .i64 ((st.writes : Int) + 1))) b v' CA cc (st.next l) ∧
      Chg (fun i => i = b ∨ some i = (Value.slice A2 st.content.length cap2).ownBlock) w ((w1.setCell ⟨b, 2, none⟩ (.slice (some ⟨g, 0, none⟩) (st.content.length + k) cap')).setCell ⟨b, 3, none⟩ (.int .i64 ((st.writes : Int) + 1))) ∧
      (v'.ownBlock = (Value.slice A2 st.content.length cap2).ownBlock ∨ ∀ i, v'.ownBlock = some i → w.heap.size ≤ i) := by
  obtain ⟨cells, hch, hrow, hne, hclt, hcne⟩ := h
  have hbl := cells.lt
  have hgb : g ≠ b := by
    intro e; subst e
    rcases hor with h | h
    · exact hne h
    · simp at h; omega
  have hlen : (st.next l).content.length = st.content.length + k := by simp [SinkSt.next, htook, List.length_take]; omega
  have hsz : w.heap.size ≤ w1.heap.size := hgrow.size
  have hchg : Chg (fun i => i = b ∨ some i = (Value.slice A2 st.content.length cap2).ownBlock) w w1 :=
    ⟨hgrow.os, hgrow.tape, hgrow.output, hgrow.size, fun i hi hn => hgrow.block i hi (fun e => hn (.inr e))⟩
  have hb1 : Blk w1 b _ _ := cells.chg (S := fun i => some i = (Value.slice A2 st.content.length cap2).ownBlock)
    ⟨hgrow.os, hgrow.tape, hgrow.output, hgrow.size, fun i hi hn => hgrow.block i hi hn⟩ (fun e => hne e.symm)
  have hchg2 := (hchg.setCell ⟨b, 2, none⟩ (.slice (some ⟨g, 0, none⟩) (st.content.length + k) cap') (fun _ => .inl rfl)).setCell ⟨b, 3, none⟩ (.int .i64 ((st.writes : Int) + 1)) (fun _ => .inl rfl)
  have hcg : Off CA (fun i => i = b ∨ some i = (Value.slice (some ⟨g, 0, none⟩) (st.content.length + k) cap').ownBlock) := by
    intro ad e hh
    rcases hh with hh | hh
    · exact hcne ad e (.inl hh)
    · have : ad.block = g := by simpa [Value.ownBlock] using hh
      rcases hor with h | h
      · exact hcne ad e (.inr (by rw [this, h]))
      · have := hclt ad e; simp at h; omega
  refine ⟨.slice (some ⟨g, 0, none⟩) (st.content.length + k) cap', ⟨?_, hch.chg hchg2 hcne, ?_, ?_, fun ad e => Nat.lt_of_lt_of_le (hclt ad e) hchg2.size, hcg⟩, hchg2, ?_⟩
  · have := (hb1.set 2 (.slice (some ⟨g, 0, none⟩) (st.content.length + k) cap')).set 3 (.int .i64 ((st.writes : Int) + 1))
    simpa [SinkSt.next] using this
  · rw [hlen]
    have h1 := own_chg hown (S := fun i => i = b) (w' := (w1.setCell ⟨b, 2, none⟩ (.slice (some ⟨g, 0, none⟩) (st.content.length + k) cap')).setCell ⟨b, 3, none⟩ (.int .i64 ((st.writes : Int) + 1)))
      (((Chg.refl (fun i => i = b) w1).setCell ⟨b, 2, none⟩ _ (fun _ => rfl)).setCell ⟨b, 3, none⟩ _ (fun _ => rfl)) (fun i hi e => by
        have : g = i := by simpa [Value.ownBlock] using hi
        omega)
    simpa [SinkSt.next, htook, by8_append] using h1
  · simpa [Value.ownBlock] using hgb
  · rcases hor with h | h
    · exact .inl (by rw [h]; rfl)
    · right; intro i hi
      have : g = i := by simpa [Value.ownBlock] using hi
      simp at h; omega

set_option maxHeartbeats 1000000 in
theorem sinkWrite_more (b : Nat) (v : Value) (CA A : Option Addr) (cc c : Nat) (st : SinkSt) (l : List UInt8) (w : World) (h : IsSink w b v CA cc st) (ok : SinkOk st)
    (hl : Rd w A (by8 l)) (hlen : l.length ≤ 100000000) (hcon : st.content.length ≤ 100000000) (hA : Off A (fun k => k = b ∨ some k = v.ownBlock))
    (hcap : l.length ≤ c) (h0 : 0 < l.length) (h1 : 0 < st.took l) :
    Calls Try.prog 20 #[.pointer (some ⟨b, 0, none⟩), .slice A l.length c] w fun e w' => e = .returned (.tuple #[.int .i64 (st.took l), .int .i64 0]) ∧
      ∃ v', IsSink w' b v' CA cc (st.next l) ∧ Chg (fun k => k = b ∨ some k = v.ownBlock) w w' ∧ (v'.ownBlock = v.ownBlock ∨ ∀ k, v'.ownBlock = some k → w.heap.size ≤ k) := by
  obtain ⟨i0, hi, hz0, hz1, hz2⟩ := info_parts infoU8
  obtain ⟨cells, hch, hrow, hne, hclt, hcne⟩ := h
  obtain ⟨ag, ao, rfl, hlc⟩ : ∃ g off, A = some ⟨g, off, none⟩ ∧ ∀ j u, (by8 l)[j]? = some u → w.cell? ⟨g, off + j, none⟩ = some u := by
    rcases hl with h | h
    · exfalso; have := by8_length l; rw [h] at this; simp at this; omega
    · exact h
  have c0 := cells.cell 0
  have c1 := cells.cell 1
  have c2 := cells.cell 2
  have c3 := cells.cell 3
  simp only [List.getElem?_toArray, List.getElem?_cons_zero, List.getElem?_cons_succ] at c0 c1 c2 c3
  obtain ⟨A2, cap2, rfl, hcap2, _⟩ := own_form hrow
  obtain ⟨k, hk⟩ : ∃ k : Nat, roomOf st.chunks st.failAt st.content.length st.writes = k := by
    refine ⟨(roomOf st.chunks st.failAt st.content.length st.writes).toNat, ?_⟩
    simp only [SinkSt.took, mn2] at h1
    split at h1 <;> omega
  have hroom := sinkRoom b st.content.length cap2 cc A2 CA st.chunks st.failAt st.writes w c0 c1 c2 c3 hch (by have := ok.clen; omega) (by have := ok.writes; omega) (by omega) ok.fail ok.cwf
  rw [hk] at hroom
  have htook : st.took l = if k < l.length then k else l.length := by
    simp only [SinkSt.took, hk, mn2]; split <;> split <;> omega
  have hk1 : 0 < k := by rw [htook] at h1; split at h1 <;> omega
  clear hk
  have hwr : st.writes ≤ 100000000 := by have := ok.writes; omega
  have hbl := cells.lt
  have hne' : some b ≠ (Value.slice A2 st.content.length cap2).ownBlock := fun h => hne h.symm
  have HNE := Lib.hid hne'; clear hne'
  have f2 := cells.free 2
  have f3 := cells.free 3
  have hnil : ((l.length : Int) == 0) = false := by simp; intro h; subst h; simp at h0
  by_cases hlt : k < l.length
  · rw [if_pos hlt] at htook
    have HT := Lib.hid htook; clear htook
    have HR := Lib.hid hroom; clear hroom
    go_enter Try.func20, Try.ntmps20
    go_wp2_with (go_at_call 25; refine HR.out.mono ?_; rintro e w' ⟨rfl, q, rfl⟩)
    have hnews : (by8 (l.take k)).length = k * 1 := by rw [by8_length, List.length_take]; omega
    have hcells : ∀ (W : World), (∀ x, W.cell? x = w.cell? x) → ∀ (j : Nat) (u : Value), (by8 (l.take k))[j]? = some u → W.cell? ((⟨ag, ao, none⟩ : Addr).add j) = some u := by
      intro W hW j u hu
      rw [hW, show ((⟨ag, ao, none⟩ : Addr).add j) = ⟨ag, ao + j, none⟩ by unfold Addr.add; split <;> simp_all]
      refine hlc j u ?_
      rw [by8_take, List.getElem?_take] at hu
      split at hu
      · exact hu
      · cases hu
    have hone : ∀ u ∈ by8 (l.take k), u.oneCell' = true := by
      intro u hu; simp only [by8, List.mem_map] at hu; obtain ⟨x, _, rfl⟩ := hu; rfl
    have HC := Lib.hid hcells; clear hcells
    have HL := Lib.hid hlc; clear hlc
    have HN := Lib.hid hnews; clear hnews
    have HO := Lib.hid hone; clear hone
    have HW := Lib.hid hrow; clear hrow
    have hlk : (k : Int) ≤ c := by omega
    go_region_law (refine step_append_lies _ rfl (.tmp 23) (.tmp 26) 36 rfl 0 5 i0 (.int .u8 0) 1 1 Try.underlying36 hi hz0 hz1 hz2 rfl (by decide) _ _ (by8 st.content) (by simp [Act.eval, Act.put]) HW.out ⟨ag, ao, none⟩ k c (by8 (l.take k)) (by simp [Act.eval, Act.put]) HN.out (HC.out _ (fun _ => rfl)) HO.out hk1 (by unfold maxLen; omega) (by omega) (by omega) _ rfl ?_; intro g cap' w1 hown1 hgrow hor hgl; have e2 := (hgrow.cell_far ⟨b, 2, none⟩ hbl HNE.out).trans c2; have e3 := (hgrow.cell_far ⟨b, 3, none⟩ hbl HNE.out).trans c3; have g2 := (hgrow.frozen_far ⟨b, 2, none⟩ hbl HNE.out).trans f2; have g3 := (hgrow.frozen_far ⟨b, 3, none⟩ hbl HNE.out).trans f3)
    go_wp2
    go_ret2
    exact ⟨by rw [HT.out]; rfl, sink_close ⟨cells, hch, HW.out, hne, hclt, hcne⟩ HT.out (by omega) hown1 hgrow hor⟩
  · rw [if_neg hlt] at htook
    have HT := Lib.hid htook; clear htook
    have HR := Lib.hid hroom; clear hroom
    go_enter Try.func20, Try.ntmps20
    go_wp2_with (go_at_call 25; refine HR.out.mono ?_; rintro e w' ⟨rfl, q, rfl⟩)
    have hnews : (by8 (l.take l.length)).length = l.length * 1 := by rw [by8_length, List.length_take]; omega
    have hcells : ∀ (W : World), (∀ x, W.cell? x = w.cell? x) → ∀ (j : Nat) (u : Value), (by8 (l.take l.length))[j]? = some u → W.cell? ((⟨ag, ao, none⟩ : Addr).add j) = some u := by
      intro W hW j u hu
      rw [hW, show ((⟨ag, ao, none⟩ : Addr).add j) = ⟨ag, ao + j, none⟩ by unfold Addr.add; split <;> simp_all]
      refine hlc j u ?_
      rw [by8_take, List.getElem?_take] at hu
      split at hu
      · exact hu
      · cases hu
    have hone : ∀ u ∈ by8 (l.take l.length), u.oneCell' = true := by
      intro u hu; simp only [by8, List.mem_map] at hu; obtain ⟨x, _, rfl⟩ := hu; rfl
    have HC := Lib.hid hcells; clear hcells
    have HL := Lib.hid hlc; clear hlc
    have HN := Lib.hid hnews; clear hnews
    have HO := Lib.hid hone; clear hone
    have HW := Lib.hid hrow; clear hrow
    have hlk : (l.length : Int) ≤ c := by omega
    go_region_law (refine step_append_lies _ rfl (.tmp 23) (.tmp 26) 36 rfl 0 5 i0 (.int .u8 0) 1 1 Try.underlying36 hi hz0 hz1 hz2 rfl (by decide) _ _ (by8 st.content) (by simp [Act.eval, Act.put]) HW.out ⟨ag, ao, none⟩ l.length c (by8 (l.take l.length)) (by simp [Act.eval, Act.put]) HN.out (HC.out _ (fun _ => rfl)) HO.out h0 (by unfold maxLen; omega) (by omega) (by omega) _ rfl ?_; intro g cap' w1 hown1 hgrow hor hgl; have e2 := (hgrow.cell_far ⟨b, 2, none⟩ hbl HNE.out).trans c2; have e3 := (hgrow.cell_far ⟨b, 3, none⟩ hbl HNE.out).trans c3; have g2 := (hgrow.frozen_far ⟨b, 2, none⟩ hbl HNE.out).trans f2; have g3 := (hgrow.frozen_far ⟨b, 3, none⟩ hbl HNE.out).trans f3)
    go_wp2
    go_ret2
    exact ⟨by rw [HT.out]; rfl, sink_close ⟨cells, hch, HW.out, hne, hclt, hcne⟩ HT.out (by omega) hown1 hgrow hor⟩

theorem IsSink.drewN {w : World} {b : Nat} {v : Value} {CA : Option Addr} {cc : Nat} {st : SinkSt} (h : IsSink w b v CA cc st) (q : Nat) : IsSink (w.drewN q) b v CA cc st := ⟨h.blk, h.chunks, h.row, h.ne, h.clt, h.cne⟩

def SinkSt.err (st : SinkSt) (l : List UInt8) : Int := if l = [] ∨ 0 < st.took l then 0 else 11
def SinkSt.put (st : SinkSt) (l : List UInt8) : SinkSt := if 0 < st.took l then st.next l else st

theorem sinkWrite_nil (b : Nat) (A : Option Addr) (c : Nat) (w : World) :
    Calls Try.prog 20 #[.pointer (some ⟨b, 0, none⟩), .slice A 0 c] w fun e w' => e = .returned (.tuple #[.int .i64 0, .int .i64 0]) ∧ w' = w := by
  go_enter Try.func20, Try.ntmps20
  go_wp2_with fail
  go_ret2
  exact ⟨rfl, rfl⟩

set_option maxHeartbeats 1000000 in
theorem sinkWrite_full (b : Nat) (v : Value) (CA A : Option Addr) (cc c : Nat) (st : SinkSt) (l : List UInt8) (w : World) (h : IsSink w b v CA cc st) (ok : SinkOk st)
    (hlen : l.length ≤ 100000000) (hcon : st.content.length ≤ 100000000) (h0 : 0 < l.length) (h1 : st.took l = 0) :
    Calls Try.prog 20 #[.pointer (some ⟨b, 0, none⟩), .slice A l.length c] w fun e w' => e = .returned (.tuple #[.int .i64 0, .int .i64 11]) ∧ ∃ q, w' = w.drewN q := by
  obtain ⟨cells, hch, hrow, hne, hclt, hcne⟩ := h
  have c0 := cells.cell 0
  have c1 := cells.cell 1
  have c2 := cells.cell 2
  have c3 := cells.cell 3
  simp only [List.getElem?_toArray, List.getElem?_cons_zero, List.getElem?_cons_succ] at c0 c1 c2 c3
  obtain ⟨A2, cap2, rfl, hcap2, _⟩ := own_form hrow
  have hk : roomOf st.chunks st.failAt st.content.length st.writes = 0 := by
    have h2 : 0 ≤ roomOf st.chunks st.failAt st.content.length st.writes := by
      have : 0 ≤ chunkOf st.chunks st.writes := by unfold chunkOf mx1; repeat' split
                                                   all_goals omega
      unfold roomOf mn2; repeat' split
      all_goals omega
    simp only [SinkSt.took, mn2] at h1
    split at h1 <;> omega
  have hroom := sinkRoom b st.content.length cap2 cc A2 CA st.chunks st.failAt st.writes w c0 c1 c2 c3 hch (by have := ok.clen; omega) (by have := ok.writes; omega) (by omega) ok.fail ok.cwf
  rw [hk] at hroom
  have HR := Lib.hid hroom; clear hroom hk h1
  have hlt : (0 : Int) < l.length := by omega
  have hnil : ((l.length : Int) == 0) = false := by simp; intro h; subst h; simp at h0
  go_enter Try.func20, Try.ntmps20
  go_wp2_with (go_at_call 25; refine HR.out.mono ?_; rintro e w' ⟨rfl, q, rfl⟩)
  go_ret2
  exact ⟨rfl, _, rfl⟩

theorem sinkWrite (b : Nat) (v : Value) (CA A : Option Addr) (cc c : Nat) (st : SinkSt) (l : List UInt8) (w : World) (h : IsSink w b v CA cc st) (ok : SinkOk st)
    (hl : Rd w A (by8 l)) (hlen : l.length ≤ 100000000) (hcon : st.content.length ≤ 100000000) (hA : Off A (fun k => k = b ∨ some k = v.ownBlock)) (hcap : l.length ≤ c) :
    Calls Try.prog 20 #[.pointer (some ⟨b, 0, none⟩), .slice A l.length c] w fun e w' => e = .returned (.tuple #[.int .i64 (st.took l), .int .i64 (st.err l)]) ∧
      ∃ v', IsSink w' b v' CA cc (st.put l) ∧ Chg (fun k => k = b ∨ some k = v.ownBlock) w w' ∧ (v'.ownBlock = v.ownBlock ∨ ∀ k, v'.ownBlock = some k → w.heap.size ≤ k) := by
  by_cases h0 : 0 < l.length
  · by_cases h1 : 0 < st.took l
    · have e1 : st.err l = 0 := by simp [SinkSt.err, h1]
      have e2 : st.put l = st.next l := by simp [SinkSt.put, h1]
      rw [e1, e2]
      exact sinkWrite_more b v CA A cc c st l w h ok hl hlen hcon hA hcap h0 h1
    · have e1 : st.err l = 11 := by
        have : l ≠ [] := by intro e; simp [e] at h0
        simp only [SinkSt.err]; rw [if_neg]; rintro (h | h) <;> contradiction
      have e2 : st.put l = st := by simp only [SinkSt.put]; rw [if_neg h1]
      have e3 : st.took l = 0 := by omega
      rw [e1, e2, e3]
      refine (sinkWrite_full b v CA A cc c st l w h ok hlen hcon h0 e3).mono ?_
      rintro e w' ⟨rfl, q, rfl⟩
      exact ⟨rfl, v, h.drewN q, (Chg.refl _ _).drewN q, .inl rfl⟩
  · obtain rfl : l = [] := by cases l with | nil => rfl | cons a t => simp at h0
    have e3 : st.took [] = 0 := by simp only [SinkSt.took, mn2, List.length_nil]; split <;> omega
    have e1 : st.err [] = 0 := by simp [SinkSt.err]
    have e2 : st.put [] = st := by simp only [SinkSt.put]; rw [if_neg (by omega)]
    rw [e1, e2, e3]
    refine (sinkWrite_nil b A c w).mono ?_
    rintro e w' ⟨rfl, rfl⟩
    exact ⟨rfl, v, h, Chg.refl _ _, .inl rfl⟩

theorem SinkSt.put_ok {st : SinkSt} (ok : SinkOk st) (l : List UInt8) : SinkOk (st.put l) := by
  unfold SinkSt.put
  split
  · rename_i h
    have hk : st.took l ≤ l.length := by
      simp only [SinkSt.took, mn2]; split <;> omega
    have hl : (st.next l).content.length = st.content.length + st.took l := by simp [SinkSt.next, List.length_take]; omega
    refine ⟨ok.clen, ok.cwf, ok.fail, ?_, ?_⟩
    · rw [hl]; have := ok.writes; simp only [SinkSt.next]; omega
    · intro hf
      rw [hl]
      have h1 := ok.room hf
      simp only [SinkSt.next] at hf ⊢
      have h2 : roomOf st.chunks st.failAt st.content.length st.writes ≤ st.failAt - st.content.length := by
        unfold roomOf; rw [if_pos ⟨hf, h1⟩]; unfold mn2; split <;> omega
      have h3 : (st.took l : Int) ≤ roomOf st.chunks st.failAt st.content.length st.writes := by
        simp only [SinkSt.took, mn2] at h ⊢; split <;> rename_i h4
        · omega
        · rw [if_neg h4] at h; omega
      omega
  · exact ok

end Go.Proofs.Ytgbpoehhikiieaa
