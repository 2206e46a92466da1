/- The reference sink's Write as one contract, and WriteAll. -/
import Derived.Test.YtgbpoehhikiieaaRefC
import Derived.LoopTactic
set_option linter.unusedVariables false
set_option linter.unusedSimpArgs false
namespace Go.Proofs.Ytgbpoehhikiieaa
open Go.RowKit

theorem IsRef.drewN {w : World} {b : Nat} {v : Value} {CA : Option Addr} {cc : Nat} {st : SinkSt} (h : IsRef w b v CA cc st) (q : Nat) : IsRef (w.drewN q) b v CA cc st := ⟨h.nil, h.blk, h.chunks, h.row, h.ne, h.clt, h.cne⟩

theorem full_eq {st : SinkSt} {l : List UInt8} (ok : SinkOk st) (h0 : 0 < l.length) (h1 : st.took l = 0) : st.failAt = st.content.length := by
  have hc := chunk_pos st.chunks st.writes
  by_cases hf : 0 ≤ st.failAt ∧ (st.content.length : Int) ≤ st.failAt
  · have h3 : roomOf st.chunks st.failAt st.content.length st.writes = mn2 (chunkOf st.chunks st.writes) (st.failAt - st.content.length) := by unfold roomOf; rw [if_pos hf]
    simp only [SinkSt.took, h3] at h1
    unfold mn2 at h1
    repeat' split at h1
    all_goals omega
  · have h3 : roomOf st.chunks st.failAt st.content.length st.writes = chunkOf st.chunks st.writes := by unfold roomOf; rw [if_neg hf]
    simp only [SinkSt.took, h3] at h1
    unfold mn2 at h1
    split at h1
    all_goals omega

theorem refWrite (b : Nat) (v : Value) (CA A : Option Addr) (cc c : Nat) (st : SinkSt) (l : List UInt8) (w : World) (h : IsRef w b v CA cc st) (ok : SinkOk st)
    (hl : Rd w A (by8 l)) (hlen : l.length ≤ 100000000) (hcon : st.content.length ≤ 100000000) (hcap : l.length ≤ c) :
    Calls Try.prog 26 #[.pointer (some ⟨b, 0, none⟩), .slice A l.length c] w fun e w' => e = .returned (.tuple #[.int .i64 (st.took l), .int .i64 (st.err l)]) ∧
      ∃ v', IsRef w' b v' CA cc (st.put l) ∧ Chg (fun k => k = b) w w' ∧ (v' = v ∨ ∀ k, v'.ownBlock = some k → w.heap.size ≤ k) := by
  by_cases h0 : 0 < l.length
  · by_cases h1 : 0 < st.took l
    · have e1 : st.err l = 0 := by simp [SinkSt.err, h1]
      have e2 : st.put l = st.next l := by simp [SinkSt.put, h1]
      rw [e1, e2]
      by_cases hc : st.content = []
      · exact (refWrite_first b v CA A cc c st l w h ok hl hlen hcap hc h0 h1).mono fun e w' ⟨he, v', h1, h2, h3⟩ => ⟨he, v', h1, h2, .inr h3⟩
      · exact (refWrite_more b v CA A cc c st l w h ok hl hlen hcon hcap (by cases hh : st.content with | nil => exact absurd hh hc | cons a t => simp) h0 h1).mono fun e w' ⟨he, v', h1, h2, h3⟩ => ⟨he, v', h1, h2, .inr h3⟩
    · have e1 : st.err l = 11 := by
        have : l ≠ [] := by intro e; simp [e] at h0
        simp only [SinkSt.err]; rw [if_neg]; rintro (h | h) <;> contradiction
      have e2 : st.put l = st := by simp only [SinkSt.put]; rw [if_neg h1]
      have e3 : st.took l = 0 := by omega
      rw [e1, e2, e3]
      refine (refWrite_full b v CA A cc c st l w h hlen hcon h0 (full_eq ok h0 e3)).mono ?_
      rintro e w' ⟨rfl, q, rfl⟩
      exact ⟨rfl, v, h.drewN q, (Chg.refl _ _).drewN q, .inl rfl⟩
  · obtain rfl : l = [] := by cases l with | nil => rfl | cons a t => simp at h0
    have e3 : st.took [] = 0 := by simp only [SinkSt.took, mn2, List.length_nil]; split <;> omega
    have e1 : st.err [] = 0 := by simp [SinkSt.err]
    have e2 : st.put [] = st := by simp only [SinkSt.put]; rw [if_neg (by omega)]
    rw [e1, e2, e3]
    refine (refWrite_nil b A c w).mono ?_
    rintro e w' ⟨rfl, rfl⟩
    exact ⟨rfl, v, h, Chg.refl _ _, .inl rfl⟩

theorem took_le (st : SinkSt) (l : List UInt8) : st.took l ≤ l.length := by
  simp only [SinkSt.took, mn2]; split <;> omega

/-- All of l is written, in as many writes as are wanted: the state, the error. -/
def SinkSt.all (st : SinkSt) (l : List UInt8) : SinkSt × Int :=
  if h : l = [] then (st, 0) else if h1 : st.took l = 0 then (st, 11) else SinkSt.all (st.put l) (l.drop (st.took l))
termination_by l.length
decreasing_by
  have : 0 < l.length := by cases l with | nil => contradiction | cons a t => simp
  simp only [List.length_drop]; omega

theorem put_len (st : SinkSt) (l : List UInt8) : (st.put l).content.length = st.content.length + st.took l := by
  have := took_le st l
  unfold SinkSt.put
  split
  · simp [SinkSt.next, List.length_take]; omega
  · omega

theorem err_full {st : SinkSt} {l : List UInt8} (h0 : l ≠ []) (h1 : st.took l = 0) : st.err l = 11 := by
  simp only [SinkSt.err]; rw [if_neg]; rintro (h | h)
  · exact h0 h
  · omega
theorem err_some {st : SinkSt} {l : List UInt8} (h1 : st.took l ≠ 0) : st.err l = 0 := by
  simp only [SinkSt.err]; rw [if_pos]; right; omega
theorem put_full {st : SinkSt} {l : List UInt8} (h1 : st.took l = 0) : st.put l = st := by
  simp only [SinkSt.put]; rw [if_neg (by omega)]
theorem all_nil (st : SinkSt) : st.all [] = (st, 0) := by rw [SinkSt.all]; simp
theorem all_full {st : SinkSt} {l : List UInt8} (h0 : l ≠ []) (h1 : st.took l = 0) : st.all l = (st, 11) := by rw [SinkSt.all]; simp [h0, h1]
theorem all_step {st : SinkSt} {l : List UInt8} (h0 : l ≠ []) (h1 : st.took l ≠ 0) : st.all l = (st.put l).all (l.drop (st.took l)) := by
  conv => lhs; rw [SinkSt.all]
  simp [h0, h1]

def slLen : Value → Nat | .slice _ n _ => n | _ => 0

/-- The loop of WriteAll: what is left, and where. -/
structure RefLoop (w : World) (b : Nat) (v : Value) (CA : Option Addr) (cc : Nat) (st : SinkSt) (l : List UInt8) (bv : Value) (wr : World) : Prop where
  out : ∃ (A' : Option Addr) (c' : Nat) (rest : List UInt8) (v' : Value) (st' : SinkSt), bv = .slice A' rest.length c' ∧ Rd wr A' (by8 rest) ∧ rest.length ≤ c' ∧ (∀ ad, A' = some ad → rest ≠ [] → ad.block ≠ b) ∧
    IsRef wr b v' CA cc st' ∧ SinkOk st' ∧ st'.content.length + rest.length ≤ st.content.length + l.length ∧ Chg (fun k => k = b) w wr ∧ (v' = v ∨ ∀ k, v'.ownBlock = some k → w.heap.size ≤ k) ∧ st'.all rest = st.all l

set_option maxHeartbeats 1000000 in
theorem refWriteAll (b : Nat) (v : Value) (CA A : Option Addr) (cc c : Nat) (st : SinkSt) (l : List UInt8) (w : World) (h : IsRef w b v CA cc st) (ok : SinkOk st)
    (hl : Rd w A (by8 l)) (hsz : st.content.length + l.length ≤ 100000000) (hcap : l.length ≤ c) (hA : ∀ ad, A = some ad → l ≠ [] → ad.block ≠ b) :
    Calls Try.prog 22 #[.pointer (some ⟨b, 0, none⟩), .slice A l.length c] w fun e w' => e = .returned (.int .i64 (st.all l).2) ∧
      ∃ v', IsRef w' b v' CA cc (st.all l).1 ∧ Chg (fun k => k = b) w w' ∧ (v' = v ∨ ∀ k, v'.ownBlock = some k → w.heap.size ≤ k) := by
  have hstart : RefLoop w b v CA cc st l (.slice A l.length c) w := ⟨⟨A, c, l, v, st, rfl, hl, hcap, hA, h, ok, Nat.le_refl _, Chg.refl _ _, .inl rfl, rfl⟩⟩
  clear h ok hl hcap hA
  go_enter Try.func22, Try.ntmps22
  go_wp2_with fail
  go_loopw [1] (fun bv wr => RefLoop w b v CA cc st l bv wr) (fun bv _ => slLen bv)
  case atStart => exact hstart
  case round =>
    obtain ⟨A', c', rest, v', st', rfl, hr, hc', hA', hi, ok', hsum, hch, hv', hall⟩ := hrel.out
    clear hstart hrel
    by_cases h0 : rest = []
    · subst h0
      have hfin : st.all l = (st', 0) := by rw [← hall, all_nil]
      have HF := Lib.hid hfin; clear hfin hall
      simp only [List.length_nil]
      go_wp2_with fail
      go_ret
      exact ⟨by rw [HF.out]; rfl, v', by rw [HF.out]; exact ⟨hi, hch, hv'⟩⟩
    · have hpos : 0 < rest.length := by cases hh : rest with | nil => exact absurd hh h0 | cons a t => simp
      have hw := refWrite b v' CA A' cc c' st' rest wr hi ok' hr (by omega) (by omega) hc'
      by_cases h1 : st'.took rest = 0
      · have hfin : st.all l = (st', 11) := by rw [← hall, all_full h0 h1]
        have e1 : st'.err rest = 11 := err_full h0 h1
        have e2 : st'.put rest = st' := put_full h1
        rw [e1, e2] at hw
        have HF := Lib.hid hfin; clear hfin hall
        have HW := Lib.hid hw; clear hw e1 e2 h1 h0
        go_wp2_with (go_at_call 26; refine HW.out.mono ?_; rintro e w1 ⟨rfl, v1, hi1, hch1, hv1⟩)
        go_ret
        refine ⟨by rw [HF.out]; rfl, v1, ?_⟩
        rw [HF.out]
        refine ⟨hi1, hch.trans hch1 (fun _ _ h => h) (fun _ _ h => h), ?_⟩
        rcases hv1 with rfl | h
        · exact hv'
        · exact .inr fun k hk => Nat.le_trans hch.size (h k hk)
      · have hfin : (st'.put rest).all (rest.drop (st'.took rest)) = st.all l := by rw [← hall, all_step h0 h1]
        have e1 : st'.err rest = 0 := err_some h1
        rw [e1] at hw
        have htl := took_le st' rest
        have hpl := put_len st' rest
        have hdl : (rest.drop (st'.took rest)).length = rest.length - st'.took rest := List.length_drop ..
        have hok2 := SinkSt.put_ok ok' rest
        generalize hput : st'.put rest = st2 at *
        generalize htk : st'.took rest = T at *
        have hdrop : Rd wr A' (by8 rest) := hr
        clear hput htk e1 h0
        have HF := Lib.hid hfin; clear hfin hall
        have HW := Lib.hid hw; clear hw
        have HD := Lib.hid hdl; clear hdl
        have HP := Lib.hid hpl; clear hpl
        have hT : 0 < T := by omega
        clear h1
        have hTc : (T : Int) ≤ c' := by omega
        by_cases hcT : c' = T
        · have hcT' : T = c' := hcT.symm
          clear hcT
          subst hcT'
          go_wp2_with (go_at_call 26; refine HW.out.mono ?_; rintro e w1 ⟨rfl, v1, hi1, hch1, hv1⟩)
          go_roundw
          case rel =>
            have hd0 : rest.drop T = [] := by have := HD.out; apply List.eq_nil_of_length_eq_zero; omega
            refine ⟨⟨A', T - T, rest.drop T, v1, st2, by rw [HD.out, show rest.length - T = 0 by omega, show T - T = 0 by omega], by rw [hd0]; exact .inl rfl, by rw [HD.out]; omega, fun ad e hne => absurd hd0 hne, hi1, hok2, by rw [HD.out, HP.out]; omega, hch.trans hch1 (fun _ _ h => h) (fun _ _ h => h), ?_, HF.out⟩⟩
            rcases hv1 with rfl | h
            · exact hv'
            · exact .inr fun k hk => Nat.le_trans hch.size (h k hk)
          case measure => simp [slLen]; omega
        · go_wp2_with (go_at_call 26; refine HW.out.mono ?_; rintro e w1 ⟨rfl, v1, hi1, hch1, hv1⟩)
          go_roundw
          case rel =>
            have hr1 : Rd w1 A' (by8 rest) := by
              rcases hr with h | ⟨g, off, rfl, h⟩
              · exact .inl h
              · exact Rd.chg (.inr ⟨g, off, rfl, h⟩) hch1 (fun ad e hh => hA' ad e (fun e => by rw [e] at hpos; simp at hpos) hh)
            have hr2 := hr1.drop T
            rw [← by8_drop] at hr2
            refine ⟨⟨_, c' - T, rest.drop T, v1, st2, by rw [HD.out], hr2, by rw [HD.out]; omega, ?_, hi1, hok2, by rw [HD.out, HP.out]; omega, hch.trans hch1 (fun _ _ h => h) (fun _ _ h => h), ?_, HF.out⟩⟩
            · intro ad e hne
              obtain ⟨ad0, e0, rfl⟩ := Option.map_eq_some_iff.1 e
              have := hA' ad0 e0 (fun e => by rw [e] at hpos; simp at hpos)
              unfold Addr.add; split <;> simpa using this
            · rcases hv1 with rfl | h
              · exact hv'
              · exact .inr fun k hk => Nat.le_trans hch.size (h k hk)
          case measure => simp [slLen]; omega
end Go.Proofs.Ytgbpoehhikiieaa
