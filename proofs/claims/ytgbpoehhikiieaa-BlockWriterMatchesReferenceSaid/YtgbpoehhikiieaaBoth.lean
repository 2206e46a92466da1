/- The two sinks and writers side by side. -/
import Derived.Test.YtgbpoehhikiieaaAlive
import Derived.Laws.BytesArg
set_option linter.unusedVariables false
set_option linter.unusedSimpArgs false
namespace Go.Proofs.Ytgbpoehhikiieaa
open Go.RowKit

theorem blk_ne {w : World} {a b : Nat} {cs cs' : Array Value} {T T' : TypeId} (h : Blk w a cs T) (h' : Blk w b cs' T') (hT : T ≠ T') : a ≠ b := by
  intro e; subst e
  unfold Blk at h h'
  rw [h] at h'; injection h' with h'; injection h' with _ h1; exact hT h1

def strB (l : List UInt8) : ByteArray := strOfNums (l.map fun b => (b.toNat : Int))

theorem conv_law (w : World) (A : Option Addr) (n c : Nat) (l : List UInt8) (h : w.ownsRow 0 5 1 (.slice A n c) n (by8 l)) :
    (convert 36 9 (.slice A n c)).run Try.prog w = .ok (.string (strB l)) w := by
  have hl : l.length = n := by have := h.1; rw [by8_length] at this; omega
  rcases h.2 with ⟨hv, h0⟩ | ⟨g, cap, cur, hv, _⟩
  · injection hv with h1 h2 h3
    subst h1
    obtain rfl : l = [] := List.eq_nil_of_length_eq_zero (by omega)
    rw [run_convert_bytes_nil (P := Try.prog) (w := w) 36 5 Try.underlying36 Try.underlying5 n c 9 Try.underlying9]
    rfl
  · injection hv with h1 h2 h3
    subst h1
    refine run_convert_bytes_arg (P := Try.prog) (w := w) 36 5 Try.underlying36 Try.underlying5 g 0 n c (l.map fun b => (b.toNat : Int)) (by simpa using hl) ?_ 9 Try.underlying9
    intro i hi
    have := h.cells (g := g) rfl i (.int .u8 ((l.map fun b => (b.toNat : Int)).getD i 0)) (by simp [by8, List.getD, show i < l.length by omega])
    rw [show ((⟨g, 0, none⟩ : Addr).add i) = ⟨g, 0 + i, none⟩ by unfold Addr.add; split <;> simp_all] at this
    exact this

structure Both (w0 : World) (sb tb wb mb : Nat) (CA CA' : Option Addr) (cc cc' : Nat) (v v' : Value) (st : SinkSt) (err : Int) (wr : World) : Prop where
  s : IsSink wr sb v CA cc st
  t : IsRef wr tb v' CA' cc' st
  w : Blk wr wb #[.int .i64 (st.content.length : Int), .int .i64 err, .pointer (some ⟨sb, 0, none⟩)] 63
  m : Blk wr mb #[.pointer (some ⟨tb, 0, none⟩), .int .i64 (st.content.length : Int), .int .i64 err] 35
  ok : SinkOk st
  ge : w0.heap.size ≤ sb ∧ w0.heap.size ≤ tb ∧ w0.heap.size ≤ wb ∧ w0.heap.size ≤ mb
  chg : Chg (fun _ => False) w0 wr
  vge : ∀ k, v.ownBlock = some k → w0.heap.size ≤ k ∧ k ≠ sb ∧ k ≠ tb ∧ k ≠ wb ∧ k ≠ mb ∧ k < wr.heap.size ∧ v'.ownBlock ≠ some k
  vge' : ∀ k, v'.ownBlock = some k → w0.heap.size ≤ k ∧ k ≠ sb ∧ k ≠ tb ∧ k ≠ wb ∧ k ≠ mb ∧ k < wr.heap.size
  ca : ∀ ad, CA = some ad → w0.heap.size ≤ ad.block ∧ ad.block ≠ sb ∧ ad.block ≠ tb ∧ ad.block ≠ wb ∧ ad.block ≠ mb ∧ v.ownBlock ≠ some ad.block ∧ v'.ownBlock ≠ some ad.block ∧ ad.block < wr.heap.size
  ca' : ∀ ad, CA' = some ad → w0.heap.size ≤ ad.block ∧ ad.block ≠ sb ∧ ad.block ≠ tb ∧ ad.block ≠ wb ∧ ad.block ≠ mb ∧ v.ownBlock ≠ some ad.block ∧ v'.ownBlock ≠ some ad.block ∧ ad.block < wr.heap.size

theorem Both.dist {w0 : World} {sb tb wb mb : Nat} {CA CA' : Option Addr} {cc cc' : Nat} {v v' : Value} {st : SinkSt} {err : Int} {wr : World} (h : Both w0 sb tb wb mb CA CA' cc cc' v v' st err wr) :
    sb ≠ tb ∧ sb ≠ wb ∧ sb ≠ mb ∧ tb ≠ wb ∧ tb ≠ mb ∧ wb ≠ mb :=
  ⟨blk_ne h.s.blk h.t.blk (by decide), blk_ne h.s.blk h.w (by decide), blk_ne h.s.blk h.m (by decide), blk_ne h.t.blk h.w (by decide), blk_ne h.t.blk h.m (by decide), blk_ne h.w h.m (by decide)⟩

/-- What the first writer's call leaves. -/
structure Mid (w0 : World) (sb tb wb mb : Nat) (CA CA' : Option Addr) (cc cc' : Nat) (v v1 v' : Value) (st st1 : SinkSt) (err err1 : Int) (wr w1 : World) : Prop where
  s : IsSink w1 sb v1 CA cc st1
  t : IsRef w1 tb v' CA' cc' st
  w : Blk w1 wb #[.int .i64 (st1.content.length : Int), .int .i64 err1, .pointer (some ⟨sb, 0, none⟩)] 63
  m : Blk w1 mb #[.pointer (some ⟨tb, 0, none⟩), .int .i64 (st.content.length : Int), .int .i64 err] 35
  chg : Chg (fun k => k = sb ∨ k = wb ∨ some k = v.ownBlock) wr w1
  own : v1.ownBlock = v.ownBlock ∨ ∀ k, v1.ownBlock = some k → wr.heap.size ≤ k

theorem Both.mid {w0 : World} {sb tb wb mb : Nat} {CA CA' : Option Addr} {cc cc' : Nat} {v v' v1 : Value} {st st1 : SinkSt} {err err1 : Int} {wr w1 : World} (h : Both w0 sb tb wb mb CA CA' cc cc' v v' st err wr)
    (h1 : IsSink w1 sb v1 CA cc st1) (h2 : Blk w1 wb #[.int .i64 (st1.content.length : Int), .int .i64 err1, .pointer (some ⟨sb, 0, none⟩)] 63)
    (h3 : Chg (fun k => k = sb ∨ k = wb ∨ some k = v.ownBlock) wr w1) (h4 : v1.ownBlock = v.ownBlock ∨ ∀ k, v1.ownBlock = some k → wr.heap.size ≤ k) :
    Mid w0 sb tb wb mb CA CA' cc cc' v v1 v' st st1 err err1 wr w1 := by
  obtain ⟨d1, d2, d3, d4, d5, d6⟩ := h.dist
  have hS : ∀ k, k ≠ sb → k ≠ wb → v.ownBlock ≠ some k → ¬ (k = sb ∨ k = wb ∨ some k = v.ownBlock) := by
    intro k a b c hh; rcases hh with hh | hh | hh
    · exact a hh
    · exact b hh
    · exact c hh.symm
  have htb : v.ownBlock ≠ some tb := fun e => (h.vge tb e).2.2.1 rfl
  have hmb : v.ownBlock ≠ some mb := fun e => (h.vge mb e).2.2.2.2.1 rfl
  refine ⟨h1, ⟨h.t.nil, h.t.blk.chg h3 (hS _ (fun e => d1 e.symm) d4 htb), h.t.chunks.chg h3 ?_, own_chg h.t.row h3 ?_, h.t.ne, fun ad e => Nat.lt_of_lt_of_le (h.t.clt ad e) h3.size, h.t.cne⟩, h2, h.m.chg h3 (hS _ (fun e => d3 e.symm) (fun e => d6 e.symm) hmb), h3, h4⟩
  · intro ad e
    have := h.ca' ad e
    exact hS _ this.2.1 this.2.2.2.1 this.2.2.2.2.2.1
  · intro k hk
    have := h.vge' k hk
    exact hS _ this.2.1 this.2.2.2.1 (fun e => (h.vge k e).2.2.2.2.2.2 hk)

theorem Both.fin {w0 : World} {sb tb wb mb : Nat} {CA CA' : Option Addr} {cc cc' : Nat} {v v' v1 v2 : Value} {st st1 : SinkSt} {err err1 : Int} {wr w1 w2 : World} (h : Both w0 sb tb wb mb CA CA' cc cc' v v' st err wr)
    (g : Mid w0 sb tb wb mb CA CA' cc cc' v v1 v' st st1 err err1 wr w1) (ok : SinkOk st1)
    (h1 : IsRef w2 tb v2 CA' cc' st1) (h2 : Blk w2 mb #[.pointer (some ⟨tb, 0, none⟩), .int .i64 (st1.content.length : Int), .int .i64 err1] 35)
    (h3 : Chg (fun k => k = tb ∨ k = mb) w1 w2) (h4 : v2 = v' ∨ ∀ k, v2.ownBlock = some k → w1.heap.size ≤ k) :
    Both w0 sb tb wb mb CA CA' cc cc' v1 v2 st1 err1 w2 := by
  obtain ⟨d1, d2, d3, d4, d5, d6⟩ := h.dist
  have hz0 := h.chg.size
  have hz1 := g.chg.size
  have hz2 := h3.size
  have l1 := h.s.blk.lt; have l2 := h.t.blk.lt; have l3 := h.w.lt; have l4 := h.m.lt
  have hv1 : ∀ k, v1.ownBlock = some k → w0.heap.size ≤ k ∧ k ≠ sb ∧ k ≠ tb ∧ k ≠ wb ∧ k ≠ mb ∧ k < w1.heap.size ∧ v'.ownBlock ≠ some k ∧ (∀ ad, CA = some ad → ad.block ≠ k) ∧ (∀ ad, CA' = some ad → ad.block ≠ k) := by
    intro k hk
    have hlt := own_lt' g.s.row k hk
    rcases g.own with e | e
    · rw [e] at hk
      have a := h.vge k hk
      exact ⟨a.1, a.2.1, a.2.2.1, a.2.2.2.1, a.2.2.2.2.1, hlt, a.2.2.2.2.2.2, fun ad ea eb => (h.ca ad ea).2.2.2.2.2.1 (by rw [hk, eb]), fun ad ea eb => (h.ca' ad ea).2.2.2.2.2.1 (by rw [hk, eb])⟩
    · have a := e k hk
      exact ⟨by omega, by omega, by omega, by omega, by omega, hlt, fun eb => by have := h.vge' k eb; omega, fun ad ea eb => by have := h.ca ad ea; omega, fun ad ea eb => by have := h.ca' ad ea; omega⟩
  have hv2 : ∀ k, v2.ownBlock = some k → w0.heap.size ≤ k ∧ k ≠ sb ∧ k ≠ tb ∧ k ≠ wb ∧ k ≠ mb ∧ k < w2.heap.size ∧ v1.ownBlock ≠ some k ∧ (∀ ad, CA = some ad → ad.block ≠ k) ∧ (∀ ad, CA' = some ad → ad.block ≠ k) := by
    intro k hk
    have hlt := own_lt' h1.row k hk
    rcases h4 with e | e
    · subst e
      have a := h.vge' k hk
      exact ⟨a.1, a.2.1, a.2.2.1, a.2.2.2.1, a.2.2.2.2.1, hlt, fun eb => (hv1 k eb).2.2.2.2.2.2.1 hk, fun ad ea eb => (h.ca ad ea).2.2.2.2.2.2.1 (by rw [hk, eb]), fun ad ea eb => (h.ca' ad ea).2.2.2.2.2.2.1 (by rw [hk, eb])⟩
    · have a := e k hk
      exact ⟨by omega, by omega, by omega, by omega, by omega, hlt, fun eb => by have := hv1 k eb; omega, fun ad ea eb => by have := h.ca ad ea; omega, fun ad ea eb => by have := h.ca' ad ea; omega⟩
  have hS : ∀ k, k ≠ tb → k ≠ mb → ¬ (k = tb ∨ k = mb) := by
    intro k a b hh; rcases hh with hh | hh
    · exact a hh
    · exact b hh
  refine ⟨g.s.chg h3 (hS _ d1 d3) (fun k hk => hS _ (hv1 k hk).2.2.1 (hv1 k hk).2.2.2.2.1) (fun ad e => hS _ (h.ca ad e).2.2.1 (h.ca ad e).2.2.2.2.1), h1, g.w.chg h3 (hS _ (fun e => d4 e.symm) d6), h2, ok, h.ge, ?_, ?_, ?_, ?_, ?_⟩
  · refine (h.chg.trans (U := fun _ => False) g.chg (fun _ _ h => h) ?_).trans h3 (fun _ _ h => h) ?_
    · intro i hi hh
      have := h.ge
      rcases hh with hh | hh | hh
      · omega
      · omega
      · have := h.vge i hh.symm; omega
    · intro i hi hh
      have := h.ge
      omega
  · intro k hk
    have a := hv1 k hk
    exact ⟨a.1, a.2.1, a.2.2.1, a.2.2.2.1, a.2.2.2.2.1, by omega, fun e => (hv2 k e).2.2.2.2.2.2.1 hk⟩
  · intro k hk
    have a := hv2 k hk
    exact ⟨a.1, a.2.1, a.2.2.1, a.2.2.2.1, a.2.2.2.2.1, a.2.2.2.2.2.1⟩
  · intro ad e
    have a := h.ca ad e
    exact ⟨a.1, a.2.1, a.2.2.1, a.2.2.2.1, a.2.2.2.2.1, fun eb => (hv1 _ eb).2.2.2.2.2.2.2.1 ad e rfl, fun eb => (hv2 _ eb).2.2.2.2.2.2.2.1 ad e rfl, by omega⟩
  · intro ad e
    have a := h.ca' ad e
    exact ⟨a.1, a.2.1, a.2.2.1, a.2.2.2.1, a.2.2.2.2.1, fun eb => (hv1 _ eb).2.2.2.2.2.2.2.2 ad e rfl, fun eb => (hv2 _ eb).2.2.2.2.2.2.2.2 ad e rfl, by omega⟩
end Go.Proofs.Ytgbpoehhikiieaa
