/- Options: numbers mapped to valid options. -/
import Derived.Test.YtfkfeoocglcjgaaGreatDoorVTl
set_option linter.unusedVariables false
set_option linter.unusedSimpArgs false
namespace Go.Proofs.YtfkfeoocglcjgaaGreatDoor
open Go.RowKit

/-- The rotations as Options makes them. -/
def rots (l : List UInt8) : List Int := l.map fun b => (b.toNat : Int)
theorem rots_length (l : List UInt8) : (rots l).length = l.length := by simp [rots]
theorem rots_neg (l : List UInt8) : anyNeg (rots l) = false := by
  unfold anyNeg rots
  rw [List.any_eq_false]
  intro x hx
  obtain ⟨b, _, rfl⟩ := List.mem_map.1 hx
  simp

structure OpRel (w wr : World) (p : Value) (first step : Int) (l : List UInt8) : Prop where
  out : ∃ k : Nat, ∃ A : Option Addr, ∃ c : Nat, p = .int .i64 k ∧ k ≤ l.length ∧ Blk wr (w.heap.size + 1) #[.int .i64 first, .int .i64 step, .slice A k c] 30 ∧
    wr.ownsRow 0 3 1 (.slice A k c) k (i64s (rots (l.take k))) ∧ ∀ j, (Value.slice A k c).ownBlock = some j → w.heap.size + 1 < j
  blk : Blk wr w.heap.size #[.int .i64 0, .int .i64 0, .slice none 0 0] 30
  chg : Chg (fun _ => False) w wr

theorem resultsOp {w : World} {B : Nat} {c0 c1 c2 : Value} {tmps : Array Value} (h : Blk w B #[c0, c1, c2] 30) (h4 : tmps[6]? = some (.pointer (some ⟨B, 0, none⟩))) :
    (results Tryz.f7 tmps).run Tryz.prog w = .ok (.agg #[c0, c1, c2]) w := by
  have d0 : w.cell? ⟨B, 0, none⟩ = some c0 := h.cell 0
  have d1 : w.cell? ⟨B, 1, none⟩ = some c1 := h.cell 1
  have d2 : w.cell? ⟨B, 2, none⟩ = some c2 := h.cell 2
  simp [results, Tryz.f7, go_sem, h4, d0, d1, d2]

set_option maxRecDepth 100000 in
set_option maxHeartbeats 4000000 in
theorem Options_any (a b : Int) (A : Option Addr) (n c : Nat) (l : List UInt8) (w : World) (hn : l.length = n) (hl : Rd w A (by8 l)) (hb : n ≤ 1000000) (ha0 : 0 ≤ a) (ha1 : a ≤ 65535) (hb0 : 0 ≤ b) (hb1 : b ≤ 65535) :
    Calls Tryz.prog 7 #[.int .u16 a, .int .u16 b, .slice A n c] w fun e w' => ∃ A' c', e = .returned (.agg #[.int .i64 (1 + a), .int .i64 (1 + b), .slice A' n c']) ∧
      w'.ownsRow 0 3 1 (.slice A' n c') n (i64s (rots l)) ∧ Chg (fun _ => False) w w' := by
  obtain ⟨i0, hi, hz0, hz1, hz2⟩ := info_parts infoInt
  have HL := Lib.hid hl; clear hl
  subst hn
  go_enter Tryz.func7, Tryz.ntmps7
  go_wp2_with fail
  go_loopw [19] (fun p wr => OpRel w wr p (1 + a) (1 + b) l) (fun p _ => l.length - (match p with | .int _ k => k.toNat | _ => 0))
  case atStart =>
    refine ⟨⟨0, none, 0, rfl, Nat.zero_le _, ?_, by simpa [rots, i64s] using World.ownsRow_nil _ _ _ _, by simp [Value.ownBlock]⟩, ?_, ?_⟩
    · have := Blk.new (w.alloc (.cells #[.int .i64 0, .int .i64 0, .slice none 0 0] 30)) #[.int .i64 (1 + a), .int .i64 (1 + b), .slice none 0 0] 30
      simpa using this
    · exact (Blk.new w _ _).alloc _
    · exact ((Chg.refl _ _).alloc _).alloc _
  case round =>
    obtain ⟨⟨k, A2, c2, rfl, hk, hB, hO, hj⟩, hB0, hch⟩ := hrel
    by_cases hkn : k < l.length
    · have hkb : IntKind.i64.wrap ((k : Int) + 1) = k + 1 := by rw [IntKind.wrap_i64]; omega
      have i0' : (0 : Int) ≤ k := by omega
      have i1 : (k : Int) < l.length := by omega
      have tk : decide (k < l.length) = true := by simpa using hkn
      obtain ⟨g, off, rfl, hc⟩ : ∃ g off, A = some ⟨g, off, none⟩ ∧ wr.cell? ⟨g, off + k, none⟩ = some (.int .u8 ((l[k]).toNat : Int)) := by
        rcases HL.out.chg hch (fun _ _ h => h) with h | ⟨g, off, rfl, h⟩
        · have : l = [] := by simpa [by8] using h
          subst this; simp at hkn
        · exact ⟨g, off, rfl, h k _ (by simp [by8, List.getElem?_eq_getElem hkn])⟩
      have u8b : ((l[k]).toNat : Int) ≤ 255 := by have := (l[k]).toNat_lt; omega
      have u80 : (0 : Int) ≤ ((l[k]).toNat : Int) := by omega
      have hfin : i64s (rots (l.take k)) ++ [.int .i64 ((l[k]).toNat : Int)] = i64s (rots (l.take (k + 1))) := by
        rw [List.take_succ_eq_append_getElem hkn]; simp only [rots, i64s, List.map_append, List.map_cons, List.map_nil]
      generalize ((l[k]).toNat : Int) = x at *
      have hx := Blk.new wr #[.int .i64 x] 3
      have c2' : wr.cell? ⟨w.heap.size + 1, 2, none⟩ = some (.slice A2 k c2) := hB.cell 2
      have hnews : ∀ j u, [Value.int .i64 x][j]? = some u → (wr.alloc (.cells #[.int .i64 x] 3)).cell? ((⟨wr.heap.size, 0, none⟩ : Addr).add j) = some u := by
        intro j u hu
        match j, hu with
        | 0, hu => simp at hu; subst hu; exact hx.cell 0
        | j + 1, hu => simp at hu
      have hone : ∀ u ∈ [Value.int .i64 x], u.oneCell' = true := by intro u hu; simp at hu; subst hu; rfl
      have hlen0 : (i64s (rots (l.take k))).length = k * 1 := by rw [i64s_length, rots_length, List.length_take]; omega
      have hltB := hB.lt; have hltB0 := hB0.lt
      have HNw := Lib.hid hnews; have HOn := Lib.hid hone; have HO := Lib.hid (own_chg hO ((Chg.refl (fun _ => False) wr).alloc (.cells #[.int .i64 x] 3)) (fun _ _ h => h))
      have HF := Lib.hid hfin; have HJ := Lib.hid hj; have HB := Lib.hid (And.intro hB (And.intro hB0 hch))
      clear hnews hone hO hfin hj hch hx hlen0 hB hB0
      go_wp2_with (first | (at_builtin; refine wpList_append_lies _ rfl (.tmp 24) (.tmp 27) 28 rfl 0 3 i0 (.int .i64 0) 1 8 Tryz.underlying28 hi hz0 hz1 hz2 rfl (by decide) (.slice A2 k c2) k (i64s (rots (l.take k))) rfl HO.out ⟨wr.heap.size, 0, none⟩ 1 1 [.int .i64 x] rfl rfl HNw.out HOn.out (by decide) ?b1 ?b2 (Nat.zero_le _) _ rfl ?_))
      case b1 => unfold maxLen; omega
      case b2 => omega
      intro kk cap w1 hown hgrow hor hkk
      rw [HF.out] at hown
      have hG : Chg (fun j => (Value.slice A2 k c2).ownBlock = some j) (wr.alloc (.cells #[.int .i64 x] 3)) w1 := (Chg.of_grown hgrow).mono (fun j _ h => h.symm)
      have hjk : w.heap.size + 1 < kk := by
        rcases hor with h | h
        · exact HJ.out kk h
        · (try simp at h); omega
      have hB1 := (HB.out.1.alloc (.cells #[.int .i64 x] 3)).chg hG (fun h => by have := HJ.out _ h; omega)
      have hB2 := (HB.out.2.1.alloc (.cells #[.int .i64 x] 3)).chg hG (fun h => by have := HJ.out _ h; omega)
      have hch1 : Chg (fun _ => False) w w1 := (HB.out.2.2.alloc (.cells #[.int .i64 x] 3)).trans hG (fun _ _ h => h) (fun j hj hh => by have := HJ.out _ hh; omega)
      have fr := hB1.free 2
      have c2'' : w1.cell? ⟨w.heap.size + 1, 2, none⟩ = some (.slice A2 k c2) := hB1.cell 2
      have HA := Lib.hid (And.intro hown (And.intro hB1 (And.intro hB2 hch1)))
      clear hown hgrow hor hkk hG hB1 hB2 hch1 c2'
      go_wp2_with fail
      go_roundw
      case rel =>
        obtain ⟨hown, hB1, hB2, hch1⟩ := HA.out
        have hs : Chg (fun j => j = w.heap.size + 1) w1 (w1.setCell ⟨w.heap.size + 1, 2, none⟩ (.slice (some ⟨kk, 0, none⟩) (k + 1) cap)) := (Chg.refl _ _).setCell _ _ (fun _ => rfl)
        refine ⟨⟨k + 1, some ⟨kk, 0, none⟩, cap, by simp, hkn, ?_, own_chg hown hs (fun j hj => by have := own_blk_eq hj; omega), fun j hj => by have := own_blk_eq hj; omega⟩, hB2.chg hs (by omega), hch1.trans hs (fun _ _ h => h) (fun j hj e => by omega)⟩
        simpa using hB1.set 2 (.slice (some ⟨kk, 0, none⟩) (k + 1) cap)
      case measure => simp; omega
    · have tk : decide (k < l.length) = false := by simp; omega
      obtain rfl : k = l.length := by omega
      rw [List.take_length] at hO
      have d0 : wr.cell? ⟨w.heap.size + 1, 0, none⟩ = some (.int .i64 (1 + a)) := hB.cell 0
      have d1 : wr.cell? ⟨w.heap.size + 1, 1, none⟩ = some (.int .i64 (1 + b)) := hB.cell 1
      have d2 : wr.cell? ⟨w.heap.size + 1, 2, none⟩ = some (.slice A2 l.length c2) := hB.cell 2
      have e0 : wr.cell? ⟨w.heap.size, 0, none⟩ = some (.int .i64 0) := hB0.cell 0
      have e1 : wr.cell? ⟨w.heap.size, 1, none⟩ = some (.int .i64 0) := hB0.cell 1
      have e2 : wr.cell? ⟨w.heap.size, 2, none⟩ = some (.slice none 0 0) := hB0.cell 2
      have f0 := hB0.free 0
      have f1 := hB0.free 1
      have f2 := hB0.free 2
      have HO := Lib.hid (And.intro hO (And.intro hj (And.intro hch hB0)))
      clear hO hj hch hB hkn hk hB0
      go_wp2_with fail
      obtain ⟨hO, hj, hch, hB0⟩ := HO.out
      have hs : Chg (fun j => j = w.heap.size) wr (((wr.setCell ⟨w.heap.size, 0, none⟩ (.int .i64 (1 + a))).setCell ⟨w.heap.size, 1, none⟩ (.int .i64 (1 + b))).setCell ⟨w.heap.size, 2, none⟩ (.slice A2 l.length c2)) :=
        (((Chg.refl (fun j => j = w.heap.size) wr).setCell _ _ (fun _ => rfl)).setCell _ _ (fun _ => rfl)).setCell _ _ (fun _ => rfl)
      have hR : Blk (((wr.setCell ⟨w.heap.size, 0, none⟩ (.int .i64 (1 + a))).setCell ⟨w.heap.size, 1, none⟩ (.int .i64 (1 + b))).setCell ⟨w.heap.size, 2, none⟩ (.slice A2 l.length c2)) w.heap.size #[.int .i64 (1 + a), .int .i64 (1 + b), .slice A2 l.length c2] 30 := by
        simpa using ((hB0.set 0 (.int .i64 (1 + a))).set 1 (.int .i64 (1 + b))).set 2 (.slice A2 l.length c2)
      refine bodyPost_ret (v := .agg #[.int .i64 (1 + a), .int .i64 (1 + b), .slice A2 l.length c2]) (resultsOp hR rfl) rfl ⟨A2, c2, rfl, own_chg hO hs (fun j hj' => by have := hj j hj'; omega), hch.trans hs (fun _ _ h => h) (fun j hj' e => by omega)⟩
end Go.Proofs.YtfkfeoocglcjgaaGreatDoor
