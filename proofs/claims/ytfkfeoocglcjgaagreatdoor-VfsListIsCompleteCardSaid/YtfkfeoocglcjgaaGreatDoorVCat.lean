/- slices.Concat of two rows of strings. -/
import Derived.Test.YtfkfeoocglcjgaaGreatDoorVAct
import Derived.Test.YtfkfeoocglcjgaaGreatDoorShelfD
set_option linter.unusedVariables false
set_option linter.unusedSimpArgs false
namespace Go.Proofs.YtfkfeoocglcjgaaGreatDoor
open Go.RowKit

/-- The rows and how many elements lie ahead of each. -/
structure Two (w : World) (h g1 o1 n1 c1 g2 o2 n2 c2 : Nat) (r1 r2 : List ByteArray) : Prop where
  a : w.cell? ⟨h, 0, none⟩ = some (.slice (some ⟨g1, o1, none⟩) n1 c1)
  b : w.cell? ⟨h, 1, none⟩ = some (.slice (some ⟨g2, o2, none⟩) n2 c2)
  l1 : r1.length = n1
  l2 : r2.length = n2
  d1 : Rd w (some ⟨g1, o1, none⟩) (r1.map .string)
  d2 : Rd w (some ⟨g2, o2, none⟩) (r2.map .string)
theorem Two.chg {w w' : World} {h g1 o1 n1 c1 g2 o2 n2 c2 : Nat} {r1 r2 : List ByteArray} (t : Two w h g1 o1 n1 c1 g2 o2 n2 c2 r1 r2) (c : Chg (fun _ => False) w w') : Two w' h g1 o1 n1 c1 g2 o2 n2 c2 r1 r2 :=
  ⟨cell_keep c t.a, cell_keep c t.b, t.l1, t.l2, t.d1.chg c (fun _ _ h => h), t.d2.chg c (fun _ _ h => h)⟩

structure CatRel (w wr : World) (n1 n2 : Nat) (r1 r2 : List ByteArray) (p s : Value) : Prop where
  out : ∃ (k b m cap : Nat), p = .int .i64 k ∧ k ≤ 2 ∧ s = .slice (some ⟨b, 0, none⟩) m cap ∧ wr.ownsRow 0 9 1 (.slice (some ⟨b, 0, none⟩) m cap) m ((if k = 0 then [] else if k = 1 then r1 else r1 ++ r2).map .string) ∧
    m = (if k = 0 then 0 else if k = 1 then n1 else n1 + n2) ∧ w.heap.size ≤ b
  chg : Chg (fun _ => False) w wr

theorem append_run {w : World} {g off m : Nat} {r : List ByteArray} (h : Rd w (some ⟨g, off, none⟩) (r.map .string)) (hm : r.length = m) (h0 : 0 < m) : ∀ j u, (r.map Value.string)[j]? = some u → w.cell? ((⟨g, off, none⟩ : Addr).add j) = some u := by
  intro j u hu
  rw [show ((⟨g, off, none⟩ : Addr).add j) = ⟨g, off + j, none⟩ by unfold Addr.add; split <;> simp_all]
  rcases h with h | ⟨g', off', e, h⟩
  · have : r = [] := by simpa using h
    subst this; simp at hm; omega
  · cases e; exact h j u hu

theorem cat_grown {wr wx w4 : World} {b kk m cap : Nat} (hbb : wr.heap.size ≤ b) (hg : wx.grownBy w4 (Value.slice (some ⟨b, 0, none⟩) m cap).ownBlock) (hor : (Value.slice (some ⟨b, 0, none⟩) m cap).ownBlock = some kk ∨ kk = wx.heap.size) (hcx : Chg (fun _ => False) wr wx) :
    Chg (fun _ => False) wr w4 ∧ wr.heap.size ≤ kk := by
  refine ⟨hcx.trans (Chg.of_grown hg) (fun _ _ h => h) (fun j hj e => ?_), ?_⟩
  · have : j = b := Option.some.inj e
    omega
  · rcases hor with h | h
    · have := own_blk_eq h; omega
    · have := hcx.size; omega

set_option maxRecDepth 100000 in
set_option maxHeartbeats 4000000 in
theorem Concat_two (h cc g1 o1 n1 c1 g2 o2 n2 c2 : Nat) (r1 r2 : List ByteArray) (w : World) (t : Two w h g1 o1 n1 c1 g2 o2 n2 c2 r1 r2) (h1 : 0 < n1) (hb : n1 + n2 ≤ 1000000) :
    Calls Tryz.prog 39 #[.slice (some ⟨h, 0, none⟩) 2 cc] w fun e w' => ∃ k cap, e = .returned (.slice (some ⟨k, 0, none⟩) (n1 + n2) cap) ∧
      w'.ownsRow 0 9 1 (.slice (some ⟨k, 0, none⟩) (n1 + n2) cap) (n1 + n2) ((r1 ++ r2).map .string) ∧ w.heap.size ≤ k ∧ Chg (fun _ => False) w w' := by
  obtain ⟨i0, hi, hz0, hz1, hz2⟩ := info_parts infoStr
  have ca := t.a
  have cb := t.b
  have HT := Lib.hid t; clear t
  have w1 : IntKind.i64.wrap ((n1 : Int) + n2) = n1 + n2 := by rw [IntKind.wrap_i64]; omega
  go_enter Tryz.func39, Tryz.ntmps39
  go_wp2_with fail
  go_loopw [11, 3] (fun p s wr => (∃ k : Nat, p = .int .i64 k ∧ k ≤ 2 ∧ s = .int .i64 ((if k = 0 then 0 else if k = 1 then n1 else n1 + n2 : Nat) : Int)) ∧ wr = w) (fun p _ _ => 2 - (match p with | .int _ k => k.toNat | _ => 0))
  case atStart => exact ⟨⟨0, rfl, by omega, rfl⟩, rfl⟩
  case round =>
    obtain ⟨⟨k, rfl, hk, rfl⟩, rfl⟩ := hrel
    obtain rfl | rfl | rfl : k = 0 ∨ k = 1 ∨ k = 2 := by omega
    · have b1 : (0 : Int) ≤ n1 := by omega
      have b2 : (n1 : Int) ≤ 1000000 := by omega
      go_wp2_with fail
      go_roundw
      case rel => exact ⟨⟨1, rfl, by omega, by simp⟩, trivial⟩
      case measure => simp
    · have b1 : (0 : Int) ≤ n1 := by omega
      have b2 : (n1 : Int) ≤ 1000000 := by omega
      have b3 : (0 : Int) ≤ n2 := by omega
      have b4 : (n2 : Int) ≤ 1000000 := by omega
      go_wp2_with fail
      go_roundw
      case rel => exact ⟨⟨2, rfl, by omega, by simp⟩, trivial⟩
      case measure => simp
    · have hgr := Tryz.slices_Grow_grow i0 (.string ⟨#[]⟩) hi hz0 (by omega) none 0 0 (n1 + n2) [] wr (Nat.le_refl _) (by omega) (by rw [hz2]; omega) (by omega) (by simp) (fun _ => rfl) (fun _ h => by cases h)
      have hgr2 := hgr.mono (R' := fun e w' => ∃ G, e = .returned (.slice (some ⟨wr.heap.size, 0, none⟩) 0 G) ∧ w'.ownsRow 0 9 1 (.slice (some ⟨wr.heap.size, 0, none⟩) 0 G) 0 [] ∧ Chg (fun _ => False) wr w') (by
        rintro e w' ⟨rfl, rfl⟩
        have hG1 := grownCap_ge wr (0 + (n1 + n2)) 0 9
        have hG2 := grownCap_le_maxLen wr (0 + (n1 + n2)) 0 9 (by unfold maxLen; omega)
        simp only [Nat.zero_add] at hG1 hG2
        refine ⟨_, rfl, own_of_blk (Blk.new wr.drew _ _) (Nat.zero_le _) (by simpa using hG2) ?_ (by simp), ((Chg.refl _ _).drew).alloc _⟩
        rw [Array.size_append, Array.size_append, zeros_size, zeros_size]
        simp; omega)
      have HG := Lib.hid hgr2; clear hgr hgr2 hk
      go_wp2_with (go_at_call 56; refine HG.out.mono ?_; rintro e w2 ⟨G, rfl, hown, hc2⟩)
      have HO := Lib.hid (And.intro hown hc2); clear hown hc2
      go_loopw [27, 6] (fun p s w3 => CatRel wr w3 n1 n2 r1 r2 p s) (fun p _ _ => 2 - (match p with | .int _ k => k.toNat | _ => 0))
      case atStart => exact ⟨⟨0, _, 0, G, rfl, by omega, rfl, HO.out.1, rfl, Nat.le_refl _⟩, HO.out.2⟩
      case round =>
        obtain ⟨⟨k, b, m, cap, rfl, hk, rfl, hown, hm, hbb⟩, hch⟩ := hrel
        have hA2 := fun (wx w4 : World) (kk cp : Nat) => cat_grown (wx := wx) (w4 := w4) (kk := kk) (m := m) (cap := cap) hbb
        have HA := Lib.hid hA2; clear hA2
        have HT2 := Lib.hid (HT.out.chg hch)
        have ta := HT2.out.a
        have tb := HT2.out.b
        obtain rfl | rfl | rfl : k = 0 ∨ k = 1 ∨ k = 2 := by omega
        · simp only [if_true] at hown hm
          subst hm
          have HO := Lib.hid (And.intro hown hch); clear hown hch
          have HN := Lib.hid (append_run HT2.out.d1 HT2.out.l1 h1)
          have HOn := Lib.hid (strs_one r1)
          have HLn := Lib.hid (show (r1.map Value.string).length = n1 * 1 by rw [List.length_map, HT2.out.l1]; omega)
          go_wp2_with (first | (at_builtin; refine wpList_append_lies _ rfl (.tmp 31) (.tmp 32) 44 rfl 0 9 i0 (.string ⟨#[]⟩) 1 16 Tryz.underlying44 hi hz0 hz1 hz2 rfl (by decide) (.slice (some ⟨b, 0, none⟩) 0 cap) 0 [] rfl HO.out.1 ⟨g1, o1, none⟩ n1 c1 (r1.map .string) rfl HLn.out HN.out HOn.out h1 ?b1 ?b2 (Nat.zero_le _) _ rfl ?_))
          case b1 => unfold maxLen; omega
          case b2 => omega
          intro kk cp w4 hown hgrow hor hkk
          have H4 := Lib.hid (And.intro hown (HA.out _ w4 kk cp hgrow hor HO.out.2))
          clear hown hgrow hor hkk
          go_wp2_with fail
          go_roundw
          case rel =>
            obtain ⟨hown, hc4, hkk⟩ := H4.out
            exact ⟨⟨1, kk, n1, cp, rfl, by omega, by simp, by simpa using hown, by simp, hkk⟩, hc4⟩
          case measure => simp
        · simp only [Nat.one_ne_zero, if_false, if_true] at hown hm
          subst hm
          have HO := Lib.hid (And.intro hown hch); clear hown hch
          by_cases h2 : n2 = 0
          · subst h2
            have hcap : m ≤ cap := by obtain ⟨_, _, h, _⟩ := own_blk HO.out.1; exact h
            go_wp2_with fail
            go_roundw
            case rel =>
              have hr2 : r2 = [] := List.eq_nil_of_length_eq_zero HT2.out.l2
              exact ⟨⟨2, b, m, cap, rfl, by omega, by simp, by simpa [hr2] using HO.out.1, by simp, hbb⟩, HO.out.2⟩
            case measure => simp
          · have HN := Lib.hid (append_run HT2.out.d2 HT2.out.l2 (by omega))
            have HOn := Lib.hid (strs_one r2)
            have HLn := Lib.hid (show (r2.map Value.string).length = n2 * 1 by rw [List.length_map, HT2.out.l2]; omega)
            go_wp2_with (first | (at_builtin; refine wpList_append_lies _ rfl (.tmp 31) (.tmp 32) 44 rfl 0 9 i0 (.string ⟨#[]⟩) 1 16 Tryz.underlying44 hi hz0 hz1 hz2 rfl (by decide) (.slice (some ⟨b, 0, none⟩) m cap) m (r1.map .string) rfl HO.out.1 ⟨g2, o2, none⟩ n2 c2 (r2.map .string) rfl HLn.out HN.out HOn.out (by omega) ?b3 ?b4 (Nat.zero_le _) _ rfl ?_))
            case b3 => unfold maxLen; omega
            case b4 => omega
            intro kk cp w4 hown hgrow hor hkk
            have H4 := Lib.hid (And.intro hown (HA.out _ w4 kk cp hgrow hor HO.out.2))
            clear hown hgrow hor hkk
            go_wp2_with fail
            go_roundw
            case rel =>
              obtain ⟨hown, hc4, hkk⟩ := H4.out
              exact ⟨⟨2, kk, m + n2, cp, rfl, by omega, by simp, by simpa using hown, by simp, hkk⟩, hc4⟩
            case measure => simp
        · simp only [Nat.succ_ne_self, if_false] at hown hm
          have HO := Lib.hid (And.intro hown (And.intro hch hm)); clear hown hch hm
          go_wp2_with fail
          go_ret
          obtain ⟨hown, hch, hm⟩ := HO.out
          have hm2 : m = n1 + n2 := by simpa using hm
          subst hm2
          exact ⟨b, cap, rfl, by simpa using hown, hbb, hch⟩
end Go.Proofs.YtfkfeoocglcjgaaGreatDoor
