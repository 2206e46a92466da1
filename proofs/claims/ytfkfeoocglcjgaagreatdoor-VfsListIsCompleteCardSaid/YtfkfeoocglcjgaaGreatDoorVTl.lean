/- TooLarge and Options. -/
import Derived.Test.YtfkfeoocglcjgaaGreatDoorVRn
set_option linter.unusedVariables false
set_option linter.unusedSimpArgs false
namespace Go.Proofs.YtfkfeoocglcjgaaGreatDoor
open Go.RowKit

/-- What TooLarge answers. -/
def tlNum (l : List ActD) : Int := if tooLarge l then 1 else 0
structure TlRel (w wr : World) (p s : Value) (l : List ActD) : Prop where
  out : ∃ k : Nat, ∃ x : Int, p = .int .i64 k ∧ k ≤ l.length ∧ s = .int .i64 x ∧ (l.length ≤ 40 → x = sumLen (l.take k))
  chg : Chg (fun _ => False) w wr

theorem ActOk.len_bounds {W : World} {a : ActD} (h : ActOk W a) : 0 ≤ a.len ∧ a.len ≤ 422212465065984 := by
  have h1 := h.psz; have h2 := h.tsz; have h3 := h.dsz
  unfold ActD.len; omega
theorem sumLen_bounds {W : World} : ∀ (l : List ActD), (∀ a ∈ l, ActOk W a) → 0 ≤ sumLen l ∧ sumLen l ≤ 422212465065984 * l.length
  | [], _ => by simp [sumLen]
  | a :: t, h => by
    have h1 := sumLen_bounds t (fun b hb => h b (List.mem_cons_of_mem _ hb))
    have h2 := (h a (List.mem_cons_self ..)).len_bounds
    have e : sumLen (a :: t) = a.len + sumLen t := by simp [sumLen]
    rw [e]
    simp only [List.length_cons]
    omega
theorem sumLen_take {W : World} (l : List ActD) (h : ∀ a ∈ l, ActOk W a) (k : Nat) : sumLen (l.take k) ≤ sumLen l := by
  have e : sumLen l = sumLen (l.take k) + sumLen (l.drop k) := by
    unfold sumLen; rw [← List.sum_append, ← List.map_append, List.take_append_drop]
  have := sumLen_bounds (W := W) (l.drop k) (fun a ha => h a (List.mem_of_mem_drop ha))
  omega

theorem ActsAt.ok {W : World} {A : Option Addr} {l : List ActD} (h : ActsAt W A l) : ∀ a ∈ l, ActOk W a := by
  intro a ha
  rcases h with rfl | ⟨g, off, rfl, h⟩
  · simp at ha
  · obtain ⟨j, hj, rfl⟩ := List.mem_iff_getElem.1 ha
    exact (h j _ (List.getElem?_eq_getElem hj)).2
theorem ActsAt.chg {W w : World} {A : Option Addr} {l : List ActD} (h : ActsAt W A l) (c : Chg (fun _ => False) W w) : ActsAt w A l := by
  rcases h with h | ⟨g, off, rfl, h⟩
  · exact .inl h
  · exact .inr ⟨g, off, rfl, fun j x hx => ⟨fun i u hu => cell_keep c ((h j x hx).1 i u hu), (h j x hx).2.chg c⟩⟩

theorem cat_sizes (a b c : Nat) (ha : a ≤ 140737488355328) (hb : b ≤ 140737488355328) (hc : c ≤ 140737488355328) : IntKind.i64.wrap ((a : Int) + b) = a + b ∧ IntKind.i64.wrap ((a : Int) + b + c) = a + b + c := by
  rw [IntKind.wrap_i64, IntKind.wrap_i64]; omega

set_option maxRecDepth 100000 in
set_option maxHeartbeats 4000000 in
theorem TooLarge_any (A : Option Addr) (c : Nat) (l : List ActD) (w : World) (h : ActsAt w A l) (hl : l.length ≤ 9223372036854775807) :
    Calls Tryz.prog 5 #[.slice A l.length c] w fun e w' => e = .returned (.int .i64 (tlNum l)) ∧ Chg (fun _ => False) w w' := by
  have HH := Lib.hid h; clear h
  go_enter Tryz.func5, Tryz.ntmps5
  go_wp2_with fail
  go_loopw [8, 3] (fun p s wr => TlRel w wr p s l) (fun p _ _ => l.length - (match p with | .int _ k => k.toNat | _ => 0))
  case atStart => exact ⟨⟨0, 0, rfl, Nat.zero_le _, rfl, fun _ => by simp [sumLen]⟩, Chg.refl _ _⟩
  case round =>
    obtain ⟨⟨k, x, rfl, hk, rfl, hx⟩, hcr⟩ := hrel
    by_cases hkn : k < l.length
    · have hkb : IntKind.i64.wrap ((k : Int) + 1) = k + 1 := by rw [IntKind.wrap_i64]; omega
      have i0 : (0 : Int) ≤ k := by omega
      have i1 : (k : Int) < l.length := by omega
      have tk : decide ((k : Int) < l.length) = true := by simpa using hkn
      obtain ⟨g, off, rfl, hc⟩ : ∃ g off, A = some ⟨g, off, none⟩ ∧ (∀ i u, (l[k]).cells[i]? = some u → wr.cell? ⟨g, off + k * 5 + i, none⟩ = some u) ∧ ActOk wr l[k] := by
        rcases HH.out.chg hcr with h | ⟨g, off, rfl, h⟩
        · subst h; simp at hkn
        · exact ⟨g, off, rfl, h k _ (List.getElem?_eq_getElem hkn)⟩
      have hlen := hc.2.len_bounds
      have hok := hc.2
      have hsn : l.length ≤ 40 → wrap64 (x + (l[k].path.size + l[k].data.length + l[k].target.size)) = sumLen (l.take (k + 1)) := by
        intro h40
        rw [List.take_succ_eq_append_getElem hkn, sumLen_snoc, hx h40]
        have h1 := sumLen_bounds (W := wr) (l.take k) (fun a ha => (HH.out.chg hcr).ok a (List.mem_of_mem_take ha))
        have h2 : (l.take k).length ≤ 40 := by rw [List.length_take]; omega
        unfold ActD.len at hlen ⊢
        unfold wrap64; omega
      have hw2 := cat_sizes _ _ _ hok.psz hok.dsz hok.tsz
      have c0 := hc.1 0 _ rfl
      rw [Nat.add_zero] at c0
      have c1 := hc.1 1 _ rfl
      have c2 := hc.1 2 _ rfl
      have c3 := hc.1 3 _ rfl
      have c4 := hc.1 4 _ rfl
      generalize l[k] = a at *
      obtain ⟨kind, path, mode, DA, cap, data, target⟩ := a
      have ps := hok.psz; have ds := hok.dsz; have ts := hok.tsz
      simp only at ps ds ts hw2 hsn c0 c1 c2 c3 c4
      obtain ⟨hw1, hw2⟩ := hw2
      have HS := Lib.hid hsn; have HX := Lib.hid hx; have HC := Lib.hid hcr
      clear hsn hx hcr hc hlen hok
      go_wp2_with fail
      go_roundw
      case rel => exact ⟨⟨k + 1, _, by simp, hkn, rfl, HS.out⟩, HC.out.alloc _⟩
      case measure => simp; omega
    · have tk : decide (k < l.length) = false := by simp; omega
      have hkl : k = l.length := by omega
      have hx' : l.length ≤ 40 → x = sumLen l := fun h => by rw [hx h, hkl, List.take_length]
      have HX := Lib.hid hx'; have HC := Lib.hid hcr
      clear hx hx' hcr hkn hkl hk
      by_cases h40 : 40 < l.length
      · have t1 : decide ((40 : Int) < l.length) = true := by simp; omega
        have t2 : (40 : Int) < l.length := by omega
        have e1 : tooLarge l = true := by unfold tooLarge; simp; omega
        have HE := Lib.hid e1
        clear h40 e1
        go_wp2_with fail
        go_ret
        exact ⟨by unfold tlNum; rw [HE.out]; rfl, HC.out⟩
      · have t1 : decide ((40 : Int) < l.length) = false := by simp; omega
        obtain rfl := HX.out (by omega)
        by_cases h2 : 20000 < sumLen l
        · have e1 : tooLarge l = true := by unfold tooLarge; simp; omega
          have t2 : decide ((20000 : Int) < sumLen l) = true := by simpa using h2
          have HE := Lib.hid e1
          clear h40 e1
          go_wp2_with fail
          go_ret
          exact ⟨by unfold tlNum; rw [HE.out]; rfl, HC.out⟩
        · have e1 : tooLarge l = false := by unfold tooLarge; simp; omega
          have t2 : decide ((20000 : Int) < sumLen l) = false := by simpa using h2
          have HE := Lib.hid e1
          clear h40 e1 h2
          go_wp2_with fail
          go_ret
          exact ⟨by unfold tlNum; rw [HE.out]; rfl, HC.out⟩
end Go.Proofs.YtfkfeoocglcjgaaGreatDoor
