/- The law VfsOptions, walked. -/
import Derived.Test.YtfkfeoocglcjgaaDoorVRn
set_option linter.unusedVariables false
set_option linter.unusedSimpArgs false
namespace Go.Proofs.YtfkfeoocglcjgaaDoor
open Go.RowKit

theorem newErr_cases (first step : Int) (l : List Int) : newErr first step l = 0 ∨ newErr first step l = 2 := by unfold newErr; split <;> simp

set_option maxRecDepth 100000 in
set_option maxHeartbeats 4000000 in
theorem options_law (first step : Int) (A : Option Addr) (n c : Nat) (l : List Int) (w : World) (hn : l.length = n) (hl : Rd w A (i64s l)) (hA : A = none → n = 0) (hnb : n ≤ 9223372036854775807) :
    Calls Tryd.prog 6 #[.int .i64 first, .int .i64 step, .slice A n c] w fun e w' => e = .returned (.bool true) ∧ Chg (fun _ => False) w w' := by
  have k1 := fun W => Lstat_nil ⟨#[]⟩ W
  simp only [infoOf, noInfo] at k1
  have HL := Lib.hid hl; clear hl
  have HA := Lib.hid hA; clear hA
  have HN := Lib.hid hn; clear hn
  go_enter Tryd.func6, Tryd.ntmps6
  go_wp2_with (first | (go_at_call 12; refine (k1 _).mono ?_; rintro e wa ⟨rfl, ca⟩) | (go_at_call 16; refine (ReadFile_nil _ _).mono ?_; rintro e wb ⟨rfl, rfl⟩) | (go_at_call 20; refine (List_nil _ _).mono ?_; rintro e wc ⟨rfl, rfl⟩) | (go_at_call 19; refine (Mkdir_nil _ _ _).mono ?_; rintro e wd ⟨rfl, cd⟩) | (go_at_call 13; refine (Create_nil _ _ _ _).mono ?_; rintro e we ⟨rfl, ce⟩) | (go_at_call 21; refine (Symlink_nil _ _ _).mono ?_; rintro e wf ⟨rfl, cf⟩) | (go_at_call 22; refine (Mknod_nil _ _ _).mono ?_; rintro e wg ⟨rfl, cg⟩) | (go_at_call 14; refine (Link_nil _ _ _).mono ?_; rintro e wh ⟨rfl, rfl⟩) | (go_at_call 15; refine (Chown_nil _ _ _ _).mono ?_; rintro e wi ⟨rfl, rfl⟩))
  have hB := Blk.new wi #[.int .i64 1, .int .i64 1, .int .i64 1, .int .i64 1, .int .i64 1, .int .i64 1, .int .i64 1, .int .i64 1, .int .i64 1] 26
  have hX : Chg (fun _ => False) w (wi.alloc (.cells #[.int .i64 1, .int .i64 1, .int .i64 1, .int .i64 1, .int .i64 1, .int .i64 1, .int .i64 1, .int .i64 1, .int .i64 1] 26)) :=
    (((((ca.alloc _).trans (U := fun _ => False) cd (fun _ _ h => h) (fun _ _ h => h)).trans (U := fun _ => False) ce (fun _ _ h => h) (fun _ _ h => h)).trans (U := fun _ => False) cf (fun _ _ h => h) (fun _ _ h => h)).trans (U := fun _ => False) cg (fun _ _ h => h) (fun _ _ h => h)).alloc _
  have hc : ∀ k : Nat, k < 9 → (wi.alloc (.cells #[.int .i64 1, .int .i64 1, .int .i64 1, .int .i64 1, .int .i64 1, .int .i64 1, .int .i64 1, .int .i64 1, .int .i64 1] 26)).cell? ⟨wi.heap.size, k, none⟩ = some (.int .i64 1) := by
    intro k hk
    rw [hB.cell]
    obtain rfl | rfl | rfl | rfl | rfl | rfl | rfl | rfl | rfl : k = 0 ∨ k = 1 ∨ k = 2 ∨ k = 3 ∨ k = 4 ∨ k = 5 ∨ k = 6 ∨ k = 7 ∨ k = 8 := by omega
    all_goals rfl
  have HC := Lib.hid hc
  have HX := Lib.hid hX
  clear hc hX hB ca cd ce cf cg
  generalize (wi.alloc (.cells #[.int .i64 1, .int .i64 1, .int .i64 1, .int .i64 1, .int .i64 1, .int .i64 1, .int .i64 1, .int .i64 1, .int .i64 1] 26)) = X at *
  generalize wi.heap.size = bb at *
  go_loopw [52] (fun p wr => (∃ k : Nat, p = .int .i64 k ∧ k ≤ 9) ∧ wr = X) (fun p _ => 9 - (match p with | .int _ k => k.toNat | _ => 0))
  case atStart => exact ⟨⟨0, rfl, by omega⟩, rfl⟩
  case round =>
    obtain ⟨⟨k, rfl, hk⟩, rfl⟩ := hrel
    by_cases hkn : k < 9
    · have hkb : IntKind.i64.wrap ((k : Int) + 1) = k + 1 := by rw [IntKind.wrap_i64]; omega
      have i0 : (0 : Int) ≤ k := by omega
      have i1 : (k : Int) < 9 := by omega
      have tk : decide ((k : Int) < 9) = true := by simpa using i1
      have hck := HC.out k hkn
      go_wp2_with fail
      go_roundw
      case rel => exact ⟨⟨k + 1, by simp, by omega⟩, trivial⟩
      case measure => simp; omega
    · have tk : decide ((k : Int) < 9) = false := by simp; omega
      by_cases hbig : 100 < n
      · have t1 : decide ((100 : Int) < n) = true := by simp; omega
        have t2 : (100 : Int) < n := by omega
        clear hbig hk hkn
        go_wp2_with (go_at_call 10; refine (alive_any _).mono ?_; rintro e wz ⟨rfl, cz⟩)
        go_ret
        exact ⟨rfl, HX.out.trans cz (fun _ _ h => h) (fun _ _ h => h)⟩
      · have t1 : decide ((100 : Int) < n) = false := by simp; omega
        have hn6 : n ≤ 1000000 := by omega
        rcases newErr_cases first step l with he | he
        · have hN := New_fs first step A n c l wr HN.out hn6 (HL.out.chg HX.out (fun _ _ h => h)) HA.out he
          have hR := fun W (hc : Chg (fun _ => False) w W) => RNew_err first step A n c l W HN.out hn6 (HL.out.chg hc (fun _ _ h => h)) HA.out
          rw [he] at hR
          have HN2 := Lib.hid hN; have HR := Lib.hid hR
          clear hN hR he hbig hk hkn hn6
          go_wp2_with (first | (go_at_call 10; refine (alive_any _).mono ?_; rintro e wz ⟨rfl, cz⟩) | (go_at_call 7; refine HN2.out.mono ?_; rintro e wx ⟨B, nb, O, rfl, h1, cx, hO⟩; clear h1 hO) | (go_at_call 23; refine (HR.out _ (HX.out.trans cx (fun _ _ h => h) (fun _ _ h => h))).mono ?_; rintro e wy ⟨⟨p, rfl⟩, cy⟩))
          go_ret
          exact ⟨rfl, ((HX.out.trans (U := fun _ => False) cx (fun _ _ h => h) (fun _ _ h => h)).trans (U := fun _ => False) cy (fun _ _ h => h) (fun _ _ h => h)).trans cz (fun _ _ h => h) (fun _ _ h => h)⟩
        · have hN := New_bad first step A n c l wr HN.out hn6 (HL.out.chg HX.out (fun _ _ h => h)) (by rw [he]; decide)
          have hR := fun W (hc : Chg (fun _ => False) w W) => RNew_err first step A n c l W HN.out hn6 (HL.out.chg hc (fun _ _ h => h)) HA.out
          rw [he] at hR
          have HN2 := Lib.hid hN; have HR := Lib.hid hR
          clear hN hR he hbig hk hkn hn6
          go_wp2_with (first | (go_at_call 10; refine (alive_any _).mono ?_; rintro e wz ⟨rfl, cz⟩) | (go_at_call 7; refine HN2.out.mono ?_; rintro e wx ⟨rfl, cx⟩) | (go_at_call 23; refine (HR.out _ (HX.out.trans cx (fun _ _ h => h) (fun _ _ h => h))).mono ?_; rintro e wy ⟨⟨p, rfl⟩, cy⟩))
          go_ret
          exact ⟨rfl, ((HX.out.trans (U := fun _ => False) cx (fun _ _ h => h) (fun _ _ h => h)).trans (U := fun _ => False) cy (fun _ _ h => h) (fun _ _ h => h)).trans cz (fun _ _ h => h) (fun _ _ h => h)⟩
end Go.Proofs.YtfkfeoocglcjgaaDoor
