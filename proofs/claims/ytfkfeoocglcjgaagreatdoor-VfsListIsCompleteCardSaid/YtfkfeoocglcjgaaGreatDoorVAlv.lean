/- alive. -/
import Derived.Test.YtfkfeoocglcjgaaGreatDoorVAct
import Derived.Deep.DeepCutAuto
set_option linter.unusedVariables false
set_option linter.unusedSimpArgs false
namespace Go.Proofs.YtfkfeoocglcjgaaGreatDoor
open Go.RowKit

def rootP (nb : Nat) (first step : Int) (l : List Int) : PFS :=
  { next := first + step, step := step, lists := 0, rot := l, n := 1, F := fun t => if t = [] then some nb else none, ino := fun b => if b = nb then some ⟨0, 493, first, 1, 0, ⟨#[]⟩, 0, 0, [], []⟩ else none }

theorem New_fs (first step : Int) (A : Option Addr) (n c : Nat) (l : List Int) (w : World) (hn : l.length = n) (hb : n ≤ 1000000) (hl : Rd w A (i64s l)) (hA : A = none → n = 0) (hok : newErr first step l = 0) :
    Calls Tryz.prog 8 #[.agg #[.int .i64 first, .int .i64 step, .slice A n c]] w fun e w' => ∃ B nb O, e = .returned (.tuple #[.pointer (some ⟨B, 0, none⟩), .int .i64 0]) ∧ HasFS w' B (rootP nb first step l) O ∧ Chg (fun _ => False) w w' ∧ ∀ k, O k → w.heap.size ≤ k := by
  have h : ¬ (first < 1 ∨ 1000000 < first ∨ step < 1 ∨ 1000000 < step ∨ anyNeg l = true) := fun hh => by unfold newErr at hok; rw [if_pos hh] at hok; simp at hok
  refine (New_good first step A n c l w hn hb hl hA (by omega) (by omega) (by omega) (by omega) ?_).mono ?_
  · cases hh : anyNeg l with
    | false => rfl
    | true => exact absurd (.inr (.inr (.inr (.inr hh)))) h
  · rintro e w' ⟨B, M, nb, rv, dv, rfl, h1, h2, h3⟩
    refine ⟨B, nb, Own (rootRole B M nb rv dv), rfl, ⟨⟨_, _, h1, rfl, ?_, fun _ => Iff.rfl⟩, ?_⟩, h2, h3⟩
    · unfold rootSt FSt.pure rootP
      simp only [PFS.mk.injEq, true_and]
      funext b
      split <;> rfl
    · refine ⟨by simp [rootP]; omega, by simp [rootP]; omega, ?_, ?_, ?_, ?_⟩
      · intro b i hb; simp only [rootP] at hb; split at hb
        · cases hb; simp
        · cases hb
      · intro b i hb; simp only [rootP] at hb; split at hb
        · cases hb; simp
        · cases hb
      · intro b i hb; simp only [rootP] at hb; split at hb
        · cases hb; simp [rootP]
        · cases hb
      · intro p b hb; simp only [rootP] at hb; split at hb
        · cases hb; exact ⟨_, if_pos rfl⟩
        · cases hb

theorem MakeStep.n {P : PFS} {p : List UInt8} {k m : Int} {t : ByteArray} {d : List UInt8} {P' : PFS} (h : MakeStep P p k m t d P') : P'.n ≤ P.n + 1 := by
  unfold MakeStep at h
  split at h
  · obtain ⟨_, _, _, _, _, _, rfl⟩ := h; exact Nat.le_refl _
  · subst h; omega
theorem LinkStep.n {P : PFS} {p t : List UInt8} {P' : PFS} (h : LinkStep P p t P') : P'.n ≤ P.n + 1 := by
  unfold LinkStep at h
  split at h
  · obtain ⟨_, _, _, _, _, _, _, _, rfl⟩ := h; exact Nat.le_refl _
  · subst h; omega
theorem ChownStep.n {P : PFS} {p : List UInt8} {u m : Int} {P' : PFS} (h : ChownStep P p u m P') : P'.n ≤ P.n + 1 := by
  unfold ChownStep at h
  split at h
  · subst h; omega
  · obtain ⟨_, _, rfl⟩ := h; exact Nat.le_succ _
theorem DoStep.n {P : PFS} {a : ActD} {P' : PFS} (h : DoStep P a P') : P'.n ≤ P.n + 1 := by
  unfold DoStep at h
  split at h
  · exact h.n
  · split at h
    · exact h.n
    · split at h
      · exact h.n
      · split at h
        · exact h.n
        · split at h
          · exact h.n
          · split at h
            · exact h.n
            · subst h; omega

theorem alive_make (nb : Nat) : (rootP nb 1 1 []).makeErr [97] 1 420 [] = 0 := by
  have h1 : pathErr [97] = 0 := by decide +kernel
  have h2 : parentB [97] = [] := by decide +kernel
  unfold PFS.makeErr PFS.placeErr PFS.kindAt
  rw [h1, h2]
  simp [rootP]
theorem alive_step {nb : Nat} {P2 P3 : PFS} (h2 : MakeStep (rootP nb 1 1 []) [97] 1 420 ⟨#[]⟩ [] P2) :
    P2.linkErr [98] [97] = 0 ∧ (LinkStep P2 [98] [97] P3 → P3.stat [97] = ⟨1, 420, 2, 2, 0, ⟨#[]⟩, 0, 0⟩ ∧ P3.stat [98] = P3.stat [97] ∧ P3.findErr [97] = 0 ∧ P3.findErr [98] = 0) := by
  unfold MakeStep at h2
  rw [if_pos (alive_make nb)] at h2
  obtain ⟨pb, pi, nb2, g1, g2, g3, rfl⟩ := h2
  have p97 : parentB [97] = [] := by decide +kernel
  have p98 : parentB [98] = [] := by decide +kernel
  have q98 : pathErr [98] = 0 := by decide +kernel
  rw [p97] at g1
  obtain rfl : nb = pb := by simpa [rootP] using g1
  have hne : nb2 ≠ nb := by intro e; subst e; simp [rootP] at g3
  have hne' : nb ≠ nb2 := fun e => hne e.symm
  have hF : ∀ t, (((rootP nb 1 1 []).add nb2 (newP 1 420 (rootP nb 1 1 []).next ⟨#[]⟩ [])).enter [97] nb nb2).F t = if t = [97] then some nb2 else if t = [] then some nb else none := fun t => rfl
  have hI2 : (((rootP nb 1 1 []).add nb2 (newP 1 420 (rootP nb 1 1 []).next ⟨#[]⟩ [])).enter [97] nb nb2).ino nb2 = some (newP 1 420 2 ⟨#[]⟩ []) := by
    unfold PFS.enter PFS.add; simp [hne]; rfl
  have hI1 : ∃ i, (((rootP nb 1 1 []).add nb2 (newP 1 420 (rootP nb 1 1 []).next ⟨#[]⟩ [])).enter [97] nb nb2).ino nb = some i ∧ i.kind = 0 := by
    unfold PFS.enter PFS.add; simp [hne', rootP]; rfl
  obtain ⟨i1, hI1, hk1⟩ := hI1
  generalize (((rootP nb 1 1 []).add nb2 (newP 1 420 (rootP nb 1 1 []).next ⟨#[]⟩ [])).enter [97] nb nb2) = P2 at *
  have hl : P2.linkErr [98] [97] = 0 := by
    unfold PFS.linkErr PFS.placeErr PFS.kindAt
    rw [q98, p98]
    simp [hF, hI1, hI2, hk1, newP]
  refine ⟨hl, fun h3 => ?_⟩
  unfold LinkStep at h3
  rw [if_pos hl] at h3
  obtain ⟨pb, pi, nb3, ni, k1, k2, k3, k4, rfl⟩ := h3
  rw [p98, hF] at k1
  obtain rfl : nb = pb := by simpa using k1
  rw [hF] at k3
  obtain rfl : nb2 = nb3 := by simpa using k3
  rw [hI2] at k4
  obtain rfl := Option.some.inj k4
  have eF : ∀ t, (((P2.turn nb2 (newP 1 420 2 ⟨#[]⟩ []).bump).enter [98] nb nb2)).F t = if t = [98] then some nb2 else P2.F t := fun _ => rfl
  have eI : (((P2.turn nb2 (newP 1 420 2 ⟨#[]⟩ []).bump).enter [98] nb nb2)).ino nb2 = some (newP 1 420 2 ⟨#[]⟩ []).bump := by
    unfold PFS.enter PFS.turn; simp [hne]
  unfold PFS.stat PFS.findErr
  simp only [eF, hF]
  simp only [List.cons.injEq, and_true, if_true]
  rw [if_neg (by decide)]
  simp only [eI]
  simp [PIno.stat, PIno.bump, newP]

set_option maxHeartbeats 4000000 in
theorem alive_any (w : World) : Calls Tryz.prog 6 #[] w fun e w' => e = .returned (.bool true) ∧ Chg (fun _ => False) w w' := by
  have hnew := New_fs 1 1 none 0 0 [] w rfl (by omega) (.inl rfl) (fun _ => rfl) (by decide)
  have HN := Lib.hid hnew; clear hnew
  go_enter Tryz.func6, Tryz.ntmps6
  go_wp2_with (go_at_call 8; refine HN.out.mono ?_; rintro e w1 ⟨B, nb, O, rfl, h1, hc1, hO⟩)
  have hcr := Create_fs h1 ⟨#[97]⟩ 420 none 0 0 [] (by decide) (by simp [rootP]) rfl (by omega) (.inl rfl) (fun _ => rfl) (fun h => absurd rfl h)
  rw [show (⟨#[97]⟩ : ByteArray).data.toList = [97] from rfl, alive_make] at hcr
  refine hcr.mono ?_
  rintro e w2 ⟨rfl, P2, O2, h2, n2, s2⟩
  have HR := Lib.hid (And.intro h1 (And.intro hc1 (And.intro hO (And.intro h2 (And.intro n2 s2)))))
  clear h1 hc1 hO h2 n2 s2 hcr
  go_wp2_with fail
  obtain ⟨h1, hc1, hO, h2, n2, s2⟩ := HR.out
  have hlk := Link_fs h2 ⟨#[98]⟩ ⟨#[97]⟩ (by decide) (by decide) (by have := s2.n; simp [rootP] at this; omega)
  rw [show (⟨#[97]⟩ : ByteArray).data.toList = [97] from rfl, show (⟨#[98]⟩ : ByteArray).data.toList = [98] from rfl, (alive_step (P3 := P2) s2).1] at hlk
  refine hlk.mono ?_
  rintro e w3 ⟨rfl, P3, O3, h3, n3, s3⟩
  obtain ⟨a1, a2, a3, a4⟩ := (alive_step s2).2 s3
  have HR := Lib.hid (And.intro h1 (And.intro hc1 (And.intro hO (And.intro n2 (And.intro h3 n3)))))
  have hla := Lstat_fs h3 ⟨#[97]⟩ (by decide)
  rw [show (⟨#[97]⟩ : ByteArray).data.toList = [97] from rfl, a1, a3] at hla
  simp only [Info8.val] at hla
  have HS := Lib.hid (And.intro s2 s3)
  clear h1 hc1 hO h2 n2 s2 hlk h3 n3 s3
  go_wp2_with fail
  refine hla.mono ?_
  rintro e w4 ⟨rfl, c4⟩
  have HC4 := Lib.hid c4
  have HA := Lib.hid (And.intro a2 a4)
  clear c4 a1 a3 a2 a4
  go_wp2_with fail
  obtain ⟨h1, hc1, hO, n2, h3, n3⟩ := HR.out
  have hc5 := HC4.out.alloc (.cells #[.int .i64 1, .int .i64 420, .int .i64 2, .int .i64 2, .int .i64 0, .string ⟨#[]⟩, .int .i64 0, .int .i64 0] 52)
  have hI := Blk.new w4 #[.int .i64 1, .int .i64 420, .int .i64 2, .int .i64 2, .int .i64 0, .string ⟨#[]⟩, .int .i64 0, .int .i64 0] 52
  obtain ⟨a2, a4⟩ := HA.out
  have hlb := Lstat_fs (h3.chg hc5 (fun _ _ h => h)) ⟨#[98]⟩ (by decide)
  rw [show (⟨#[98]⟩ : ByteArray).data.toList = [98] from rfl, a2, a4] at hlb
  have a1 := ((alive_step (P3 := P3) HS.out.1).2 HS.out.2).1
  rw [a1] at hlb
  simp only [Info8.val] at hlb
  refine hlb.mono ?_
  rintro e w5 ⟨rfl, c5⟩
  have HC5 := Lib.hid (And.intro hc5 (And.intro c5 hI))
  have hN := (n2.trans n3).chg
  have hW : Chg (fun _ => False) w w5 := by
    have h13 := hc1.trans (U := fun _ => False) hN (fun _ _ h => h) (fun k hk ho => by have := hO k ho; omega)
    exact (h13.trans (U := fun _ => False) hc5 (fun _ _ h => h) (fun _ _ h => h)).trans c5 (fun _ _ h => h) (fun _ _ h => h)
  have HW := Lib.hid hW
  clear c5 hlb hI hc5 a2 a4 h1 hc1 hO n2 h3 n3 a1 hla hN hW
  go_upto_region 6 with fail
  have hX : Chg (fun _ => False) w5 (w5.alloc (.cells #[.int .i64 1, .int .i64 420, .int .i64 2, .int .i64 2, .int .i64 0, .string ⟨#[]⟩, .int .i64 0, .int .i64 0] 52)) := (Chg.refl _ _).alloc _
  have hA := (HC5.out.2.2.chg HC5.out.2.1 (fun h => h)).chg hX (fun h => h)
  have hB := Blk.new w5 #[.int .i64 1, .int .i64 420, .int .i64 2, .int .i64 2, .int .i64 0, .string ⟨#[]⟩, .int .i64 0, .int .i64 0] 52
  have HX := Lib.hid (HW.out.trans (U := fun _ => False) hX (fun _ _ h => h) (fun _ _ h => h))
  clear hX
  generalize (w5.alloc (.cells #[.int .i64 1, .int .i64 420, .int .i64 2, .int .i64 2, .int .i64 0, .string ⟨#[]⟩, .int .i64 0, .int .i64 0] 52)) = W5 at *
  have a0 := hA.cell 0
  have a1 := hA.cell 1
  have a2 := hA.cell 2
  have a3 := hA.cell 3
  have a4 := hA.cell 4
  have a5 := hA.cell 5
  have a6 := hA.cell 6
  have a7 := hA.cell 7
  have b0 := hB.cell 0
  have b1 := hB.cell 1
  have b2 := hB.cell 2
  have b3 := hB.cell 3
  have b4 := hB.cell 4
  have b5 := hB.cell 5
  have b6 := hB.cell 6
  have b7 := hB.cell 7
  simp only [List.getElem?_toArray, List.getElem?_cons_zero, List.getElem?_cons_succ] at a0 a1 a2 a3 a4 a5 a6 a7 b0 b1 b2 b3 b4 b5 b6 b7
  clear hA hB
  go_wp2_with fail
  go_ret
  exact ⟨rfl, HX.out⟩
end Go.Proofs.YtfkfeoocglcjgaaGreatDoor
