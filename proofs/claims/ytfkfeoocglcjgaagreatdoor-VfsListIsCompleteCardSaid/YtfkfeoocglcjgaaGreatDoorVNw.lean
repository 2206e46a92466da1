/- vfs.New, at every input. -/
import Derived.Test.YtfkfeoocglcjgaaGreatDoorVNew
set_option linter.unusedVariables false
set_option linter.unusedSimpArgs false
namespace Go.Proofs.YtfkfeoocglcjgaaGreatDoor
open Go.RowKit

theorem clone64_from (A : Option Addr) (n c : Nat) (l : List Int) (W X : World) (hx : Chg (fun _ => False) W X) (hn : l.length = n) (hb : n ≤ 1000000) (hl : Rd W A (i64s l)) (hA : A = none → n = 0) :
    Calls Tryz.prog 26 #[.slice A n c] X fun e w' => ∃ A' c', e = .returned (.slice A' n c') ∧ w'.ownsRow 0 3 1 (.slice A' n c') n (i64s l) ∧ Chg (fun _ => False) W w' ∧ (∀ k, (Value.slice A' n c').ownBlock = some k → X.heap.size ≤ k) ∧ Chg (fun _ => False) X w' :=
  (clone64_any A n c l X hn hb (hl.chg hx (fun _ _ h => h)) hA).mono fun e w' ⟨A', c', h1, h2, h3, h4⟩ => ⟨A', c', h1, h2, hx.trans h3 (fun _ _ h => h) (fun _ _ h => h), h4, h3⟩

/-- The new file system's parts. -/
structure MadeFS (w X : World) (B M : Nat) (first step : Int) (A : Option Addr) (n c : Nat) (l : List Int) : Prop where
  blk : Blk X B #[.int .i64 first, .int .i64 step, .slice A n c, .int .i64 0, .map (some M)] 68
  files : Files X M 0 (fun _ => none)
  rot : X.ownsRow 0 3 1 (.slice A n c) n (i64s l)
  chg : Chg (fun _ => False) w X
  geB : w.heap.size ≤ B
  geM : w.heap.size ≤ M
  ne : B ≠ M
  own : ∀ k, (Value.slice A n c).ownBlock = some k → w.heap.size ≤ k ∧ k ≠ B ∧ k ≠ M

theorem MadeFS.of1 {w w1 : World} {first step : Int} {A : Option Addr} {n c : Nat} {l : List Int} (h1 : w1.ownsRow 0 3 1 (.slice A n c) n (i64s l)) (hch : Chg (fun _ => False) w w1) (h3 : ∀ k, (Value.slice A n c).ownBlock = some k → w.heap.size ≤ k) :
    MadeFS w ((w1.alloc (.map #[] 0)).alloc (.cells #[.int .i64 first, .int .i64 step, .slice A n c, .int .i64 0, .map (some w1.heap.size)] 68)) (w1.heap.size + 1) w1.heap.size first step A n c l := by
  have hX := Blk.new (w1.alloc (.map #[] 0)) #[.int .i64 first, .int .i64 step, .slice A n c, .int .i64 0, .map (some w1.heap.size)] 68
  rw [show (w1.alloc (.map #[] 0)).heap.size = w1.heap.size + 1 by simp] at hX
  have hs := hch.size
  exact ⟨hX, (Files.made w1).chg (((Chg.refl (fun _ => False) _)).alloc _) (fun h => h), own_chg h1 (((Chg.refl (fun _ => False) w1).alloc (.map #[] 0)).alloc _) (fun _ _ h => h), (hch.alloc _).alloc _, by omega, hs, by omega,
    fun k hk => ⟨h3 k hk, by have := (h1.lt k hk).2; omega, by have := (h1.lt k hk).2; omega⟩⟩
theorem MadeFS.of2 {w w1 : World} {first step : Int} {A : Option Addr} {n c : Nat} {l : List Int} (h1 : w1.ownsRow 0 3 1 (.slice A n c) n (i64s l)) (hch : Chg (fun _ => False) (w.alloc (.map #[] 0)).drew w1) (h3 : ∀ k, (Value.slice A n c).ownBlock = some k → (w.alloc (.map #[] 0)).drew.heap.size ≤ k) :
    MadeFS w (w1.alloc (.cells #[.int .i64 first, .int .i64 step, .slice A n c, .int .i64 0, .map (some w.heap.size)] 68)) w1.heap.size w.heap.size first step A n c l := by
  have hs := hch.size
  simp at hs h3
  exact ⟨Blk.new w1 _ _, ((Files.made w).chg ((Chg.of_drew hch).alloc _) (fun h => h)), own_chg h1 ((Chg.refl (fun _ => False) w1).alloc _) (fun _ _ h => h), (((Chg.refl _ w).alloc (.map #[] 0)).trans (Chg.of_drew hch) (fun _ _ h => h) (fun _ _ h => h)).alloc _, by omega, Nat.le_refl _, by omega,
    fun k hk => ⟨by have := h3 k hk; omega, by have := (h1.lt k hk).2; omega, by have := h3 k hk; omega⟩⟩

def rootIno (first : Int) (dv : Value) : Ino := ⟨0, 493, first, 1, 0, ⟨#[]⟩, 0, 0, dv, .slice none 0 0, [], []⟩
def rootSt (B M nb : Nat) (first step : Int) (rv dv : Value) (l : List Int) : FSt :=
  { B := B, M := M, next := first + step, step := step, lists := 0, rv := rv, rot := l, n := 1, F := fun t => if t = [] then some nb else none, ino := fun b => if b = nb then some (rootIno first dv) else none }
def rootRole (B M nb : Nat) (rv dv : Value) : Nat → Option (Nat × Nat) := fun k =>
  if k = B then some (B, 3) else if k = M then some (B, 4) else if k = nb then some (nb, 0) else if dv.ownBlock = some k then some (nb, 1) else if rv.ownBlock = some k then some (B, 5) else none

theorem MadeFS.root {w X w3 w4 : World} {B M : Nat} {first step : Int} {A : Option Addr} {n c nb : Nat} {dv : Value} {l : List Int} (h : MadeFS w X B M first step A n c l) (hn : l.length = n) (hnb : X.heap.size ≤ nb) (hI : Blk w3 nb (rootIno first dv).cells 91)
    (hD : w3.ownsRow 0 5 1 dv 0 []) (hdk : ∀ k, dv.ownBlock = some k → X.heap.size ≤ k ∧ k ≠ nb) (hB : Blk w3 B #[.int .i64 (first + step), .int .i64 step, .slice A n c, .int .i64 0, .map (some M)] 68) (hch : Chg (fun k => k = B) X w3)
    (hF : Files w4 M (0 + 1) (fun t => if t = [] then some nb else none)) (hch4 : Chg (fun k => k = M) w3 w4) :
    IsFS w4 (rootSt B M nb first step (.slice A n c) dv l) (rootRole B M nb (.slice A n c) dv) ∧ Chg (fun _ => False) w w4 ∧ ∀ k, Own (rootRole B M nb (.slice A n c) dv) k → w.heap.size ≤ k := by
  have hBlt := h.blk.lt
  have hMlt := h.files.lt
  have hIlt := hI.lt
  have hs4 := hch4.size
  have hs3 := hch.size
  have hne := h.ne
  have hsX := h.chg.size
  have hrlt := fun k hk => (h.rot.lt k hk).2
  have hdlt := fun k hk => (hD.lt k hk).2
  have hBM : ¬ M = B := fun e => hne e.symm
  refine ⟨⟨hB.chg hch4 hne, hF, ?_, ?_, ?_, ?_, ?_, by simp [rootRole, rootSt], by simp [rootRole, rootSt, hBM], ?_, ?_, ?_, ?_, ?_⟩, ?_, ?_⟩
  · intro b i hb
    simp only [rootSt] at hb
    split at hb
    · next e => cases hb; rw [e]; exact hI.chg hch4 (by omega)
    · cases hb
  · intro b i hb
    simp only [rootSt] at hb
    split at hb
    · cases hb; exact own_chg hD hch4 (fun k hk => by have := (hdk k hk).1; omega)
    · cases hb
  · intro b i hb
    simp only [rootSt] at hb
    split at hb
    · cases hb; exact World.ownsRow_nil _ _ _ _
    · cases hb
  · show w4.ownsRow 0 _ 1 (.slice A n c) l.length (i64s l)
    rw [hn]
    exact own_chg (own_chg h.rot hch (fun k hk => (h.own k hk).2.1)) hch4 (fun k hk => (h.own k hk).2.2)
  · intro p b hb
    simp only [rootSt] at hb ⊢
    split at hb
    · cases hb; exact ⟨_, if_pos rfl⟩
    · cases hb
  · intro b i hb
    simp only [rootSt] at hb
    split at hb
    · next e => rw [e]; simp [rootRole]; rw [if_neg (by omega), if_neg (by omega)]
    · cases hb
  · intro b i k hb hk
    simp only [rootSt] at hb
    split at hb
    · next e =>
      cases hb
      have hk' : dv.ownBlock = some k := hk
      have h1 := hdk k hk'
      rw [e]; simp only [rootRole]
      rw [if_neg (by omega), if_neg (by omega), if_neg h1.2, if_pos hk']
    · cases hb
  · intro b i k hb hk
    simp only [rootSt] at hb
    split at hb
    · cases hb; cases hk
    · cases hb
  · intro k hk
    have hk' : (Value.slice A n c).ownBlock = some k := hk
    have h1 := h.own k hk'
    have h2 := hrlt k hk'
    simp only [rootRole, rootSt]
    rw [if_neg h1.2.1, if_neg h1.2.2, if_neg (by omega), if_neg (fun e => by have := (hdk k e).1; omega), if_pos hk']
  · intro k r hk
    simp only [rootRole] at hk
    split at hk
    · omega
    · split at hk
      · omega
      · split at hk
        · omega
        · split at hk
          · next e => have := hdlt k e; omega
          · split at hk
            · next e => have := hrlt k e; omega
            · cases hk
  · refine (h.chg.trans (U := fun k => k = B) hch (fun _ _ h => h.elim) (fun _ _ h => h)).trans hch4 (fun k hk e => ?_) (fun k hk e => ?_)
    · have := h.geB; omega
    · have := h.geM; omega
  · rintro k ⟨r, hk⟩
    simp only [rootRole] at hk
    have g1 := h.geB
    have g2 := h.geM
    split at hk
    · omega
    · split at hk
      · omega
      · split at hk
        · omega
        · split at hk
          · next e => have := (hdk k e).1; omega
          · split at hk
            · next e => exact (h.own k e).1
            · cases hk

set_option maxRecDepth 100000 in
set_option maxHeartbeats 4000000 in
theorem New_good (first step : Int) (A : Option Addr) (n c : Nat) (l : List Int) (w : World) (hn : l.length = n) (hb : n ≤ 1000000) (hl : Rd w A (i64s l)) (hA : A = none → n = 0)
    (hf1 : 1 ≤ first) (hf2 : first ≤ 1000000) (hs1 : 1 ≤ step) (hs2 : step ≤ 1000000) (hneg : anyNeg l = false) :
    Calls Tryz.prog 8 #[.agg #[.int .i64 first, .int .i64 step, .slice A n c]] w fun e w' => ∃ B M nb rv dv, e = .returned (.tuple #[.pointer (some ⟨B, 0, none⟩), .int .i64 0]) ∧ IsFS w' (rootSt B M nb first step rv dv l) (rootRole B M nb rv dv) ∧ Chg (fun _ => False) w w' ∧ ∀ k, Own (rootRole B M nb rv dv) k → w.heap.size ≤ k := by
  have hc0 : Chg (fun _ => False) w (w.alloc (.cells #[.int .i64 first, .int .i64 step, .slice A n c] 30)) := (Chg.refl _ w).alloc _
  have hX := Blk.new w #[.int .i64 first, .int .i64 step, .slice A n c] 30
  have HX := Lib.hid hX; clear hX
  have HL := Lib.hid hl; clear hl
  have HN := Lib.hid hn; clear hn
  have hmm := @run_makeMap Tryz.prog
  go_enter Tryz.func8, Tryz.ntmps8
  go_wp2_with fail
  go_loopw [13] (fun p wr => (∃ k : Nat, p = .int .i64 k ∧ k ≤ 2) ∧ wr = (w.alloc (.cells #[.int .i64 first, .int .i64 step, .slice A n c] 30)).alloc (.cells #[.int .i64 first, .int .i64 step] 3)) (fun p _ => 2 - (match p with | .int _ k => k.toNat | _ => 0))
  case atStart => exact ⟨⟨0, rfl, by omega⟩, rfl⟩
  case round =>
    obtain ⟨⟨k, rfl, hk⟩, rfl⟩ := hrel
    have t1 : decide (first < 1) = false := by simp; omega
    have t2 : decide (1000000 < first) = false := by simp; omega
    have t3 : decide (step < 1) = false := by simp; omega
    have t4 : decide (1000000 < step) = false := by simp; omega
    obtain rfl | rfl | rfl : k = 0 ∨ k = 1 ∨ k = 2 := by omega
    · go_wp2_with fail
      go_roundw
      case rel => exact ⟨⟨1, rfl, by omega⟩, trivial⟩
      case measure => simp
    · go_wp2_with fail
      go_roundw
      case rel => exact ⟨⟨2, rfl, by omega⟩, trivial⟩
      case measure => simp
    · have hW1 : Chg (fun _ => False) w ((w.alloc (.cells #[.int .i64 first, .int .i64 step, .slice A n c] 30)).alloc (.cells #[.int .i64 first, .int .i64 step] 3)) := hc0.alloc _
      have hB1 := HX.out.alloc (.cells #[.int .i64 first, .int .i64 step] 3)
      have c0 := hB1.cell 0
      have c1 := hB1.cell 1
      have c2 := hB1.cell 2
      simp only [List.getElem?_toArray, List.getElem?_cons_zero, List.getElem?_cons_succ] at c0 c1 c2
      have hcf := ContainsFunc_spec A n c l _ HN.out hb (HL.out.chg hW1 (fun _ _ h => h))
      rw [hneg] at hcf
      have hcl := fun X (hc : Chg (fun _ => False) _ X) => clone64_from A n c l _ X hc HN.out hb (HL.out.chg hW1 (fun _ _ h => h)) hA
      have HCL := Lib.hid hcl; clear hcl
      have HW := Lib.hid hW1; clear hW1 hc0
      have HB := Lib.hid hB1; clear hB1
      clear hA
      generalize (w.alloc (.cells #[.int .i64 first, .int .i64 step, .slice A n c] 30)).alloc (.cells #[.int .i64 first, .int .i64 step] 3) = W at *
      go_wp2_with (go_at_call 24; refine hcf.mono ?_; rintro e w' ⟨rfl, rfl⟩)
      go_region_held3 (fun X => X.cell? ⟨w.heap.size, 0, none⟩ = some (.int .i64 first) ∧ X.cell? ⟨w.heap.size, 1, none⟩ = some (.int .i64 step) ∧ X.cell? ⟨w.heap.size, 2, none⟩ = some (.slice A n c))
        (first | go_keep | exact ⟨cell_keep hch1 c0, cell_keep hch1 c1, cell_keep hch1 c2⟩)
        (first | (go_at_call 26; refine (HCL.out _ (by first | exact (Chg.refl _ _).drew | exact ((Chg.refl _ _).alloc _).drew | exact (Chg.refl _ _).drewN _ | exact ((Chg.refl _ _).drew).alloc _)).mono ?_; rintro e w1 ⟨A', c', rfl, h1, hch1, h3, hchX⟩))
      all_goals clear c0 c1 c2
      · have HM : MadeFS w' _ _ _ first step A' n c' l := MadeFS.of1 h1 hch1 h3
        clear h1 h3 hch1 hchX HCL HB
        generalize ((w1.alloc (.map #[] 0)).alloc (.cells #[.int .i64 first, .int .i64 step, .slice A' n c', .int .i64 0, .map (some w1.heap.size)] 68)) = X at HM ⊢
        generalize w1.heap.size + 1 = B at HM ⊢
        generalize w1.heap.size = M at HM ⊢
        have HIn := fun X2 (hB : Blk X2 B #[.int .i64 first, .int .i64 step, .slice A' n c', .int .i64 0, .map (some M)] 68) => inode_spec B first step 0 (.slice A' n c') (.map (some M)) 0 493 0 0 0 0 0 ⟨#[]⟩ none 0 0 [] X2 hB rfl (by omega) (.inl rfl) (fun _ => rfl) (fun _ _ h => by cases h) (by rw [IntKind.wrap_i64]; omega)
        have HI := Lib.hid HIn; clear HIn
        have b4 : X.cell? ⟨B, 4, none⟩ = some (.map (some M)) := HM.blk.cell 4
        have HH := Lib.hid HM; clear HM
        go_wp2_with fail
        go_region_held3 (fun Y => Y.cell? ⟨B, 4, none⟩ = some (.map (some M)))
          (first | go_keep | exact g5.cell 4 | exact (g5.chg gc4 HH.out.ne).cell 4)
          (first | (go_at_call 27; refine (HI.out _ HH.out.blk.drew).mono ?_; rintro e w3 ⟨nb, A2, c2, rfl, g1, g2, g3, g4, g5, g6⟩; obtain ⟨w4, hst, gF, gc4⟩ := (HH.out.files.chg (Chg.of_drew g6) (fun e => HH.out.ne e.symm)).store (by decide) ⟨#[]⟩ (by decide) nb))
        have HR := Lib.hid (HH.out.root HN.out g1 g2 g3 g4 g5 (Chg.of_drew g6) gF gc4)
        clear g1 g2 g3 g4 g5 g6 gF gc4 b4
        go_wp2_with fail
        go_ret2
        obtain ⟨r1, r2, r3⟩ := HR.out
        exact ⟨B, M, nb, _, _, rfl, r1, HW.out.trans r2 (fun _ _ h => h) (fun _ _ h => h), fun k hk => Nat.le_trans HW.out.size (r3 k hk)⟩
      · have HM : MadeFS w' _ _ _ first step A' n c' l := MadeFS.of2 h1 hchX h3
        clear h1 h3 hch1 hchX HCL HB
        generalize (w1.alloc (.cells #[.int .i64 first, .int .i64 step, .slice A' n c', .int .i64 0, .map (some w'.heap.size)] 68)) = X at HM ⊢
        generalize w1.heap.size = B at HM ⊢
        generalize w'.heap.size = M at HM ⊢
        have HIn := fun X2 (hB : Blk X2 B #[.int .i64 first, .int .i64 step, .slice A' n c', .int .i64 0, .map (some M)] 68) => inode_spec B first step 0 (.slice A' n c') (.map (some M)) 0 493 0 0 0 0 0 ⟨#[]⟩ none 0 0 [] X2 hB rfl (by omega) (.inl rfl) (fun _ => rfl) (fun _ _ h => by cases h) (by rw [IntKind.wrap_i64]; omega)
        have HI := Lib.hid HIn; clear HIn
        have b4 : X.cell? ⟨B, 4, none⟩ = some (.map (some M)) := HM.blk.cell 4
        have HH := Lib.hid HM; clear HM
        go_wp2_with fail
        go_region_held3 (fun Y => Y.cell? ⟨B, 4, none⟩ = some (.map (some M)))
          (first | go_keep | exact g5.cell 4 | exact (g5.chg gc4 HH.out.ne).cell 4)
          (first | (go_at_call 27; refine (HI.out _ HH.out.blk.drew).mono ?_; rintro e w3 ⟨nb, A2, c2, rfl, g1, g2, g3, g4, g5, g6⟩; obtain ⟨w4, hst, gF, gc4⟩ := (HH.out.files.chg (Chg.of_drew g6) (fun e => HH.out.ne e.symm)).store (by decide) ⟨#[]⟩ (by decide) nb))
        have HR := Lib.hid (HH.out.root HN.out g1 g2 g3 g4 g5 (Chg.of_drew g6) gF gc4)
        clear g1 g2 g3 g4 g5 g6 gF gc4 b4
        go_wp2_with fail
        go_ret2
        obtain ⟨r1, r2, r3⟩ := HR.out
        exact ⟨B, M, nb, _, _, rfl, r1, HW.out.trans r2 (fun _ _ h => h) (fun _ _ h => h), fun k hk => Nat.le_trans HW.out.size (r3 k hk)⟩

/-- What New answers. -/
def newErr (first step : Int) (l : List Int) : Int := if first < 1 ∨ 1000000 < first ∨ step < 1 ∨ 1000000 < step ∨ anyNeg l = true then 2 else 0

structure OptRel (p : Value) (first step : Int) : Prop where
  out : ∃ k : Nat, p = .int .i64 k ∧ k ≤ 2 ∧ (1 ≤ k → ¬ first < 1 ∧ ¬ 1000000 < first) ∧ (2 ≤ k → ¬ step < 1 ∧ ¬ 1000000 < step)

set_option maxRecDepth 100000 in
set_option maxHeartbeats 4000000 in
theorem New_bad (first step : Int) (A : Option Addr) (n c : Nat) (l : List Int) (w : World) (hn : l.length = n) (hb : n ≤ 1000000) (hl : Rd w A (i64s l)) (hbad : newErr first step l ≠ 0) :
    Calls Tryz.prog 8 #[.agg #[.int .i64 first, .int .i64 step, .slice A n c]] w fun e w' => e = .returned (.tuple #[.pointer none, .int .i64 2]) ∧ Chg (fun _ => False) w w' := by
  have hc0 : Chg (fun _ => False) w (w.alloc (.cells #[.int .i64 first, .int .i64 step, .slice A n c] 30)) := (Chg.refl _ w).alloc _
  have hX := Blk.new w #[.int .i64 first, .int .i64 step, .slice A n c] 30
  have HX := Lib.hid hX; clear hX
  have HL := Lib.hid hl; clear hl
  have HN := Lib.hid hn; clear hn
  have HB := Lib.hid hbad; clear hbad
  go_enter Tryz.func8, Tryz.ntmps8
  go_wp2_with fail
  go_loopw [13] (fun p wr => OptRel p first step ∧ wr = (w.alloc (.cells #[.int .i64 first, .int .i64 step, .slice A n c] 30)).alloc (.cells #[.int .i64 first, .int .i64 step] 3)) (fun p _ => 2 - (match p with | .int _ k => k.toNat | _ => 0))
  case atStart => exact ⟨⟨0, rfl, by omega, by omega, by omega⟩, rfl⟩
  case round =>
    obtain ⟨⟨k, rfl, hk, hk1, hk2⟩, rfl⟩ := hrel
    have hW1 : Chg (fun _ => False) w ((w.alloc (.cells #[.int .i64 first, .int .i64 step, .slice A n c] 30)).alloc (.cells #[.int .i64 first, .int .i64 step] 3)) := hc0.alloc _
    obtain rfl | rfl | rfl : k = 0 ∨ k = 1 ∨ k = 2 := by omega
    · clear hk1 hk2 hk
      by_cases h1 : first < 1
      · have t1 : decide (first < 1) = true := by simpa using h1
        clear h1
        go_wp2_with fail
        go_ret2
        exact ⟨rfl, hW1⟩
      · have t1 : decide (first < 1) = false := by simpa using h1
        by_cases h2 : 1000000 < first
        · have t2 : decide (1000000 < first) = true := by simpa using h2
          clear h1
          go_wp2_with fail
          go_ret2
          exact ⟨rfl, hW1⟩
        · have t2 : decide (1000000 < first) = false := by simpa using h2
          have H1 := Lib.hid (And.intro h1 h2); clear h1 h2
          go_wp2_with fail
          go_roundw
          case rel => exact ⟨⟨1, rfl, by omega, fun _ => H1.out, by omega⟩, trivial⟩
          case measure => simp
    · have H1 := Lib.hid (hk1 (by omega))
      clear hk1 hk2 hk
      by_cases h1 : step < 1
      · have t1 : decide (step < 1) = true := by simpa using h1
        clear h1
        go_wp2_with fail
        go_ret2
        exact ⟨rfl, hW1⟩
      · have t1 : decide (step < 1) = false := by simpa using h1
        by_cases h2 : 1000000 < step
        · have t2 : decide (1000000 < step) = true := by simpa using h2
          clear h1
          go_wp2_with fail
          go_ret2
          exact ⟨rfl, hW1⟩
        · have t2 : decide (1000000 < step) = false := by simpa using h2
          have H2 := Lib.hid (And.intro h1 h2); clear h1 h2
          go_wp2_with fail
          go_roundw
          case rel => exact ⟨⟨2, rfl, by omega, fun _ => H1.out, fun _ => H2.out⟩, trivial⟩
          case measure => simp
    · have hneg : anyNeg l = true := by
        cases ha : anyNeg l with
        | true => rfl
        | false =>
          have h1 := hk1 (by omega)
          have h2 := hk2 (by omega)
          exact absurd (by unfold newErr; rw [if_neg]; rintro (h | h | h | h | h); exact h1.1 h; exact h1.2 h; exact h2.1 h; exact h2.2 h; rw [ha] at h; cases h) HB.out
      have hB1 := HX.out.alloc (.cells #[.int .i64 first, .int .i64 step] 3)
      have c2 := hB1.cell 2
      simp only [List.getElem?_toArray, List.getElem?_cons_zero, List.getElem?_cons_succ] at c2
      have hcf := ContainsFunc_spec A n c l _ HN.out hb (HL.out.chg hW1 (fun _ _ h => h))
      rw [hneg] at hcf
      have HW := Lib.hid hW1; clear hW1 hc0
      clear hneg hk1 hk2 hB1
      generalize (w.alloc (.cells #[.int .i64 first, .int .i64 step, .slice A n c] 30)).alloc (.cells #[.int .i64 first, .int .i64 step] 3) = W at *
      go_wp2_with (go_at_call 24; refine hcf.mono ?_; rintro e w' ⟨rfl, rfl⟩)
      go_ret2
      exact ⟨rfl, HW.out⟩
end Go.Proofs.YtfkfeoocglcjgaaGreatDoor
