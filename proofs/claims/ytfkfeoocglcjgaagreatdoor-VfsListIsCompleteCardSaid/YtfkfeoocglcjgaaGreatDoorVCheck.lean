/- pathname.Check: the iterator over a path's components, its caller. -/
import Derived.Test.YtfkfeoocglcjgaaGreatDoorVCut
import Derived.RangeFuncNested
import Derived.RangeFuncBound
import Derived.RangeFuncCalls
import Derived.RangeFuncLeaves
import Derived.Shelf.Abstract
import Derived.Shelf.RegionOpen
import Derived.OwnWalkIn
import Derived.TacticsInMore
import Derived.LoopNIn
import Derived.LoopIn
set_option linter.unusedVariables false
set_option linter.unusedSimpArgs false
namespace Go.Proofs.YtfkfeoocglcjgaaGreatDoor
open Go.RowKit Go.Shelf
attribute [local go_sem] Oper.semAt_some

/-- The components of a path: the pieces between slashes. -/
def comps : List UInt8 → List (List UInt8)
  | [] => [[]]
  | a :: t => if a = 47 then [] :: comps t else
    match comps t with
    | [] => [[a]]
    | c :: cs => (a :: c) :: cs
def okComp (c : List UInt8) : Bool := !(c == [] || c == [46] || c == [46, 46] || decide (0 ≤ Lib.indexByte c 0))
def okPath (s : List UInt8) : Bool := (comps s).all okComp

theorem comps_ne : ∀ s, comps s ≠ []
  | [] => by simp [comps]
  | a :: t => by
    unfold comps
    split
    · simp
    · split <;> simp
theorem fslash_cons (a : UInt8) (t : List UInt8) : fslash (a :: t) = if a = 47 then 0 else if fslash t < 0 then -1 else fslash t + 1 := by
  unfold fslash
  have hb := fslash_bounds t
  unfold fslash at hb
  rw [Lib.indexByte]
  by_cases h : a = 47
  · simp [h]
  · simp only [h, if_false]
    have h1 : (a == 47) = false := by simpa using h
    rw [h1]
    by_cases h2 : Lib.indexByte t 47 < 0
    · have h3 : Lib.indexByte t 47 = -1 := by omega
      simp [h3]
    · have h3 : (Lib.indexByte t 47 == -1) = false := by simp; omega
      simp [h3, h2]
theorem comps_step : ∀ s, comps s = if cut3 s then cut1 s :: comps (cut2 s) else [cut1 s]
  | [] => by decide
  | a :: t => by
    have ih := comps_step t
    have hb := fslash_bounds t
    unfold cut3 cut1 cut2 at ih ⊢
    rw [fslash_cons, comps]
    by_cases h : a = 47
    · simp [h]
    · simp only [h, if_false]
      by_cases h2 : fslash t < 0
      · have h3 : ¬ 0 ≤ fslash t := by omega
        simp only [h3, decide_false, Bool.false_eq_true, if_false] at ih
        simp [h2, ih]
      · have h3 : 0 ≤ fslash t := by omega
        have h4 : 0 ≤ fslash t + 1 := by omega
        simp only [h3, decide_true, if_true] at ih
        have h5 : (fslash t + 1).toNat = (fslash t).toNat + 1 := by omega
        have h6 : (fslash t + 1 + 1).toNat = (fslash t).toNat + 2 := by omega
        simp only [h2, if_false, h4, decide_true, if_true, ih, h5, h6, List.take_succ_cons, List.drop_succ_cons]
theorem okPath_step (s : List UInt8) : okPath s = (okComp (cut1 s) && (!cut3 s || okPath (cut2 s))) := by
  unfold okPath
  rw [comps_step s]
  cases cut3 s <;> simp
theorem cut2_lt (s : List UInt8) (h : cut3 s = true) : (cut2 s).length < s.length := by
  have hb := fslash_bounds s
  unfold cut3 at h
  have h1 : 0 ≤ fslash s := by simpa using h
  unfold cut2
  rw [if_pos h1, List.length_drop]
  omega

theorem size_of (l : List UInt8) : (ByteArray.mk l.toArray).size = l.length := rfl

/-- How long the string in the box is. -/
def boxLen (w : World) (b : Nat) : Nat :=
  match w.cell? ⟨b, 0, none⟩ with
  | some (.string r) => r.size
  | _ => 0
theorem boxLen_eq {w : World} {b : Nat} {r : ByteArray} {T : TypeId} (h : Blk w b #[.string r] T) : boxLen w b = r.size := by
  unfold boxLen; rw [h.cell]; rfl

theorem noDepth {p : Prop} (h : Fence.wide.depth.isSome = true) : p := by cases h

structure IterSt (wr : World) (Bp : Nat) (X : World → Prop) (s : ByteArray) : Prop where
  out : ∃ r : ByteArray, Blk wr Bp #[.string r] 9 ∧ okPath s.data.toList = okPath r.data.toList ∧ X wr ∧ r.size < 4611686018427387904

theorem iter_in (n l Bp : Nat) (X Xx : World → Prop) (W : World) (s : ByteArray)
    (hXs : ∀ W v, X W → X (W.setCell ⟨Bp, 0, none⟩ v)) (hXd : ∀ W n, X W → X (W.drewN n)) (hXxd : ∀ W n, Xx W → Xx (W.drewN n))
    (hY : ∀ (c : ByteArray) W1, X W1 → YieldAt Fence.wide (n - 1) Tryz.prog l #[.string c] W1 fun e W' =>
      (e = .returned (.bool true) ∧ okComp c.data.toList = true ∧ X W' ∧ (∀ cs T, Blk W1 Bp cs T → Blk W' Bp cs T)) ∨ (e = .returned (.bool false) ∧ okComp c.data.toList = false ∧ Xx W'))
    (hB : Blk W Bp #[.string s] 9) (hX : X W) (hs : s.size < 4611686018427387904) :
    CallsIn Fence.wide n Tryz.prog 92 #[.func (.yield l) #[] #[], .pointer (some ⟨Bp, 0, none⟩)] W fun e W' => (∃ v, e = .returned v) ∧
      ((okPath s.data.toList = true ∧ X W') ∨ (okPath s.data.toList = false ∧ Xx W')) := by
  refine callsIn_of_wp Tryz.func92 rfl trivial ?_ rfl
  simp only [Tryz.ntmps92, List.size_toArray, List.length_cons, List.length_nil, Nat.reduceAdd, Nat.reduceSub, Array.replicate_succ, Array.replicate_zero, List.push_toArray, List.append_toArray, List.nil_append, List.cons_append]
  gi_wp2
  gi_loopw [3] (fun _ wr => IterSt wr Bp X s) (fun _ wr => boxLen wr Bp)
  case atStart => exact ⟨s, hB, rfl, hX, hs⟩
  case round =>
    obtain ⟨r, hbr, hok, hXr, hrs⟩ := hrel
    have hcell : wr.cell? ⟨Bp, 0, none⟩ = some (.string r) := hbr.cell 0
    have hstep := okPath_step r.data.toList
    have hlt := cut2_lt r.data.toList
    have hCut := Cut_spec r wr hrs
    generalize cut1 r.data.toList = c1 at hstep hCut
    generalize cut2 r.data.toList = c2 at hstep hlt hCut
    generalize cut3 r.data.toList = c3 at hstep hlt hCut
    cases c3 with
    | false =>
      gi_wp2_with (gi_at_call 93; fail)
      refine ⟨trivial, noDepth, ?_⟩
      refine (callsIn_wide.2 hCut).mono ?_
      rintro e w' ⟨rfl, k, rfl⟩
      obtain ⟨fn, tmps, assign, body, hy, hR⟩ := hY ⟨c1.toArray⟩ (wr.drewN k) (hXd _ _ hXr)
      have hbk := hbr.drewN k
      gi_wp2
      refine ⟨noDepth, hR.mono ?_⟩
      rintro e W' (⟨rfl, ho, hX', hk⟩ | ⟨rfl, ho, hXx⟩)
      · gi_wp2
        refine bodyPost_ret (results_none rfl _ _ _) rfl ?_
        refine ⟨⟨_, rfl⟩, .inl ⟨?_, hX'⟩⟩
        rw [hok, hstep]; simpa using ho
      · gi_wp2
        refine bodyPost_ret (results_none rfl _ _ _) rfl ?_
        refine ⟨⟨_, rfl⟩, .inr ⟨?_, hXx⟩⟩
        rw [hok, hstep]; simpa using ho
    | true =>
      gi_wp2_with (gi_at_call 93; fail)
      refine ⟨trivial, noDepth, ?_⟩
      refine (callsIn_wide.2 hCut).mono ?_
      rintro e w' ⟨rfl, k, rfl⟩
      obtain ⟨fn, tmps, assign, body, hy, hR⟩ := hY ⟨c1.toArray⟩ (wr.drewN k) (hXd _ _ hXr)
      have hbk := hbr.drewN k
      gi_wp2
      refine ⟨noDepth, hR.mono ?_⟩
      rintro e W' (⟨rfl, ho, hX', hk⟩ | ⟨rfl, ho, hXx⟩)
      · have hb2 := hk _ _ hbk
        have hlt' : c2.length < r.size := by simpa using hlt
        have hfr := hb2.free 0
        have hc2 : W'.cell? ⟨Bp, 0, none⟩ = some (.string r) := hb2.cell 0
        gi_wp2
        go_roundw
        case rel =>
          refine ⟨⟨c2.toArray⟩, by simpa using hb2.set 0 (.string ⟨c2.toArray⟩), ?_, hXs _ _ hX', ?_⟩
          · have ho' : okComp c1 = true := by simpa using ho
            rw [hok, hstep, ho']; simp
          · rw [size_of]; omega
        case measure =>
          rw [boxLen_eq (hb2.set 0 _), boxLen_eq hbr, size_of]
          exact hlt'
      · gi_wp2
        refine bodyPost_ret (results_none rfl _ _ _) rfl ?_
        refine ⟨⟨_, rfl⟩, .inr ⟨?_, hXx⟩⟩
        have ho' : okComp c1 = false := by simpa using ho
        rw [hok, hstep, ho']; simp

theorem Chg.putObj {S : Nat → Prop} {a b : World} (h : Chg S a b) (l : Nat) (o : Obj) (hl : a.heap.size ≤ l) : Chg S a (b.putObj l o) := by
  have hg := grownBy_putObj' b l o
  exact h.trans (Chg.of_grown hg) (fun _ _ h => h) (fun i hi h => by cases h; omega)
theorem Blk.putObj {w : World} {b : Nat} {cs : Array Value} {T : TypeId} (h : Blk w b cs T) (l : Nat) (o : Obj) (hl : l ≠ b) : Blk (w.putObj l o) b cs T := by
  have hg := grownBy_putObj' w l o
  exact h.chg (Chg.of_grown hg) (fun e => hl (by cases e; rfl))

/-- How a round's body ends. -/
def roundEnds (R : Nat) (x : ByteArray) (W : World) : Exit → Act → World → Prop
  | .normal, _, W' => okComp x.data.toList = true ∧ W' = W
  | .ret, _, W' => okComp x.data.toList = false ∧ W' = W.setCell ⟨R, 0, none⟩ (.int .i64 6)
  | _, _, _ => False

theorem heap_setCell_ne (W : World) (p : Addr) (v : Value) (k : Nat) (h : k ≠ p.block) : (W.setCell p v).heap[k]? = W.heap[k]? := Below.heap_setCell W p v k h

structure RoundInv (w W : World) (Bp R D : Nat) (L : Obj) (z : Int) : Prop where
  chg : Chg (fun k => k = Bp ∨ k = R) w W
  res : Blk W R #[.int .i64 z] 33
  lp : W.heap[D + 1]? = some L
  df : W.heap[D]? = some (.deferred (some []))

theorem RoundInv.drewN {w W : World} {Bp R D : Nat} {L : Obj} {z : Int} (h : RoundInv w W Bp R D L z) (n : Nat) : RoundInv w (W.drewN n) Bp R D L z :=
  ⟨h.chg.drewN n, h.res.drewN n, h.lp, h.df⟩
theorem RoundInv.put {w W : World} {Bp R D : Nat} {L : Obj} {z : Int} (h : RoundInv w W Bp R D L z) (hD : w.heap.size ≤ D) (hR : R < w.heap.size) (L' : Obj) : RoundInv w (W.putObj (D + 1) L') Bp R D L' z :=
  ⟨h.chg.putObj _ _ (by omega), h.res.putObj _ _ (by omega), World.putObj_heap_same (Array.getElem?_eq_some_iff.1 h.lp).1, (World.putObj_heap_other (by omega)).trans h.df⟩
theorem RoundInv.setBox {w W : World} {Bp R D : Nat} {L : Obj} {z : Int} (h : RoundInv w W Bp R D L z) (hD : w.heap.size ≤ D) (hB : Bp < w.heap.size) (hne : Bp ≠ R) (v : Value) : RoundInv w (W.setCell ⟨Bp, 0, none⟩ v) Bp R D L z :=
  ⟨h.chg.setCell _ _ (fun _ => .inl rfl), h.res.set_ne _ _ (fun e => hne e.symm), (heap_setCell_ne _ _ _ _ (by simp; omega)).trans h.lp, (heap_setCell_ne _ _ _ _ (by simp; omega)).trans h.df⟩
theorem RoundInv.setRes {w W : World} {Bp R D : Nat} {L : Obj} {z : Int} (h : RoundInv w W Bp R D L z) (hD : w.heap.size ≤ D) (hR : R < w.heap.size) (z' : Int) : RoundInv w (W.setCell ⟨R, 0, none⟩ (.int .i64 z')) Bp R D L z' :=
  ⟨h.chg.setCell _ _ (fun _ => .inr rfl), by simpa using h.res.set 0 (.int .i64 z'), (heap_setCell_ne _ _ _ _ (by simp; omega)).trans h.lp, (heap_setCell_ne _ _ _ _ (by simp; omega)).trans h.df⟩

theorem range_comps (n : Nat) {g : Operand} {p : Tmp} {assign body : Code} {Q : Exit → Act → World → Prop} {a : Act} {w : World} (Bp R : Nat) (s : ByteArray)
    (hg : a.eval g = .func (.func 92) #[] #[.pointer (some ⟨Bp, 0, none⟩)])
    (hB : Blk w Bp #[.string s] 9) (hR : Blk w R #[.int .i64 0] 33) (hne : Bp ≠ R) (hs : s.size < 4611686018427387904) (a₁ : ByteArray → Act)
    (hassign : ∀ (l : Nat) (x : ByteArray) (W : World) (K : Act → World → Prop), K (a₁ x) W →
      assign.wpIn (Fence.wide.inRound l) (n - 1 - 1) Tryz.prog (Exit.then K (fun _ _ _ => False)) { tmps := (#[p].zip #[Value.string x]).foldl (fun t (p, v) => t.setIfInBounds p v) a.tmps, defers := [] } W)
    (hbody : ∀ (l : Nat) (x : ByteArray) (W : World), Blk W R #[.int .i64 0] 33 → body.wpIn (Fence.wide.inRound l) (n - 1 - 1) Tryz.prog (roundEnds R x W) (a₁ x) W)
    (hdone : ∀ (D : Nat) (W : World), okPath s.data.toList = true → Chg (fun k => k = Bp ∨ k = R) w W → Blk W R #[.int .i64 0] 33 → W.heap[D]? = some (.deferred (some [])) → w.heap.size ≤ D →
      Q .normal { a with defers := { target := .collected D, args := #[] } :: a.defers } W)
    (hstop : ∀ (D : Nat) (W : World), okPath s.data.toList = false → Chg (fun k => k = Bp ∨ k = R) w W → Blk W R #[.int .i64 6] 33 → W.heap[D]? = some (.deferred (some [])) → w.heap.size ≤ D →
      Code.ret.wpIn Fence.wide n Tryz.prog Q { a with defers := { target := .collected D, args := #[] } :: a.defers } W) :
    (Code.rangeFunc g #[p] assign body).wpIn Fence.wide n Tryz.prog Q a w := by
  refine wpIn_rangeFunc ?_
  intro fn hfn
  rw [Fence.wide_round]
  obtain ⟨rec, hrec⟩ : ∃ rec : LoopState → Option Code → Loop, rec = fun st pe => { state := st, pending := pe, fn, tmps := a.tmps, params := #[p], assign, body, defers := w.heap.size } := ⟨_, rfl⟩
  obtain ⟨W1, hW1⟩ : ∃ W1, (w.alloc (.deferred (some []))).alloc (.loop (rec .ready none)) = W1 := ⟨_, rfl⟩
  have hL1 : W1.heap[w.heap.size + 1]? = some (.loop (rec .ready none)) := by
    rw [← hW1]; have := World.alloc_heap_new (w.alloc (.deferred (some []))) (.loop (rec .ready none)); rwa [World.size_alloc] at this
  have hK1 : W1.heap[w.heap.size]? = some (.deferred (some [])) := by
    rw [← hW1]; exact (Below.heap_alloc _ _ _ (by simp)).trans (World.alloc_heap_new w _)
  have hinv1 : RoundInv w W1 Bp R w.heap.size (.loop (rec .ready none)) 0 := by
    refine ⟨?_, ?_, hL1, hK1⟩
    · rw [← hW1]; exact ((Chg.refl _ w).alloc _).alloc _
    · rw [← hW1]; exact (hR.alloc _).alloc _
  have hB1 : Blk W1 Bp #[.string s] 9 := by rw [← hW1]; exact (hB.alloc _).alloc _
  have hBl := hB.lt
  have hRl := hR.lt
  refine ⟨w.heap.size + 1, [{ target := .collected w.heap.size, args := #[] }], W1, { target := .fn (.func 92) #[.pointer (some ⟨Bp, 0, none⟩)], args := #[.func (.yield (w.heap.size + 1)) #[] #[]] }, W1, 92,
    #[.func (.yield (w.heap.size + 1)) #[] #[]] ++ #[.pointer (some ⟨Bp, 0, none⟩)], W1, ?_, ?_, ?_, ?_, noDepth, ?_⟩
  · rw [← hW1, hrec]; exact run_enterLoop_outer _ _ _ _ _
  · simp only [resolve, hg]
    simp [go_sem]
  · intro f' hf'; trivial
  · simp [invoke, go_sem, enters_of Tryz.func92 (by kernel_rfl) rfl]
  · refine (iter_in (n - 1) (w.heap.size + 1) Bp
      (fun W => RoundInv w W Bp R w.heap.size (.loop (rec .ready none)) 0)
      (fun W => RoundInv w W Bp R w.heap.size (.loop (rec .done (some .ret))) 6) W1 s
      (fun W v h => h.setBox (Nat.le_refl _) hBl hne v) (fun W n h => h.drewN n) (fun W n h => h.drewN n) ?_ hB1 hinv1 hs).mono ?_
    · -- one round
      intro c W h
      have hy := run_yield (P := Tryz.prog) (args := #[Value.string c]) h.lp (by rw [hrec]; rfl)
      rw [hrec] at hy
      refine ⟨fn, _, assign, body, hy, roundIn_of_wpIn hfn (hassign _ c W _ ⟨_, run_beginRound h.lp (by rw [hrec]), ?_⟩)⟩
      have h2 := h.put (Nat.le_refl _) hRl (.loop { rec .ready none with state := .busy })
      refine wpIn_mono (hbody _ c _ h2.res) ?_
      rintro e a3 W3 hp
      cases e with
      | normal =>
        obtain ⟨hok, rfl⟩ := hp
        have h3 := h2.put (Nat.le_refl _) hRl (.loop (rec .ready none))
        have hr := run_endRound (P := Tryz.prog) none h2.lp
        rw [hrec] at hr h3 ⊢
        exact ⟨_, _, hr, .inl ⟨rfl, hok, h3, fun cs T hb => (hb.putObj _ _ (by omega)).putObj _ _ (by omega)⟩⟩
      | ret =>
        obtain ⟨hok, rfl⟩ := hp
        have h2' := h2.setRes (Nat.le_refl _) hRl 6
        have h3 := h2'.put (Nat.le_refl _) hRl (.loop (rec .done (some .ret)))
        have hr := run_endRound (P := Tryz.prog) (some .ret) h2'.lp
        rw [hrec] at hr h3 ⊢
        exact ⟨_, _, hr, .inr ⟨rfl, hok, h3⟩⟩
      | exit id => exact hp.elim
      | goto t => exact hp.elim
      | panic ch => exact hp.elim
      | outgrown => exact hp.elim
    · -- behind the iterator
      rintro e W2 ⟨⟨v, rfl⟩, (⟨hok, h⟩ | ⟨hok, h⟩)⟩
      · have h3 := h.put (Nat.le_refl _) hRl (.loop { rec .ready none with state := .exhausted })
        have hr := run_endLoop (P := Tryz.prog) h.lp (by rw [hrec]; simp)
        rw [hrec] at hr h3
        exact ⟨none, _, hr, hdone _ _ hok h3.chg h3.res h3.df (Nat.le_refl _)⟩
      · have h3 := h.put (Nat.le_refl _) hRl (.loop { rec .done (some .ret) with state := .exhausted })
        have hr := run_endLoop (P := Tryz.prog) h.lp (by rw [hrec]; simp)
        rw [hrec] at hr h3
        exact ⟨some .ret, _, hr, hstop _ _ hok h3.chg h3.res h3.df (Nat.le_refl _)⟩

theorem components_spec (s : ByteArray) (w : World) :
    Calls Tryz.prog 73 #[.string s] w fun e w' => e = .returned (.func (.func 92) #[] #[.pointer (some ⟨w.heap.size, 0, none⟩)]) ∧ w' = w.alloc (.cells #[.string s] 9) := by
  go_enter Tryz.func73, Tryz.ntmps73
  go_wp2
  go_ret
  exact ⟨rfl, rfl⟩

/-- What Check answers. -/
def pathErr (s : List UInt8) : Int := if 65536 < s.length then 7 else if okPath s then 0 else 6

theorem okComp_eq (x : ByteArray) : okComp x.data.toList = !(x.toList.isEmpty || x.toList == [46] || x.toList == [46, 46] || decide (0 ≤ Lib.indexByte x.data.toList 0)) := by
  rw [ByteArray.toList_eq]
  unfold okComp
  cases x.data.toList <;> rfl

theorem IndexByte0 (x : ByteArray) (w : World) :
    Calls Tryz.prog 74 #[.string x, .int .u8 0] w fun e w' => e = .returned (.int .i64 (Lib.indexByte x.data.toList 0)) ∧ w' = w :=
  Tryz.strings_IndexByte x 0 w

theorem Check_spec (s : ByteArray) (w : World) (hs : s.size < 4611686018427387904) :
    Calls Tryz.prog 48 #[.string s] w fun e w' => e = .returned (.int .i64 (pathErr s.data.toList)) ∧ Chg (fun _ => False) w w' := by
  refine (callsIn_wide (n := 3)).1 ?_
  refine callsIn_of_wp_marks Tryz.func48 rfl trivial ?_ rfl
  simp only [Tryz.ntmps48, List.size_toArray, List.length_cons, List.length_nil, Nat.reduceAdd, Nat.reduceSub, Array.replicate_succ, Array.replicate_zero, List.push_toArray, List.append_toArray, List.nil_append, List.cons_append]
  have hl : s.data.toList.length = s.size := by simp
  by_cases h : 65536 < s.size
  · have h1 : decide ((s.size : Int) > 65536) = true := by simp; omega
    have hp : pathErr s.data.toList = 7 := by unfold pathErr; rw [hl, if_pos h]
    rw [hp]
    gi_wp2
    have hc := (Blk.new w #[.int .i64 7] 33).cell 0
    refine ⟨.int .i64 7, ?_, rfl, (Chg.refl _ w).alloc _⟩
    simp [results, Tryz.f48, go_sem, hc]
  · have h1 : decide ((s.size : Int) > 65536) = false := by simp; omega
    have hp : pathErr s.data.toList = if okPath s.data.toList then 0 else 6 := by unfold pathErr; rw [hl, if_neg h]
    gi_wp2_with (gi_at_call 73; fail)
    refine ⟨trivial, ?_⟩
    refine (callsIn_wide.2 (components_spec s _)).mono ?_
    rintro e w' ⟨rfl, rfl⟩
    have hR0 := Blk.new w #[.int .i64 0] 33
    have hR := hR0.alloc (.cells #[.string s] 9)
    have hB := Blk.new (w.alloc (.cells #[.int .i64 0] 33)) #[.string s] 9
    have hc : Chg (fun _ => False) w ((w.alloc (.cells #[.int .i64 0] 33)).alloc (.cells #[.string s] 9)) := ((Chg.refl _ w).alloc _).alloc _
    rw [World.size_alloc] at hB
    gi_wp2
    generalize (w.alloc (.cells #[.int .i64 0] 33)).alloc (.cells #[.string s] 9) = W at hR hB hc ⊢
    refine range_comps 3 (w.heap.size + 1) w.heap.size s rfl hB hR (by omega) hs (fun x => { tmps := #[.string s, undef, .pointer (some ⟨w.heap.size, 0, none⟩), .string x, .string s, .int .i64 s.size, .bool false, .string s, .func (.func 92) #[] #[.pointer (some ⟨w.heap.size + 1, 0, none⟩)], .string x, undef, undef, undef, undef, undef, undef, undef, undef, undef, undef, undef, undef, undef, undef, undef], defers := [] }) ?assign ?body ?done ?stop
    case assign =>
      intro l x W K hK
      gi_wp2
      exact hK
    case body =>
      intro l x W hW
      have hcx : W.cell? ⟨w.heap.size, 0, none⟩ = some (.int .i64 0) := hW.cell 0
      have hfx := hW.free 0
      have hoc := okComp_eq x
      have hib := IndexByte0 x W
      generalize Lib.indexByte x.data.toList 0 = ib at hoc hib
      cases e1 : x.toList.isEmpty with
      | true =>
        rw [e1] at hoc
        gi_wp2
        refine ⟨trivial, ?_⟩
        gi_wp2
        exact ⟨by rw [hoc]; rfl, rfl⟩
      | false =>
        cases e2 : x.toList == [46] with
        | true =>
          rw [e1, e2] at hoc
          gi_wp2
          refine ⟨trivial, ?_⟩
          gi_wp2
          exact ⟨by rw [hoc]; rfl, rfl⟩
        | false =>
          cases e3 : x.toList == [46, 46] with
          | true =>
            rw [e1, e2, e3] at hoc
            gi_wp2
            refine ⟨trivial, ?_⟩
            gi_wp2
            exact ⟨by rw [hoc]; rfl, rfl⟩
          | false =>
            rw [e1, e2, e3] at hoc
            cases e4 : decide (0 ≤ ib) with
            | true =>
              rw [e4] at hoc
              gi_wp2_with (gi_at_call 74; fail)
              refine ⟨trivial, (CallsIn.inRound l (callsIn_wide.2 hib)).mono ?_⟩
              rintro e w' ⟨rfl, rfl⟩
              gi_wp2
              exact ⟨by rw [hoc]; rfl, rfl⟩
            | false =>
              rw [e4] at hoc
              gi_wp2_with (gi_at_call 74; fail)
              refine ⟨trivial, (CallsIn.inRound l (callsIn_wide.2 hib)).mono ?_⟩
              rintro e w' ⟨rfl, rfl⟩
              gi_wp2
              exact ⟨by rw [hoc]; rfl, rfl⟩
    case done =>
      intro D W' hok hch hres hdf hD
      have hRl := hR.lt
      have hcx : W'.cell? ⟨w.heap.size, 0, none⟩ = some (.int .i64 0) := hres.cell 0
      have hfx := hres.free 0
      have hres2 : Blk (W'.setCell ⟨w.heap.size, 0, none⟩ (.int .i64 0)) w.heap.size #[.int .i64 0] 33 := by simpa using hres.set 0 (.int .i64 0)
      have hdf2 : (W'.setCell ⟨w.heap.size, 0, none⟩ (.int .i64 0)).heap[D]? = some (.deferred (some [])) := (heap_setCell_ne _ _ _ _ (by simp; omega)).trans hdf
      have hch2 := (hch.setCell ⟨w.heap.size, 0, none⟩ (.int .i64 0) (fun _ => .inr rfl)).putObj D (.deferred none) hD
      have hc2 := (hres2.putObj D (.deferred none) (by omega)).cell 0
      dsimp only
      gi_wp2
      refine ⟨by simp, .inl ⟨_, _, rfl, run_takeDeferred hdf2, ?_⟩⟩
      refine ⟨.int .i64 0, ?_, by rw [hp, hok]; rfl, hc.trans hch2 (fun _ _ h => h) (fun i hi h => by omega)⟩
      simp [results, Tryz.f48, go_sem, hc2]
    case stop =>
      intro D W' hok hch hres hdf hD
      have hRl := hR.lt
      have hch2 := hch.putObj D (.deferred none) hD
      have hc2 := (hres.putObj D (.deferred none) (by omega)).cell 0
      dsimp only
      gi_wp2
      refine ⟨by simp, .inl ⟨_, _, rfl, run_takeDeferred hdf, ?_⟩⟩
      refine ⟨.int .i64 6, ?_, by rw [hp, hok]; rfl, hc.trans hch2 (fun _ _ h => h) (fun i hi h => by omega)⟩
      simp [results, Tryz.f48, go_sem, hc2]
end Go.Proofs.YtfkfeoocglcjgaaGreatDoor
