/- List. -/
import Derived.Test.YtfkfeoocglcjgaaGreatDoorVCat
set_option linter.unusedVariables false
set_option linter.unusedSimpArgs false
namespace Go.Proofs.YtfkfeoocglcjgaaGreatDoor
open Go.RowKit

def FSt.listed (S : FSt) : FSt := { S with lists := S.lists + 1 }
theorem IsFS.listed {S : FSt} {role : Nat → Option (Nat × Nat)} {w w' : World} (h : IsFS w S role) (hB : Blk w' S.B #[.int .i64 S.next, .int .i64 S.step, S.rv, .int .i64 (S.lists + 1), .map (some S.M)] 68) (hch : Chg (fun k => k = S.B) w w') : IsFS w' S.listed role := by
  have hne : ∀ k r, role k = some r → r ≠ (S.B, 3) → ¬ k = S.B := fun k r hk hr e => by have h2 := h.rB; rw [e, h2] at hk; exact hr (by injection hk with hk; exact hk.symm)
  exact ⟨hB, h.files.chg hch (hne _ _ h.rM (by simp)), fun b i hi => (h.inos b i hi).chg hch (hne _ _ (h.rI b i hi) (by simp)), fun b i hi => own_chg (h.datas b i hi) hch (fun k hk => hne _ _ (h.rD b i k hi hk) (by simp)),
    fun b i hi => own_chg (h.namess b i hi) hch (fun k hk => hne _ _ (h.rN b i k hi hk) (by simp)), own_chg h.rots hch (fun k hk => hne _ _ (h.rR k hk) (by simp)), h.mem, h.rB, h.rM, h.rI, h.rD, h.rN, h.rR, fun k r hk => Nat.lt_of_lt_of_le (h.rlt k r hk) hch.size⟩

/-- The rotation that is due. -/
def rotNow (rot : List Int) (lists : Int) : Int := if rot = [] then 0 else rot.getD (lists % rot.length).toNat 0
/-- A listing in the order that a rotation gives. -/
def turnL (r : Int) (l : List ByteArray) : List ByteArray := if r % 2 = 1 then (l.drop (r % l.length).toNat ++ l.take (r % l.length).toNat).reverse else l.drop (r % l.length).toNat ++ l.take (r % l.length).toNat
theorem turnL_length (r : Int) (l : List ByteArray) : (turnL r l).length = l.length := by
  unfold turnL; split <;> simp <;> omega

set_option maxRecDepth 100000 in
theorem List_none {S : FSt} {role : Nat → Option (Nat × Nat)} (p : ByteArray) (w : World) (h : IsFS w S role) (hs : p.size ≤ maxLen) (hF : S.F p.data.toList = none) :
    Calls Tryz.prog 13 #[.pointer (some ⟨S.B, 0, none⟩), .string p] w fun e w' => e = .returned (.tuple #[.slice none 0 0, .int .i64 19]) ∧ w' = w := by
  have hf := find_spec p w h hs
  rw [hF] at hf
  simp only [Option.isSome_none, ptrOf, Option.map_none, Bool.false_eq_true, if_false] at hf
  clear h hs hF
  go_enter Tryz.func13, Tryz.ntmps13
  go_wp2_with (go_at_call 38; refine hf.mono ?_; rintro e w' ⟨rfl, rfl⟩)
  go_ret2
  exact ⟨rfl, rfl⟩

set_option maxRecDepth 100000 in
theorem List_kind {S : FSt} {role : Nat → Option (Nat × Nat)} (p : ByteArray) (w : World) (h : IsFS w S role) (hs : p.size ≤ maxLen) (b : Nat) (i : Ino) (hF : S.F p.data.toList = some b) (hi : S.ino b = some i) (hk : i.kind ≠ 0) :
    Calls Tryz.prog 13 #[.pointer (some ⟨S.B, 0, none⟩), .string p] w fun e w' => e = .returned (.tuple #[.slice none 0 0, .int .i64 8]) ∧ w' = w := by
  have hf := find_spec p w h hs
  have c0 := kindCell (h.inos b i hi)
  rw [hF] at hf
  simp only [Option.isSome_some, ptrOf, Option.map_some, if_true] at hf
  have t5 : (i.kind == 0) = false := by simpa using hk
  have t6 : (i.kind != 0) = true := by simpa using hk
  clear h hs hF hi hk
  go_enter Tryz.func13, Tryz.ntmps13
  go_wp2_with (go_at_call 38; refine hf.mono ?_; rintro e w' ⟨rfl, rfl⟩)
  go_ret2
  exact ⟨rfl, rfl⟩

/-- What a directory's listing leaves. -/
def ListPost (w : World) (S : FSt) (role : Nat → Option (Nat × Nat)) (l : List ByteArray) (e : Ending) (w' : World) : Prop :=
  ∃ A c, e = .returned (.tuple #[.slice A l.length c, .int .i64 0]) ∧ w'.ownsRow 0 9 1 (.slice A l.length c) l.length (l.map .string) ∧ (∀ k, (Value.slice A l.length c).ownBlock = some k → w.heap.size ≤ k) ∧ IsFS w' S.listed role ∧ Chg (fun k => k = S.B) w w'

theorem bits_and1 (r : Int) (h0 : 0 ≤ r) (h1 : r ≤ 1000000000) : bits BinOp.and IntKind.i64 r 1 = r % 2 := by
  obtain ⟨n, rfl⟩ := Int.eq_ofNat_of_zero_le h0
  have hn : n ≤ 1000000000 := by omega
  show IntKind.i64.wrap ((BitVec.ofInt 64 (n : Int) &&& BitVec.ofInt 64 1).toNat : Int) = _
  have e1 : (BitVec.ofInt 64 (n : Int)).toNat = n := by rw [BitVec.ofInt_natCast, BitVec.toNat_ofNat]; exact Nat.mod_eq_of_lt (by omega)
  have e2 : (BitVec.ofInt 64 1).toNat = 1 := by decide
  rw [BitVec.toNat_and, e1, e2, Nat.and_one_is_mod, IntKind.wrap_i64]
  omega

theorem Reverse_own (b n cap : Nat) (w : World) (l : List ByteArray) (h : w.ownsRow 0 9 1 (.slice (some ⟨b, 0, none⟩) n cap) n (l.map .string)) (hn : n ≤ 9223372036854775807) :
    Calls Tryz.prog 40 #[.slice (some ⟨b, 0, none⟩) n cap] w fun e w' => e = .returned (.tuple #[]) ∧ w'.ownsRow 0 9 1 (.slice (some ⟨b, 0, none⟩) n cap) n (l.reverse.map .string) ∧ Chg (fun k => k = b) w w' := by
  obtain ⟨cur, hB, hnc, hcm, hsz, htk⟩ := own_blk h
  have hl : l.length = n := by have := h.1; simpa using this
  refine (Tryz.slices_Reverse_string_cells b 0 n cap (fun i => l.getD i ByteArray.empty) w hn ?_ (fun j _ => hB.free _)).mono ?_
  · intro i hi
    rw [hB.cell]
    have e : (cur.toList.take n)[i]? = (l.map Value.string)[i]? := by rw [htk]
    rw [List.getElem?_take, if_pos hi] at e
    simp only [Nat.zero_add]
    rw [← Array.getElem?_toList, e, List.getElem?_map, List.getElem?_eq_getElem (by omega)]
    simp [List.getD_eq_getElem?_getD, List.getElem?_eq_getElem (show i < l.length by omega)]
  · rintro e w' ⟨rfl, q, hq⟩
    replace hq := hq.symm
    have e1 : (Lib.strsOf (fun i => l.getD i ByteArray.empty) n).reverse.map (fun x : List UInt8 => Value.string ⟨x.toArray⟩) = l.reverse.map Value.string := by
      rw [List.map_reverse, List.map_reverse]
      congr 1
      apply List.ext_getElem
      · simp [Lib.strsOf, hl]
      · intro i h1 h2
        have hi : i < l.length := by simpa using h2
        simp [Lib.strsOf, List.getD_eq_getElem?_getD, hi]
    change (w.drewN q).setCells b 0 ((Lib.strsOf (fun i => l.getD i ByteArray.empty) n).reverse.map (fun x : List UInt8 => Value.string ⟨x.toArray⟩)) = _ at hq
    rw [e1] at hq
    subst hq
    refine ⟨rfl, own_of_blk (Blk.setCells _ _ _ 0 (hB.drewN q)) hnc hcm (by rw [putL_size]; exact hsz) ?_, Chg.setCells _ _ _ _ ((Chg.refl _ w).drewN q) (fun _ => rfl)⟩
    rw [putL_toList _ _ _ (by simp; omega)]
    simp only [List.take_zero, List.nil_append]
    exact List.take_left' (by simp; omega)

theorem two_of {X Y : World} {ng n nc K : Nat} {names : List ByteArray} (h : X.ownsRow 0 9 1 (.slice (some ⟨ng, 0, none⟩) n nc) n (names.map .string)) (hK : K < n) (hc : Chg (fun _ => False) X Y) :
    Two (Y.alloc (.cells #[.slice (some ⟨ng, K, none⟩) (n - K) (nc - K), .slice (some ⟨ng, 0, none⟩) K nc] 44)) Y.heap.size ng K (n - K) (nc - K) ng 0 K nc (names.drop K) (names.take K) := by
  have hB := Blk.new Y #[.slice (some ⟨ng, K, none⟩) (n - K) (nc - K), .slice (some ⟨ng, 0, none⟩) K nc] 44
  have hl : names.length = n := by have := h.1; simpa using this
  have hr := (Rd.of_own h rfl).chg (hc.alloc (.cells #[.slice (some ⟨ng, K, none⟩) (n - K) (nc - K), .slice (some ⟨ng, 0, none⟩) K nc] 44)) (fun _ _ h => h)
  refine ⟨hB.cell 0, hB.cell 1, by rw [List.length_drop]; omega, by rw [List.length_take]; omega, ?_, ?_⟩
  · have := hr.drop K
    rw [← List.map_drop] at this
    have e : (some (⟨ng, 0, none⟩ : Addr)).map (·.add K) = some ⟨ng, K, none⟩ := by
      simp only [Option.map_some, Addr.add]; split <;> simp_all
    rw [e] at this; exact this
  · rw [List.map_take]; exact hr.take K

set_option maxRecDepth 100000 in
set_option maxHeartbeats 4000000 in
theorem List_dir {S : FSt} {role : Nat → Option (Nat × Nat)} (p : ByteArray) (w : World) (h : IsFS w S role) (hs : p.size ≤ maxLen) (b : Nat) (i : Ino) (hF : S.F p.data.toList = some b) (hi : S.ino b = some i) (hk : i.kind = 0) (hn : i.names.length ≤ 1000000)
    (hr : ∀ x ∈ S.rot, 0 ≤ x ∧ x ≤ 1000000000) (hl0 : 0 ≤ S.lists) (hl1 : S.lists ≤ 1000000000) (hrl : S.rot.length ≤ 1000000) :
    Calls Tryz.prog 13 #[.pointer (some ⟨S.B, 0, none⟩), .string p] w (ListPost w S role (turnL (rotNow S.rot S.lists) i.names)) := by
  have hf := find_spec p w h hs
  have c0 := kindCell (h.inos b i hi)
  rw [hk] at c0
  rw [hF] at hf
  simp only [Option.isSome_some, ptrOf, Option.map_some, if_true] at hf
  obtain ⟨RA, rc, hrv, hrc, hRA⟩ := own_form h.rots
  obtain ⟨NA, nc, hnv, hnc, hNA⟩ := own_form (h.namess b i hi)
  have e2 : w.cell? ⟨S.B, 2, none⟩ = some (.slice RA S.rot.length rc) := by rw [h.blk.cell 2, ← hrv]; rfl
  have e3 : w.cell? ⟨S.B, 3, none⟩ = some (.int .i64 S.lists) := h.blk.cell 3
  have f3 := h.blk.free 3
  have hw1 : IntKind.i64.wrap (S.lists + 1) = S.lists + 1 := by rw [IntKind.wrap_i64]; omega
  have hne : b ≠ S.B := fun e => by have h1 := h.rI b i hi; have h2 := h.rB; rw [e, h2] at h1; simp at h1
  have hset : Blk (w.setCell ⟨S.B, 3, none⟩ (.int .i64 (S.lists + 1))) S.B #[.int .i64 S.next, .int .i64 S.step, S.rv, .int .i64 (S.lists + 1), .map (some S.M)] 68 := by simpa using h.blk.set 3 (.int .i64 (S.lists + 1))
  have hch : Chg (fun k => k = S.B) w (w.setCell ⟨S.B, 3, none⟩ (.int .i64 (S.lists + 1))) := (Chg.refl _ _).setCell _ _ (fun _ => rfl)
  have hS := h.listed hset hch
  have hI9 : (w.setCell ⟨S.B, 3, none⟩ (.int .i64 (S.lists + 1))).cell? ⟨b, 9, none⟩ = some (.slice NA i.names.length nc) := by rw [((h.inos b i hi).chg hch hne).cell 9, ← hnv]; rfl
  have hI9n : ∀ n, ((w.drewN n).setCell ⟨S.B, 3, none⟩ (.int .i64 (S.lists + 1))).cell? ⟨b, 9, none⟩ = some (.slice NA i.names.length nc) := fun n => hI9
  have HS := Lib.hid (And.intro hS hch)
  have HN := Lib.hid (by have := own_chg (h.namess b i hi) hch (fun k hk e => by have h1 := h.rN b i k hi hk; have h2 := h.rB; rw [e, h2] at h1; simp at h1); rw [hnv] at this; exact this)
  have hR : S.rot ≠ [] → ∃ g, RA = some ⟨g, 0, none⟩ ∧ ∀ j x, S.rot[j]? = some x → w.cell? ⟨g, j, none⟩ = some (.int .i64 x) := by
    intro hne
    have h1 := h.rots
    rw [hrv] at h1
    rcases Rd.of_own h1 rfl with h2 | ⟨g, off, e, h2⟩
    · exact absurd (by simpa [i64s] using h2) hne
    · subst e
      have hoff : off = 0 := by
        rcases h1.2 with ⟨h3, _⟩ | ⟨_, _, _, h3, _⟩
        · cases h3
        · cases h3; rfl
      subst hoff
      exact ⟨g, rfl, fun j x hx => by have := h2 j (.int .i64 x) (by simp [i64s, hx]); simpa using this⟩
  have HR := Lib.hid hR
  have Hr := Lib.hid hr
  have HL := Lib.hid (And.intro hl0 hl1)
  clear h hs hF hi hk hset hch hS hR hrv hnv hr hrc hnc hNA hRA hne
  generalize i.names = names at *
  generalize hrot : S.rot = rot at *
  generalize hls : S.lists = lists at *
  by_cases hr0 : rot = []
  · subst hr0
    have hnow : rotNow [] lists = 0 := by simp [rotNow]
    rw [hnow]
    have t1 : decide ((0 : Int) < 0) = false := rfl
    obtain ⟨l0, l1⟩ := HL.out
    clear hnow HR Hr
    by_cases hn0 : names = []
    · subst hn0
      have e4 : turnL 0 [] = [] := by unfold turnL; simp
      go_enter Tryz.func13, Tryz.ntmps13
      go_wp2_with (go_at_call 38; refine hf.mono ?_; rintro e w' ⟨rfl, rfl⟩)
      go_ret2
      obtain ⟨hS, hch⟩ := HS.out
      rw [e4]
      exact ⟨none, 0, rfl, World.ownsRow_nil _ _ _ _, (fun k hk => by cases hk), hS, hch⟩
    · have hnp : 0 < names.length := List.length_pos_iff.2 hn0
      have t3 : (names.length == 0) = false := by simp; omega
      have t4 : ((names.length : Int) == 0) = false := by simp; omega
      obtain ⟨ng, rfl⟩ : ∃ ng, NA = some ⟨ng, 0, none⟩ := by
        rcases HN.out.2 with ⟨_, h⟩ | ⟨g', _, _, h, _⟩
        · omega
        · cases h; exact ⟨g', rfl⟩
      have hncap : names.length ≤ nc := by obtain ⟨_, _, h, _⟩ := own_blk HN.out; exact h
      have k4 : ¬ nc = 0 := by omega
      have k5 : (0 : Int) ≤ nc := by omega
      go_enter Tryz.func13, Tryz.ntmps13
      go_wp2_with (go_at_call 38; refine hf.mono ?_; rintro e w' ⟨rfl, rfl⟩)
      have hXc := hI9
      have HX := Lib.hid (And.intro HS.out.1 (And.intro HS.out.2 HN.out))
      clear hI9 hI9n HS HN
      generalize (w'.setCell ⟨S.B, 3, none⟩ (.int .i64 (lists + 1))) = X at *
      go_region_held3 (fun Y => Y.cell? ⟨b, 9, none⟩ = some (.slice (some ⟨ng, 0, none⟩) names.length nc))
        (first | go_keep | exact cell_keep hcc (cell_keep (((Chg.refl (fun _ => False) X).alloc _).drew) hXc))
        (first | (go_at_call 39; refine (Concat_two _ 2 ng 0 names.length nc ng 0 0 nc _ _ _ ((two_of HX.out.2.2 hnp (Chg.refl _ _)).chg (Chg.refl _ _).drew) (by omega) (by omega)).mono ?_; rintro e w5 ⟨kk, cap, rfl, h1, h2, hcc⟩))
      have HC := Lib.hid (And.intro h1 (And.intro h2 ((((Chg.refl (fun _ => False) X).alloc _).drew).trans (U := fun _ => False) hcc (fun _ _ h => h) (fun _ _ h => h))))
      clear h1 h2 hcc hXc
      have t6 : (bits BinOp.and IntKind.i64 0 1 == 1) = false := by rw [bits_and1 0 (by omega) (by omega)]; rfl
      go_wp2_with fail
      go_ret2
      obtain ⟨h1, h2, h3⟩ := HC.out
      obtain ⟨x1, x2, _⟩ := HX.out
      have e5 : turnL 0 names = names.drop 0 ++ names.take 0 := by unfold turnL; simp
      have hlen : (turnL 0 names).length = names.length + 0 := by rw [turnL_length]; omega
      have hkk := x2.size
      exact ⟨some ⟨kk, 0, none⟩, cap, by rw [hlen]; rfl, by rw [hlen, e5]; exact h1, fun k hk => by have := own_blk_eq hk; simp at h2; omega, x1.chg h3 (fun _ _ _ h => h), x2.trans h3 (fun _ _ h => h) (fun _ _ h => h.elim)⟩
  · obtain ⟨g, rfl, hcell⟩ := HR.out hr0
    have hpos : 0 < rot.length := List.length_pos_iff.2 hr0
    obtain ⟨j, hj, hjl⟩ : ∃ j : Nat, lists % (rot.length : Int) = j ∧ j < rot.length := ⟨(lists % rot.length).toNat, by have := Int.emod_nonneg lists (show (rot.length : Int) ≠ 0 by omega); omega, by have := Int.emod_nonneg lists (show (rot.length : Int) ≠ 0 by omega); have := Int.emod_lt_of_pos lists (show (0 : Int) < rot.length by omega); omega⟩
    have hnow : rotNow rot lists = rot[j] := by
      unfold rotNow
      rw [if_neg hr0, hj]
      simp [List.getD_eq_getElem?_getD, hjl]
    rw [hnow]
    have hcj := hcell j _ (List.getElem?_eq_getElem hjl)
    have hrb := Hr.out _ (List.getElem_mem hjl)
    generalize rot[j] = r at *
    have t1 : decide ((0 : Int) < rot.length) = true := by simp; omega
    have t2 : (0 : Int) < rot.length := by omega
    have j0 : (0 : Int) ≤ j := by omega
    have j1 : (j : Int) < rot.length := by omega
    obtain ⟨l0, l1⟩ := HL.out
    obtain ⟨r0, r1⟩ := hrb
    clear hcell hnow HR Hr hr0
    go_enter Tryz.func13, Tryz.ntmps13
    go_wp2_with (go_at_call 38; refine hf.mono ?_; rintro e w' ⟨rfl, rfl⟩)
    go_quiet (fail)
    by_cases hn0 : names = []
    · subst hn0
      have e4 : turnL r [] = [] := by unfold turnL; simp
      clear hj hjl
      go_wp2_with fail
      go_ret2
      obtain ⟨hS, hch⟩ := HS.out
      rw [e4]
      exact ⟨none, 0, rfl, World.ownsRow_nil _ _ _ _, (fun k hk => by cases hk), hS.chg ((Chg.refl (fun _ => False) _).drewN nq) (fun _ _ _ h => h), hch.drewN nq⟩
    · have hnp : 0 < names.length := List.length_pos_iff.2 hn0
      obtain ⟨K, hK, hKl⟩ : ∃ K : Nat, r % (names.length : Int) = K ∧ K < names.length := ⟨(r % names.length).toNat, by have := Int.emod_nonneg r (show (names.length : Int) ≠ 0 by omega); omega, by have := Int.emod_nonneg r (show (names.length : Int) ≠ 0 by omega); have := Int.emod_lt_of_pos r (show (0 : Int) < names.length by omega); omega⟩
      have t3 : (names.length == 0) = false := by simp; omega
      have t4 : ((names.length : Int) == 0) = false := by simp; omega
      obtain ⟨ng, rfl⟩ : ∃ ng, NA = some ⟨ng, 0, none⟩ := by
        rcases HN.out.2 with ⟨_, h⟩ | ⟨g', _, _, h, _⟩
        · omega
        · cases h; exact ⟨g', rfl⟩
      have hncap : names.length ≤ nc := by obtain ⟨_, _, h, _⟩ := own_blk HN.out; exact h
      have k0 : (0 : Int) ≤ K := by omega
      have k1 : (K : Int) ≤ names.length := by omega
      have k2 : (K : Int) < nc := by omega
      have k3 : (K : Int) ≤ nc := by omega
      have k4 : ¬ nc = K := by omega
      clear hj hjl
      go_wp2_with fail
      try rw [hK]
      have hXc := hI9n nq
      have HX := Lib.hid (And.intro (HS.out.1.chg ((Chg.refl (fun _ => False) _).drewN nq) (fun _ _ _ h => h)) (And.intro (HS.out.2.drewN nq) (own_chg HN.out ((Chg.refl (fun _ => False) _).drewN nq) (fun _ _ h => h))))
      clear hI9 hI9n HS HN
      change Hid (IsFS ((w'.drewN nq).setCell ⟨S.B, 3, none⟩ (.int .i64 (lists + 1))) S.listed role ∧ Chg (fun k => k = S.B) w' ((w'.drewN nq).setCell ⟨S.B, 3, none⟩ (.int .i64 (lists + 1))) ∧ ((w'.drewN nq).setCell ⟨S.B, 3, none⟩ (.int .i64 (lists + 1))).ownsRow 0 9 1 (.slice (some ⟨ng, 0, none⟩) names.length nc) names.length (names.map .string)) at HX
      generalize ((w'.drewN nq).setCell ⟨S.B, 3, none⟩ (.int .i64 (lists + 1))) = X at *
      go_region_held3 (fun Y => Y.cell? ⟨b, 9, none⟩ = some (.slice (some ⟨ng, 0, none⟩) names.length nc))
        (first | go_keep | exact cell_keep hcc (cell_keep (((Chg.refl (fun _ => False) X).alloc _).drew) hXc))
        (first | (go_at_call 39; refine (Concat_two _ 2 ng K _ _ ng 0 K nc _ _ _ ((two_of HX.out.2.2 hKl (Chg.refl _ _)).chg (Chg.refl _ _).drew) (by omega) (by omega)).mono ?_; rintro e w5 ⟨kk, cap, rfl, h1, h2, hcc⟩))
      have HC := Lib.hid (And.intro h1 (And.intro h2 ((((Chg.refl (fun _ => False) X).alloc _).drew).trans (U := fun _ => False) hcc (fun _ _ h => h) (fun _ _ h => h))))
      clear h1 h2 hcc hXc
      by_cases hodd : r % 2 = 1
      · have t6 : (bits BinOp.and IntKind.i64 r 1 == 1) = true := by rw [bits_and1 r r0 r1, hodd]; rfl
        have hrv := Reverse_own kk _ cap w5 _ HC.out.1 (by omega)
        have HV := Lib.hid hrv; clear hrv
        go_wp2_with fail
        refine HV.out.mono ?_
        rintro e w6 ⟨rfl, v1, v2⟩
        have HV6 := Lib.hid (And.intro v1 v2); clear v1 v2
        go_wp2_with fail
        go_ret2
        obtain ⟨v1, v2⟩ := HV6.out
        obtain ⟨h1, h2, h3⟩ := HC.out
        obtain ⟨x1, x2, _⟩ := HX.out
        have e5 : turnL r names = (names.drop K ++ names.take K).reverse := by unfold turnL; rw [if_pos hodd, hK]; rfl
        have hlen : (turnL r names).length = names.length - K + K := by rw [turnL_length]; omega
        have hkk := x2.size
        have hk2 : X.heap.size ≤ kk := by simp at h2; omega
        refine ⟨some ⟨kk, 0, none⟩, cap, by rw [hlen]; rfl, by rw [hlen, e5]; exact v1, fun k hk => by have := own_blk_eq hk; omega, (x1.chg h3 (fun _ _ _ h => h)).chg v2 (fun k r hk hh => ?_), (x2.trans (U := fun k => k = S.B) h3 (fun _ _ h => h) (fun _ _ h => h.elim)).trans v2 (fun _ _ h => h) (fun i hi e => by omega)⟩
        have := x1.rlt k r hk
        omega
      · have t6 : (bits BinOp.and IntKind.i64 r 1 == 1) = false := by rw [bits_and1 r r0 r1]; simpa using hodd
        go_wp2_with fail
        go_ret2
        obtain ⟨h1, h2, h3⟩ := HC.out
        obtain ⟨x1, x2, _⟩ := HX.out
        have e5 : turnL r names = names.drop K ++ names.take K := by unfold turnL; rw [if_neg hodd, hK]; rfl
        have hlen : (turnL r names).length = names.length - K + K := by rw [turnL_length]; omega
        have hkk := x2.size
        exact ⟨some ⟨kk, 0, none⟩, cap, by rw [hlen]; rfl, by rw [hlen, e5]; exact h1, fun k hk => by have := own_blk_eq hk; simp at h2; omega, x1.chg h3 (fun _ _ _ h => h), x2.trans h3 (fun _ _ h => h) (fun _ _ h => h.elim)⟩

def PFS.listErr (P : PFS) (p : List UInt8) : Int := match P.kindAt p with | none => 19 | some k => if k = 0 then 0 else 8
def PFS.namesAt (P : PFS) (p : List UInt8) : List ByteArray := match P.F p with | none => [] | some b => match P.ino b with | none => [] | some i => i.names
def PFS.listOut (P : PFS) (p : List UInt8) : List ByteArray := if P.kindAt p = some 0 then turnL (rotNow P.rot P.lists) (P.namesAt p) else []
def PFS.listed (P : PFS) (p : List UInt8) : PFS := if P.kindAt p = some 0 then { P with lists := P.lists + 1 } else P

theorem List_fs {w : World} {B : Nat} {P : PFS} {O : Nat → Prop} (h : HasFS w B P O) (p : ByteArray) (hs : p.size ≤ maxLen) (hn : P.n ≤ 100000)
    (hr : ∀ x ∈ P.rot, 0 ≤ x ∧ x ≤ 1000000000) (hl0 : 0 ≤ P.lists) (hl1 : P.lists ≤ 1000000000) (hrl : P.rot.length ≤ 1000000) :
    Calls Tryz.prog 13 #[.pointer (some ⟨B, 0, none⟩), .string p] w fun e w' => ∃ A c, e = .returned (.tuple #[.slice A (P.listOut p.data.toList).length c, .int .i64 (P.listErr p.data.toList)]) ∧
      w'.ownsRow 0 9 1 (.slice A (P.listOut p.data.toList).length c) (P.listOut p.data.toList).length ((P.listOut p.data.toList).map .string) ∧ (∀ k, (Value.slice A (P.listOut p.data.toList).length c).ownBlock = some k → w.heap.size ≤ k) ∧
      HasFS w' B (P.listed p.data.toList) O ∧ Next w w' O O := by
  have h' := h
  obtain ⟨⟨S, role, h1, rfl, rfl, h4⟩, h5⟩ := h
  have eF : S.pure.F = S.F := rfl
  cases hF : S.F p.data.toList with
  | none =>
    have hk : S.pure.kindAt p.data.toList = none := by unfold PFS.kindAt; rw [eF, hF]; rfl
    have e1 : S.pure.listOut p.data.toList = [] := by unfold PFS.listOut; rw [hk]; simp
    have e2 : S.pure.listErr p.data.toList = 19 := by unfold PFS.listErr; rw [hk]
    have e3 : S.pure.listed p.data.toList = S.pure := by unfold PFS.listed; rw [hk]; simp
    rw [e1, e2, e3]
    refine (List_none p w h1 hs hF).mono ?_
    rintro e w' ⟨rfl, rfl⟩
    exact ⟨none, 0, rfl, World.ownsRow_nil _ _ _ _, (fun k hk => by cases hk), h', Next.refl _ _⟩
  | some b =>
    obtain ⟨i, hi⟩ := h1.mem _ _ hF
    have hk : S.pure.kindAt p.data.toList = some i.kind := by unfold PFS.kindAt; rw [eF, hF]; simp only [Option.bind_some, pure_ino hi, Option.map_some]; rfl
    by_cases hk0 : i.kind = 0
    · have e1 : S.pure.listOut p.data.toList = turnL (rotNow S.rot S.lists) i.names := by
        unfold PFS.listOut PFS.namesAt; rw [hk, hk0, if_pos rfl, eF, hF]; simp only [pure_ino hi]; rfl
      have e2 : S.pure.listErr p.data.toList = 0 := by unfold PFS.listErr; rw [hk]; simp [hk0]
      have e3 : S.pure.listed p.data.toList = S.listed.pure := by unfold PFS.listed; rw [hk, hk0, if_pos rfl]; rfl
      rw [e1, e2, e3]
      refine (List_dir p w h1 hs b i hF hi hk0 (by have := h5.nm b i.pure (pure_ino hi); have e : i.pure.names = i.names := rfl; rw [e] at this; omega) hr hl0 hl1 hrl).mono ?_
      rintro e w' ⟨A, c, rfl, g1, g2, g3, g4⟩
      refine ⟨A, c, rfl, g1, g2, ⟨⟨S.listed, role, g3, rfl, rfl, h4⟩, ?_⟩, ⟨g4.mono (fun k _ e => (h4 k).2 ⟨_, e ▸ h1.rB⟩), fun _ hk => .inl hk⟩⟩
      exact ⟨h5.st, h5.nx, h5.nm, h5.dt, h5.lk, h5.mem⟩
    · have e1 : S.pure.listOut p.data.toList = [] := by unfold PFS.listOut; rw [hk]; simp [hk0]
      have e2 : S.pure.listErr p.data.toList = 8 := by unfold PFS.listErr; rw [hk]; simp [hk0]
      have e3 : S.pure.listed p.data.toList = S.pure := by unfold PFS.listed; rw [hk]; simp [hk0]
      rw [e1, e2, e3]
      refine (List_kind p w h1 hs b i hF hi hk0).mono ?_
      rintro e w' ⟨rfl, rfl⟩
      exact ⟨none, 0, rfl, World.ownsRow_nil _ _ _ _, (fun k hk => by cases hk), h', Next.refl _ _⟩
end Go.Proofs.YtfkfeoocglcjgaaGreatDoor
