/- make, where all goes well. -/
import Derived.Test.YtfkfeoocglcjgaaGreatDoorVMk
set_option linter.unusedVariables false
set_option linter.unusedSimpArgs false
namespace Go.Proofs.YtfkfeoocglcjgaaGreatDoor
open Go.RowKit

/-- The blocks that a role map speaks of. -/
def Own (role : Nat → Option (Nat × Nat)) : Nat → Prop := fun k => ∃ r, role k = some r

def newIno (kind mode num n : Int) (target : ByteArray) (dv : Value) (data : List UInt8) : Ino := ⟨kind, mode, num, 1, n, target, 0, 0, dv, .slice none 0 0, data, []⟩
/-- A path is added: the parent's names. -/
def FSt.entered (S : FSt) (p : ByteArray) (pb nb : Nat) (pi : Ino) (nv : Value) : FSt :=
  { S with n := S.n + 1, F := fun t => if t = p.data.toList then some nb else S.F t, ino := fun b => if b = pb then some { pi with nv := nv, names := insAt pi.names (posOf pi.names ⟨(baseB p.data.toList).toArray⟩) ⟨(baseB p.data.toList).toArray⟩ } else S.ino b }
def FSt.added (S : FSt) (nb : Nat) (i : Ino) : FSt := { S with next := S.next + S.step, ino := fun b => if b = nb then some i else S.ino b }

theorem make_tail {S : FSt} {role : Nat → Option (Nat × Nat)} (p : ByteArray) (pb nb : Nat) (pi i : Ino) (w W w3 : World) (h : IsFS W S role) (hW : Chg (fun _ => False) w W) (hs : p.size < 4611686018427387904) (hn : S.n ≤ 1000000)
    (hi : S.ino pb = some pi) (hl : pi.names.length ≤ 1000000)
    (hch : Chg (fun k => k = S.B) W w3) (hB : Blk w3 S.B #[.int .i64 (S.next + S.step), .int .i64 S.step, S.rv, .int .i64 S.lists, .map (some S.M)] 68) (hI : Blk w3 nb i.cells 91) (hnb : W.heap.size ≤ nb)
    (hD : w3.ownsRow 0 5 1 i.dv i.data.length (by8 i.data)) (hnv : i.nv = .slice none 0 0) (hnm : i.names = []) (hdk : ∀ k, i.dv.ownBlock = some k → W.heap.size ≤ k ∧ k ≠ nb) :
    Calls Tryz.prog 50 #[.pointer (some ⟨S.B, 0, none⟩), .string p, .pointer (some ⟨pb, 0, none⟩), .pointer (some ⟨nb, 0, none⟩)] w3 fun e w4 =>
      e = .returned (.tuple #[]) ∧ ∃ nv role', IsFS w4 ((S.added nb i).entered p pb nb pi nv) role' ∧ Chg (Own role) w w4 ∧ (∀ k, Own role' k → Own role k ∨ w.heap.size ≤ k) ∧ w.heap.size ≤ nb := by
  have hAdd := h.added nb i (S.next + S.step) hch hB hI hnb hD hnv hnm hdk
  have hpn : pb ≠ nb := by have := (h.inos pb pi hi).lt; omega
  have hip : (if pb = nb then some i else S.ino pb) = some pi := by rw [if_neg hpn, hi]
  have hsz := hW.size
  refine (enter_spec p pb nb pi w3 hAdd hs hn hip hl).mono ?_
  rintro e w4 ⟨rfl, nv, q1, q2, q3, q4, q5⟩
  have hlen : (insAt pi.names (posOf pi.names ⟨(baseB p.data.toList).toArray⟩) (⟨(baseB p.data.toList).toArray⟩ : ByteArray)).length = pi.names.length + 1 := by
    have := posOf_le pi.names ⟨(baseB p.data.toList).toArray⟩
    simp [insAt]; omega
  have hEnt := hAdd.entered p.data.toList pb nb pi i nv _ hip (if_pos rfl) q1 q2 (by rw [hlen]; exact q3) q4 q5
  refine ⟨rfl, nv, _, hEnt, ?_, ?_, by omega⟩
  · refine (hW.trans (U := Own role) hch (fun _ _ h => h.elim) (fun k _ e => ⟨_, e ▸ h.rB⟩)).trans q5 (fun _ _ h => h) ?_
    intro k _ hk
    rcases hk with hk | hk | hk
    · exact ⟨_, hk ▸ h.rM⟩
    · exact ⟨_, hk ▸ h.rI pb pi hi⟩
    · exact ⟨_, h.rN pb pi k hi hk⟩
  · rintro k ⟨r, hr⟩
    dsimp only at hr
    split at hr
    · next e =>
      rcases q4 k e with h1 | h1
      · exact .inl ⟨_, h.rN pb pi k hi h1⟩
      · exact .inr (by have := hch.size; omega)
    · split at hr
      · next e => exact .inr (by omega)
      · split at hr
        · next e => exact .inr (by have := (hdk k e).1; omega)
        · exact .inl ⟨r, hr⟩

set_option maxRecDepth 100000 in
set_option maxHeartbeats 4000000 in
theorem make_good {S : FSt} {role : Nat → Option (Nat × Nat)} (p : ByteArray) (kind mode : Int) (target : ByteArray) (A : Option Addr) (n c : Nat) (data : List UInt8) (w : World) (h : IsFS w S role) (hs : p.size < 4611686018427387904) (hn : S.n ≤ 1000000)
    (hk : kind = 2 → Keys w ∧ target.size ≤ maxLen) (hl : ∀ b i, S.ino b = some i → i.names.length ≤ 1000000)
    (hdl : data.length = n) (hdb : n ≤ 100000000) (hd : Rd w A (by8 data)) (hA : A = none → n = 0) (hoff : data ≠ [] → Off A (fun k => k = S.B)) (hw : IntKind.i64.wrap (S.next + S.step) = S.next + S.step)
    (herr : S.makeErr p.data.toList kind mode target.data.toList = 0) :
    Calls Tryz.prog 47 #[.pointer (some ⟨S.B, 0, none⟩), .string p, .agg #[.int .i64 kind, .int .i64 mode, .int .i64 0, .int .i64 0, .int .i64 0, .string target, .int .i64 0, .int .i64 0], .slice A n c] w fun e w' =>
      e = .returned (.int .i64 0) ∧ ∃ pb pi nb dv nv role', S.F (parentB p.data.toList) = some pb ∧ S.ino pb = some pi ∧ IsFS w' ((S.added nb (newIno kind mode S.next n target dv data)).entered p pb nb pi nv) role' ∧ Chg (Own role) w w' ∧ (∀ k, Own role' k → Own role k ∨ w.heap.size ≤ k) ∧ w.heap.size ≤ nb := by
  have hbox := Blk.new w #[.int .i64 kind, .int .i64 mode, .int .i64 0, .int .i64 0, .int .i64 0, .string target, .int .i64 0, .int .i64 0] 52
  have hc0 : Chg (fun _ => False) w (w.alloc (.cells #[.int .i64 kind, .int .i64 mode, .int .i64 0, .int .i64 0, .int .i64 0, .string target, .int .i64 0, .int .i64 0] 52)) := (Chg.refl _ w).alloc _
  have hCheck := fun W => Check_spec p W hs
  obtain ⟨hpe, hm, hre, hpl⟩ : pathErr p.data.toList = 0 ∧ ¬ (mode < 0 ∨ 4095 < mode) ∧ (kind = 2 → recErr target.data.toList = 0) ∧ S.placeErr p.data.toList = 0 := by
    unfold FSt.makeErr at herr
    split at herr
    · next h1 => exact absurd herr h1
    · next h1 =>
      split at herr
      · simp at herr
      · next h2 =>
        split at herr
        · next h3 => exact absurd herr h3.2
        · next h3 =>
          refine ⟨by simpa using h1, h2, fun hk => ?_, herr⟩
          by_cases h6 : recErr target.data.toList = 0
          · exact h6
          · exact absurd ⟨hk, h6⟩ h3
  obtain ⟨pb, pi, hF, hi, hkd, hD⟩ := place_zero h hpl
  rw [hpe] at hCheck
  have t1 : decide (mode < 0) = false := by simp; omega
  have t2 : decide (4095 < mode) = false := by simp; omega
  have hlp := hl pb pi hi
  have hT := fun nb i (W w3 : World) (h : IsFS W S role) hW hch hB hI hnb hD hnv hnm hdk => make_tail p pb nb pi i w W w3 h hW hs hn hi hlp hch hB hI hnb hD hnv hnm hdk
  have hPl := fun W (h : IsFS W S role) => place_ok p W h hs pb pi hF hi hkd hD
  have hIno := fun W (hB : Blk W S.B #[.int .i64 S.next, .int .i64 S.step, S.rv, .int .i64 S.lists, .map (some S.M)] 68) (hd : Rd W A (by8 data)) => inode_spec S.B S.next S.step S.lists S.rv (.map (some S.M)) kind mode 0 0 0 0 0 target A n c data W hB hdl hdb hd hA hoff hw
  have HX := Lib.hid hbox; clear hbox
  have H0 := Lib.hid hc0; clear hc0
  have HS := Lib.hid h; clear h
  have HDd := Lib.hid hd; clear hd
  have HT := Lib.hid hT; clear hT
  have HPl := Lib.hid hPl; clear hPl
  have HIno := Lib.hid hIno; clear hIno
  have HL := Lib.hid hdl; clear hdl
  have HF := Lib.hid (And.intro hF hi)
  have HKd := Lib.hid hkd
  clear hF hi hkd hpe hm herr hpl hA hw hl hlp hD
  by_cases h4 : kind = 2
  · subst h4
    have HK1 := Lib.hid (hk rfl)
    have hRec := fun W (h : Keys W) => Rec_spec target W h HK1.out.2
    rw [hre rfl] at hRec
    simp only [sLink] at hRec
    have HR := Lib.hid hRec; clear hRec hk hre
    go_enter Tryz.func47, Tryz.ntmps47
    go_wp2_with (first | (go_at_call 48; refine (hCheck _).mono ?_; rintro e w1 ⟨rfl, hc1⟩; have m0 := (HX.out.chg hc1 (fun h => h)).cell 0; have m1 := (HX.out.chg hc1 (fun h => h)).cell 1; have m5 := (HX.out.chg hc1 (fun h => h)).cell 5; simp only [List.getElem?_toArray, List.getElem?_cons_zero, List.getElem?_cons_succ] at m0 m1 m5) | (go_at_call 72; refine (HR.out _ (HK1.out.1.chg (H0.out.trans hc1 (fun _ _ h => h) (fun _ _ h => h)) (fun h => h))).mono ?_; rintro e w2 ⟨rfl, hc2⟩; have hX2 := HX.out.chg (hc1.trans (U := fun _ => False) hc2 (fun _ _ h => h) (fun _ _ h => h)) (fun h => h); have n0 := hX2.cell 0; have n1 := hX2.cell 1; have n2 := hX2.cell 2; have n3 := hX2.cell 3; have n4 := hX2.cell 4; have n5 := hX2.cell 5; have n6 := hX2.cell 6; have n7 := hX2.cell 7; simp only [List.getElem?_toArray, List.getElem?_cons_zero, List.getElem?_cons_succ] at n0 n1 n2 n3 n4 n5 n6 n7; clear hX2) | (go_at_call 49; refine (HPl.out w2 (HS.out.chg ((H0.out.trans hc1 (fun _ _ h => h) (fun _ _ h => h)).trans hc2 (fun _ _ h => h) (fun _ _ h => h)) (fun _ _ _ h => h))).mono ?_; rintro e w' ⟨rfl, k, rfl⟩) | (go_at_call 27; refine (HIno.out (w2.drewN k) ((HS.out.chg (((H0.out.trans hc1 (fun _ _ h => h) (fun _ _ h => h)).trans hc2 (fun _ _ h => h) (fun _ _ h => h)).drewN k) (fun _ _ _ h => h)).blk) (HDd.out.chg (((H0.out.trans hc1 (fun _ _ h => h) (fun _ _ h => h)).trans hc2 (fun _ _ h => h) (fun _ _ h => h)).drewN k) (fun _ _ h => h))).mono ?_; rintro e w3 ⟨nb, A', c', rfl, g1, g2, g3, g4, g5, g6⟩))
    have hcW := ((H0.out.trans (U := fun _ => False) hc1 (fun _ _ h => h) (fun _ _ h => h)).trans (U := fun _ => False) hc2 (fun _ _ h => h) (fun _ _ h => h)).drewN k
    refine (HT.out nb (newIno 2 mode S.next n target (.slice A' n c') data) (w2.drewN k) w3 (HS.out.chg hcW (fun _ _ _ h => h)) hcW g6 g5 g2 g1 (by show w3.ownsRow 0 _ 1 _ data.length _; rw [HL.out]; exact g3) rfl rfl g4).mono ?_
    rintro e w4 ⟨rfl, nv, role', q1, q2, q3, q4⟩
    have HE := Lib.hid (And.intro q1 (And.intro q2 (And.intro q3 q4)))
    clear q1 q2 q3 q4 g2 g3 g4 g5 g6 hc1 hc2 hcW
    go_wp2
    go_ret
    exact ⟨rfl, pb, pi, nb, _, nv, role', HF.out.1, HF.out.2, HE.out.1, HE.out.2.1, HE.out.2.2.1, HE.out.2.2.2⟩
  · have t3 : (kind == 2) = false := by simpa using h4
    clear hk hre h4
    go_enter Tryz.func47, Tryz.ntmps47
    go_wp2_with (first | (go_at_call 48; refine (hCheck _).mono ?_; rintro e w1 ⟨rfl, hc1⟩; have hX2 := HX.out.chg hc1 (fun h => h); have n0 := hX2.cell 0; have n1 := hX2.cell 1; have n2 := hX2.cell 2; have n3 := hX2.cell 3; have n4 := hX2.cell 4; have n5 := hX2.cell 5; have n6 := hX2.cell 6; have n7 := hX2.cell 7; simp only [List.getElem?_toArray, List.getElem?_cons_zero, List.getElem?_cons_succ] at n0 n1 n2 n3 n4 n5 n6 n7; clear hX2) | (go_at_call 49; refine (HPl.out w1 (HS.out.chg (H0.out.trans hc1 (fun _ _ h => h) (fun _ _ h => h)) (fun _ _ _ h => h))).mono ?_; rintro e w' ⟨rfl, k, rfl⟩) | (go_at_call 27; refine (HIno.out (w1.drewN k) ((HS.out.chg ((H0.out.trans hc1 (fun _ _ h => h) (fun _ _ h => h)).drewN k) (fun _ _ _ h => h)).blk) (HDd.out.chg ((H0.out.trans hc1 (fun _ _ h => h) (fun _ _ h => h)).drewN k) (fun _ _ h => h))).mono ?_; rintro e w3 ⟨nb, A', c', rfl, g1, g2, g3, g4, g5, g6⟩))
    have hcW := (H0.out.trans (U := fun _ => False) hc1 (fun _ _ h => h) (fun _ _ h => h)).drewN k
    refine (HT.out nb (newIno kind mode S.next n target (.slice A' n c') data) (w1.drewN k) w3 (HS.out.chg hcW (fun _ _ _ h => h)) hcW g6 g5 g2 g1 (by show w3.ownsRow 0 _ 1 _ data.length _; rw [HL.out]; exact g3) rfl rfl g4).mono ?_
    rintro e w4 ⟨rfl, nv, role', q1, q2, q3, q4⟩
    have HE := Lib.hid (And.intro q1 (And.intro q2 (And.intro q3 q4)))
    clear q1 q2 q3 q4 g2 g3 g4 g5 g6 hc1 hcW
    go_wp2
    go_ret
    exact ⟨rfl, pb, pi, nb, _, nv, role', HF.out.1, HF.out.2, HE.out.1, HE.out.2.1, HE.out.2.2.1, HE.out.2.2.2⟩
end Go.Proofs.YtfkfeoocglcjgaaGreatDoor
