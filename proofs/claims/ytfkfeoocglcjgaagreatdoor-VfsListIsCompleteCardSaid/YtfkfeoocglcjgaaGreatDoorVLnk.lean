/- Link, at every input. -/
import Derived.Test.YtfkfeoocglcjgaaGreatDoorVMg
set_option linter.unusedVariables false
set_option linter.unusedSimpArgs false
namespace Go.Proofs.YtfkfeoocglcjgaaGreatDoor
open Go.RowKit

def FSt.linkErr (S : FSt) (p t : List UInt8) : Int :=
  if pathErr p ≠ 0 then pathErr p else if S.placeErr p ≠ 0 then S.placeErr p else match S.kindAt t with | none => 19 | some k => if k = 1 then 0 else 15

set_option maxRecDepth 100000 in
set_option maxHeartbeats 2000000 in
theorem Link_bad {S : FSt} {role : Nat → Option (Nat × Nat)} (p t : ByteArray) (w : World) (h : IsFS w S role) (hs : p.size < 4611686018427387904) (ht : t.size ≤ maxLen)
    (herr : S.linkErr p.data.toList t.data.toList ≠ 0) :
    Calls Tryz.prog 23 #[.pointer (some ⟨S.B, 0, none⟩), .string p, .string t] w fun e w' =>
      e = .returned (.int .i64 (S.linkErr p.data.toList t.data.toList)) ∧ Chg (fun _ => False) w w' := by
  have hCheck := fun W => Check_spec p W hs
  by_cases h1 : pathErr p.data.toList = 0
  · rw [h1] at hCheck
    by_cases h2 : S.placeErr p.data.toList = 0
    · obtain ⟨pb, pi, hF, hi, hkd, hD⟩ := place_zero h h2
      have hPl := fun W (h : IsFS W S role) => place_ok p W h hs pb pi hF hi hkd hD
      have HPl := Lib.hid hPl; clear hPl hF hi hkd hD
      cases hT : S.F t.data.toList with
      | none =>
        have e1 : S.linkErr p.data.toList t.data.toList = 19 := by unfold FSt.linkErr FSt.kindAt; simp [h1, h2, hT]
        rw [e1]
        have hlk := fun W (h : IsFS W S role) => h.files.look t ht
        simp only [ptrOf, hT, Option.isSome_none, Option.map_none] at hlk
        have HLk := Lib.hid hlk
        have HS := Lib.hid h
        clear hlk h h1 h2 herr e1 hT
        go_enter Tryz.func23, Tryz.ntmps23
        go_wp2_with (first | (go_at_call 48; refine (hCheck _).mono ?_; rintro e w1 ⟨rfl, hc1⟩) | (go_at_call 49; refine (HPl.out w1 (HS.out.chg hc1 (fun _ _ _ h => h))).mono ?_; rintro e w' ⟨rfl, k, rfl⟩; have hS2 := HS.out.chg (hc1.drewN k) (fun _ _ _ h => h); have hc4 := hS2.blk.cell 4; simp only [List.getElem?_toArray, List.getElem?_cons_zero, List.getElem?_cons_succ] at hc4; have hlk := HLk.out _ hS2; clear hS2))
        go_ret
        exact ⟨rfl, hc1.drewN k⟩
      | some b =>
        obtain ⟨i, hi⟩ := h.mem _ _ hT
        by_cases hk : i.kind = 1
        · exact absurd (by unfold FSt.linkErr FSt.kindAt; simp [h1, h2, hT, hi, hk]) herr
        · have e1 : S.linkErr p.data.toList t.data.toList = 15 := by unfold FSt.linkErr FSt.kindAt; simp [h1, h2, hT, hi, hk]
          rw [e1]
          have hlk := fun W (h : IsFS W S role) => h.files.look t ht
          simp only [ptrOf, hT, Option.isSome_some, Option.map_some] at hlk
          have HLk := Lib.hid hlk
          have HS := Lib.hid h
          have HI := Lib.hid hi
          have t5 : (i.kind == 1) = false := by simpa using hk
          have t6 : (i.kind != 1) = true := by simpa using hk
          clear hlk h h1 h2 herr e1 hT hk hi
          go_enter Tryz.func23, Tryz.ntmps23
          go_wp2_with (first | (go_at_call 48; refine (hCheck _).mono ?_; rintro e w1 ⟨rfl, hc1⟩) | (go_at_call 49; refine (HPl.out w1 (HS.out.chg hc1 (fun _ _ _ h => h))).mono ?_; rintro e w' ⟨rfl, k, rfl⟩; have hS2 := HS.out.chg (hc1.drewN k) (fun _ _ _ h => h); have hc4 := hS2.blk.cell 4; simp only [List.getElem?_toArray, List.getElem?_cons_zero, List.getElem?_cons_succ] at hc4; have hlk := HLk.out _ hS2; have hi0 := kindCell (hS2.inos b i HI.out); clear hS2))
          go_ret
          exact ⟨rfl, hc1.drewN k⟩
    · have e1 : S.linkErr p.data.toList t.data.toList = S.placeErr p.data.toList := by unfold FSt.linkErr; rw [if_neg (by simpa using h1), if_pos h2]
      rw [e1] at herr ⊢
      have hP := fun W (h : IsFS W S role) => place_bad p W h hs herr
      have t5 : (S.placeErr p.data.toList == 0) = false := by simpa using herr
      have t6 : (S.placeErr p.data.toList != 0) = true := by simpa using herr
      generalize S.placeErr p.data.toList = pe at *
      have HP := Lib.hid hP; clear hP
      have HS := Lib.hid h
      clear h h2 h1 herr e1
      go_enter Tryz.func23, Tryz.ntmps23
      go_wp2_with (first | (go_at_call 48; refine (hCheck _).mono ?_; rintro e w1 ⟨rfl, hc1⟩) | (go_at_call 49; refine (HP.out w1 (HS.out.chg hc1 (fun _ _ _ h => h))).mono ?_; rintro e w' ⟨rfl, k, rfl⟩))
      go_ret
      exact ⟨rfl, hc1.drewN k⟩
  · have e1 : S.linkErr p.data.toList t.data.toList = pathErr p.data.toList := by unfold FSt.linkErr; rw [if_pos (by simpa using h1)]
    rw [e1]
    have t5 : (pathErr p.data.toList == 0) = false := by simpa using h1
    have t6 : (pathErr p.data.toList != 0) = true := by simpa using h1
    generalize pathErr p.data.toList = pe at *
    clear h1 herr e1 h
    go_enter Tryz.func23, Tryz.ntmps23
    go_wp2_with (first | (go_at_call 48; refine (hCheck _).mono ?_; rintro e w1 ⟨rfl, hc1⟩))
    go_ret
    exact ⟨rfl, hc1⟩

/-- One inode is turned, its slices kept. -/
def FSt.turned (S : FSt) (b : Nat) (i : Ino) : FSt := { S with ino := fun c => if c = b then some i else S.ino c }
theorem IsFS.turned {S : FSt} {role : Nat → Option (Nat × Nat)} {w w' : World} (h : IsFS w S role) (b : Nat) (i j : Ino) (hi : S.ino b = some i) (hdv : j.dv = i.dv) (hnv : j.nv = i.nv) (hda : j.data = i.data) (hna : j.names = i.names)
    (hB : Blk w' b j.cells 91) (hch : Chg (fun k => k = b) w w') : IsFS w' (S.turned b j) role := by
  have hrb := h.rI b i hi
  have hne : ∀ k r, role k = some r → r ≠ (b, 0) → ¬ k = b := fun k r hk hr e => by rw [e, hrb] at hk; exact hr (by injection hk with hk; exact hk.symm)
  refine ⟨h.blk.chg hch (hne _ _ h.rB (by simp)), h.files.chg hch (hne _ _ h.rM (by simp)), ?_, ?_, ?_, own_chg h.rots hch (fun k hk => hne _ _ (h.rR k hk) (by simp)), ?_, h.rB, h.rM, ?_, ?_, ?_, h.rR, fun k r hk => Nat.lt_of_lt_of_le (h.rlt k r hk) hch.size⟩
  · intro c k hk
    dsimp only [FSt.turned] at hk
    split at hk
    · next e => cases hk; rw [e]; exact hB
    · next e => exact (h.inos c k hk).chg hch e
  · intro c k hk
    dsimp only [FSt.turned] at hk
    split at hk
    · next e => cases hk; rw [hdv, hda]; exact own_chg (h.datas b i hi) hch (fun k hk => hne _ _ (h.rD b i k hi hk) (by simp))
    · next e => exact own_chg (h.datas c k hk) hch (fun l hl => hne _ _ (h.rD c k l hk hl) (by simp))
  · intro c k hk
    dsimp only [FSt.turned] at hk
    split at hk
    · next e => cases hk; rw [hnv, hna]; exact own_chg (h.namess b i hi) hch (fun k hk => hne _ _ (h.rN b i k hi hk) (by simp))
    · next e => exact own_chg (h.namess c k hk) hch (fun l hl => hne _ _ (h.rN c k l hk hl) (by simp))
  · intro p c hc
    obtain ⟨k, hk⟩ := h.mem p c hc
    dsimp only [FSt.turned]
    split
    · exact ⟨_, rfl⟩
    · exact ⟨k, hk⟩
  · intro c k hk
    dsimp only [FSt.turned] at hk
    split at hk
    · next e => rw [e]; exact hrb
    · exact h.rI c k hk
  · intro c k l hk hl
    dsimp only [FSt.turned] at hk
    split at hk
    · next e => cases hk; rw [e]; exact h.rD b i l hi (hdv ▸ hl)
    · exact h.rD c k l hk hl
  · intro c k l hk hl
    dsimp only [FSt.turned] at hk
    split at hk
    · next e => cases hk; rw [e]; exact h.rN b i l hi (hnv ▸ hl)
    · exact h.rN c k l hk hl

def Ino.bump (i : Ino) : Ino := { i with links := i.links + 1 }

theorem link_tail {S : FSt} {role : Nat → Option (Nat × Nat)} (p : ByteArray) (pb nb : Nat) (pi ni : Ino) (w W w3 : World) (h : IsFS W S role) (hW : Chg (fun _ => False) w W) (hs : p.size < 4611686018427387904) (hn : S.n ≤ 1000000)
    (hi : S.ino pb = some pi) (hni : S.ino nb = some ni) (hpn : pb ≠ nb) (hl : pi.names.length ≤ 1000000)
    (hch : Chg (fun k => k = nb) W w3) (hB : Blk w3 nb ni.bump.cells 91) :
    Calls Tryz.prog 50 #[.pointer (some ⟨S.B, 0, none⟩), .string p, .pointer (some ⟨pb, 0, none⟩), .pointer (some ⟨nb, 0, none⟩)] w3 fun e w4 =>
      e = .returned (.tuple #[]) ∧ ∃ nv role', IsFS w4 ((S.turned nb ni.bump).entered p pb nb pi nv) role' ∧ Chg (Own role) w w4 ∧ (∀ k, Own role' k → Own role k ∨ w.heap.size ≤ k) := by
  have hAdd := h.turned nb ni ni.bump hni rfl rfl rfl rfl hB hch
  have hip : (S.turned nb ni.bump).ino pb = some pi := by show (if pb = nb then some ni.bump else S.ino pb) = some pi; rw [if_neg hpn, hi]
  have hsz := hW.size
  refine (enter_spec p pb nb pi w3 hAdd hs hn hip hl).mono ?_
  rintro e w4 ⟨rfl, nv, q1, q2, q3, q4, q5⟩
  have hlen : (insAt pi.names (posOf pi.names ⟨(baseB p.data.toList).toArray⟩) (⟨(baseB p.data.toList).toArray⟩ : ByteArray)).length = pi.names.length + 1 := by
    have := posOf_le pi.names ⟨(baseB p.data.toList).toArray⟩
    simp [insAt]; omega
  have hEnt := hAdd.entered p.data.toList pb nb pi ni.bump nv _ hip (if_pos rfl) q1 q2 (by rw [hlen]; exact q3) q4 q5
  refine ⟨rfl, nv, _, hEnt, ?_, ?_⟩
  · refine (hW.trans (U := Own role) hch (fun _ _ h => h.elim) (fun k _ e => ⟨_, e ▸ h.rI nb ni hni⟩)).trans q5 (fun _ _ h => h) ?_
    intro k _ hk
    rcases hk with hk | hk | hk
    · exact ⟨_, hk ▸ h.rM⟩
    · exact ⟨_, hk ▸ h.rI pb pi hi⟩
    · exact ⟨_, h.rN pb pi k hi hk⟩
  · rintro k ⟨r, hr⟩
    dsimp only at hr
    split at hr
    · next e =>
      rcases q4 k e with h1 | h1
      · exact .inl ⟨_, h.rN pb pi k hi h1⟩
      · exact .inr (by have := hch.size; omega)
    · exact .inl ⟨r, hr⟩

theorem linksCell {w : World} {b : Nat} {i : Ino} (h : Blk w b i.cells 91) : w.cell? ⟨b, 3, none⟩ = some (.int .i64 i.links) := h.cell 3

set_option maxRecDepth 100000 in
set_option maxHeartbeats 2000000 in
theorem Link_good {S : FSt} {role : Nat → Option (Nat × Nat)} (p t : ByteArray) (w : World) (h : IsFS w S role) (hs : p.size < 4611686018427387904) (ht : t.size ≤ maxLen) (hn : S.n ≤ 1000000)
    (hl : ∀ b i, S.ino b = some i → i.names.length ≤ 1000000) (hlk : ∀ b i, S.ino b = some i → 0 ≤ i.links ∧ i.links ≤ 1000000)
    (herr : S.linkErr p.data.toList t.data.toList = 0) :
    Calls Tryz.prog 23 #[.pointer (some ⟨S.B, 0, none⟩), .string p, .string t] w fun e w' =>
      e = .returned (.int .i64 0) ∧ ∃ pb pi nb ni nv role', S.F (parentB p.data.toList) = some pb ∧ S.ino pb = some pi ∧ S.F t.data.toList = some nb ∧ S.ino nb = some ni ∧ IsFS w' ((S.turned nb ni.bump).entered p pb nb pi nv) role' ∧ Chg (Own role) w w' ∧ (∀ k, Own role' k → Own role k ∨ w.heap.size ≤ k) := by
  have hCheck := fun W => Check_spec p W hs
  obtain ⟨hpe, hpl, nb, ni, hT, hni, hk1⟩ : pathErr p.data.toList = 0 ∧ S.placeErr p.data.toList = 0 ∧ ∃ nb ni, S.F t.data.toList = some nb ∧ S.ino nb = some ni ∧ ni.kind = 1 := by
    unfold FSt.linkErr at herr
    split at herr
    · next h1 => exact absurd herr h1
    · next h1 =>
      split at herr
      · next h2 => exact absurd herr h2
      · next h2 =>
        refine ⟨by simpa using h1, by simpa using h2, ?_⟩
        cases hT : S.F t.data.toList with
        | none => unfold FSt.kindAt at herr; simp [hT] at herr
        | some b =>
          obtain ⟨i, hi⟩ := h.mem _ _ hT
          unfold FSt.kindAt at herr
          simp only [hT, hi, Option.bind_some, Option.map_some] at herr
          split at herr
          · next h3 => exact ⟨b, i, rfl, hi, h3⟩
          · simp at herr
  obtain ⟨pb, pi, hF, hi, hkd, hD⟩ := place_zero h hpl
  rw [hpe] at hCheck
  have hpn : pb ≠ nb := fun e => by rw [e, hni] at hi; cases hi; omega
  have hlp := hl pb pi hi
  have hli := hlk nb ni hni
  have hw : IntKind.i64.wrap (ni.links + 1) = ni.links + 1 := by rw [IntKind.wrap_i64]; omega
  have hTl := fun (W w3 : World) (h : IsFS W S role) hW hch hB => link_tail p pb nb pi ni w W w3 h hW hs hn hi hni hpn hlp hch hB
  have hPl := fun W (h : IsFS W S role) => place_ok p W h hs pb pi hF hi hkd hD
  have hlk' := fun W (h : IsFS W S role) => h.files.look t ht
  simp only [ptrOf, hT, Option.isSome_some, Option.map_some] at hlk'
  have HLk := Lib.hid hlk'
  have HS := Lib.hid h
  have HI := Lib.hid hni
  have HPl := Lib.hid hPl
  have HTl := Lib.hid hTl
  have HF := Lib.hid (And.intro hF (And.intro hi (And.intro hT hni)))
  clear hlk' h hPl hTl hF hi hT hni hpe hpl hkd hD hpn hlp hl hlk herr
  go_enter Tryz.func23, Tryz.ntmps23
  go_wp2_with (first | (go_at_call 48; refine (hCheck _).mono ?_; rintro e w1 ⟨rfl, hc1⟩) | (go_at_call 49; refine (HPl.out w1 (HS.out.chg hc1 (fun _ _ _ h => h))).mono ?_; rintro e w' ⟨rfl, k, rfl⟩; have hS2 := HS.out.chg (hc1.drewN k) (fun _ _ _ h => h); have hc4 := hS2.blk.cell 4; simp only [List.getElem?_toArray, List.getElem?_cons_zero, List.getElem?_cons_succ] at hc4; have hlk := HLk.out _ hS2; have hi0 := kindCell (hS2.inos nb ni HI.out); have hi3 := linksCell (hS2.inos nb ni HI.out); have fr3 := (hS2.inos nb ni HI.out).free 3; rw [hk1] at hi0; clear hS2))
  have hS2 := HS.out.chg (hc1.drewN k) (fun _ _ _ h => h)
  have hBk : Blk ((w1.drewN k).setCell ⟨nb, 3, none⟩ (.int .i64 (ni.links + 1))) nb ni.bump.cells 91 := by
    simpa [Ino.cells, Ino.bump] using (hS2.inos nb ni HI.out).set 3 (.int .i64 (ni.links + 1))
  refine (HTl.out (w1.drewN k) _ hS2 (hc1.drewN k) ((Chg.refl _ _).setCell _ _ (fun _ => rfl)) hBk).mono ?_
  rintro e w4 ⟨rfl, nv, role', q1, q2, q3⟩
  have HE := Lib.hid (And.intro q1 (And.intro q2 q3))
  clear q1 q2 q3 hc1 hBk hS2
  go_wp2
  go_ret
  exact ⟨rfl, pb, pi, nb, ni, nv, role', HF.out.1, HF.out.2.1, HF.out.2.2.1, HF.out.2.2.2, HE.out.1, HE.out.2.1, HE.out.2.2⟩
end Go.Proofs.YtfkfeoocglcjgaaGreatDoor
