/- enter, where the new name comes last. -/
import Derived.Test.YtfkfeoocglcjgaaGreatDoorVInode
set_option linter.unusedVariables false
set_option linter.unusedSimpArgs false
namespace Go.Proofs.YtfkfeoocglcjgaaGreatDoor
open Go.RowKit

/-- Where the search puts a name. -/
def posOf (l : List ByteArray) (x : ByteArray) : Nat := Lib.bsGo (fun t => Op.bytesLess (l.getD t ByteArray.empty).toList x.toList) l.length 0 l.length

theorem Search_spec (A : Option Addr) (c : Nat) (l : List ByteArray) (x : ByteArray) (w : World) (hl : l.length ≤ 1000000) (h : w.ownsRow 0 9 1 (.slice A l.length c) l.length (l.map .string)) :
    Calls Tryz.prog 77 #[.slice A l.length c, .string x] w fun e w' => ∃ b : Bool, e = .returned (.tuple #[.int .i64 (posOf l x), .bool b]) ∧ ∃ q, w' = w.drewN q := by
  cases l with
  | nil =>
    refine (Tryz.slices_BinarySearch_string_empty A c x w).mono ?_
    rintro e w' ⟨rfl, rfl⟩
    exact ⟨false, rfl, 0, rfl⟩
  | cons a t =>
    obtain ⟨A', cap', hv, _, hA⟩ := own_form h
    cases hv
    have hr := Rd.of_own h rfl
    rcases hr with hr | ⟨g, off, rfl, hr⟩
    · simp at hr
    · refine (Tryz.slices_BinarySearch_string g off (a :: t).length c (fun k => (a :: t).getD k ByteArray.empty) x w (by omega) (fun j hj => hr j _ ?_)).mono ?_
      · rw [List.getElem?_map, List.getElem?_eq_getElem hj]
        simp [List.getD, List.getElem?_eq_getElem hj]
      · rintro e w' ⟨rfl, q, rfl⟩
        exact ⟨_, rfl, q, rfl⟩

set_option maxRecDepth 100000 in
set_option maxHeartbeats 2000000 in
theorem enter_end {S : FSt} {role : Nat → Option (Nat × Nat)} (p : ByteArray) (pb nb : Nat) (pi : Ino) (w : World) (h : IsFS w S role) (hs : p.size < 4611686018427387904) (hn : S.n ≤ 1000000)
    (hp : S.ino pb = some pi) (hl : pi.names.length ≤ 1000000) (hpos : posOf pi.names ⟨(baseB p.data.toList).toArray⟩ = pi.names.length) :
    Calls Tryz.prog 50 #[.pointer (some ⟨S.B, 0, none⟩), .string p, .pointer (some ⟨pb, 0, none⟩), .pointer (some ⟨nb, 0, none⟩)] w fun e w' =>
      e = .returned (.tuple #[]) ∧ ∃ nv, Files w' S.M (S.n + 1) (fun t => if t = p.data.toList then some nb else S.F t) ∧ Blk w' pb ({ pi with nv := nv }).cells 91 ∧
        w'.ownsRow 0 9 1 nv (pi.names.length + 1) ((pi.names ++ [ByteArray.mk (baseB p.data.toList).toArray]).map .string) ∧ (∀ k, nv.ownBlock = some k → pi.nv.ownBlock = some k ∨ w.heap.size ≤ k) ∧
        Chg (fun k => k = S.M ∨ k = pb ∨ pi.nv.ownBlock = some k) w w' := by
  have hc4 : w.cell? ⟨S.B, 4, none⟩ = some (.map (some S.M)) := h.blk.cell 4
  obtain ⟨w1, hst, hF1, hch1⟩ := h.files.store (by unfold maxLen; omega) p (by unfold maxLen; omega) nb
  have hMp : pb ≠ S.M := fun e => by have h1 := h.rI pb pi hp; have h2 := h.rM; rw [e, h2] at h1; simp at h1
  have hMn : ∀ k, pi.nv.ownBlock = some k → k ≠ S.M := fun k hk e => by have h1 := h.rN pb pi k hp hk; have h2 := h.rM; rw [e, h2] at h1; simp at h1
  have hPn : ∀ k, pi.nv.ownBlock = some k → k ≠ pb := fun k hk e => by have h1 := h.rN pb pi k hp hk; have h2 := h.rI pb pi hp; rw [e, h2] at h1; simp at h1
  have hI1 := (h.inos pb pi hp).chg hch1 hMp
  have hN1 := own_chg (h.namess pb pi hp) hch1 hMn
  have hI9 : w1.cell? ⟨pb, 9, none⟩ = some pi.nv := hI1.cell 9
  obtain ⟨A, c, hv, hnc, hA⟩ := own_form hN1
  rw [hv] at hN1 hI9
  have hB := Base_spec p w1 hs
  have hS := Search_spec A c pi.names ⟨(baseB p.data.toList).toArray⟩ w1 hl hN1
  rw [hpos] at hS
  have HS := Lib.hid hS
  have HR := Lib.hid (And.intro hF1 (And.intro hch1 (And.intro hI1 hN1)))
  have HQ := Lib.hid (And.intro hMp (And.intro hMn hPn))
  clear hF1 hch1 hI1 hN1 hS hMp hMn hPn hpos h hp hnc hA
  generalize hx : (⟨(baseB p.data.toList).toArray⟩ : ByteArray) = x at *
  go_enter Tryz.func50, Tryz.ntmps50
  go_wp2_with (first | (go_at_call 76; refine hB.mono ?_; rintro e w' ⟨rfl, rfl⟩) | (go_at_call 77; refine HS.out.mono ?_; rintro e w' ⟨bb, rfl, q, rfl⟩))
  obtain ⟨hF1, hch1, hI1, hN1⟩ := HR.out
  have hxc := (Blk.new (w'.drewN q) #[.string x] 9).cell 0
  have hN2 := own_chg hN1 (((Chg.refl (fun _ => False) w').drewN q).alloc (.cells #[.string x] 9)) (fun _ _ h => h)
  refine (Insert_end A pi.names.length c w'.heap.size 1 (pi.names.map .string) x _ hN2 hl hxc).mono ?_
  rintro e w2 ⟨k, c2, rfl, hown, hor, hch2⟩
  obtain ⟨hMp, hMn, hPn⟩ := HQ.out
  have HQM := hMp
  have hA2 : ∀ k, A.map (·.block) = some k → pi.nv.ownBlock = some k := fun k hk => by rw [hv]; cases A with | none => cases hk | some a => exact hk
  have hch2' : Chg (fun i => A.map (·.block) = some i) w' w2 := (((Chg.refl _ w').drewN q).alloc _).trans hch2 (fun _ _ h => h) (fun _ _ h => h)
  have hI2 := hI1.chg hch2' (fun h => hPn _ (hA2 _ h) rfl)
  have hF2 := hF1.chg hch2' (fun h => hMn _ (hA2 _ h) rfl)
  have hI9' : w2.cell? ⟨pb, 9, none⟩ = some pi.nv := hI2.cell 9
  have hfr := hI2.free 9
  have hmap : (pi.names ++ [x]).map Value.string = pi.names.map .string ++ [.string x] := by simp
  have hor2 : ∀ j, (Value.slice (some ⟨k, 0, none⟩) (pi.names.length + 1) c2).ownBlock = some j → pi.nv.ownBlock = some j ∨ w.heap.size ≤ j := by
    intro j hj
    have hjk := own_blk_eq hj; subst hjk
    rcases hor with ho | ho
    · exact .inl (hA2 _ ho)
    · exact .inr (by have := hch1.size; simp at ho; omega)
  have hkp : k ≠ pb := by
    rcases hor with ho | ho
    · exact fun e => hPn _ (hA2 _ ho) e
    · have := hI1.lt; simp at ho; omega
  have hkM : k ≠ S.M := by
    rcases hor with ho | ho
    · exact fun e => hMn _ (hA2 _ ho) e
    · have := hF1.lt; simp at ho; omega
  have hch3 : Chg (fun k => k = S.M ∨ k = pb ∨ pi.nv.ownBlock = some k) w w2 := hch1.trans hch2' (fun _ _ h => .inl h) (fun _ _ h => .inr (.inr (hA2 _ h)))
  have HE := Lib.hid (And.intro hF2 (And.intro hI2 (And.intro hown (And.intro hor2 hch3))))
  have HK := Lib.hid (And.intro hkp (And.intro hkM hmap))
  clear hF2 hI2 hown hor2 hch3 hkp hkM hmap hor hch2 hch2' hA2 hPn hMn hN1 hN2 hI1 hF1 hch1 HR HQ HS
  go_wp2
  go_end0
  obtain ⟨hF2, hI2, hown, hor2, hch3⟩ := HE.out
  obtain ⟨hkp, hkM, hmap⟩ := HK.out
  have hset : Chg (fun i => i = pb) w2 (w2.setCell ⟨pb, 9, none⟩ (.slice (some ⟨k, 0, none⟩) (pi.names.length + 1) c2)) := (Chg.refl (fun i => i = pb) w2).setCell ⟨pb, 9, none⟩ _ (fun _ => rfl)
  refine ⟨rfl, .slice (some ⟨k, 0, none⟩) (pi.names.length + 1) c2, hF2.chg hset (fun e => ?_), ?_, ?_, hor2, hch3.trans hset (fun _ _ h => h) (fun _ _ h => .inr (.inl h))⟩
  · have := hF2.lt; have hM := HQM; exact hM e.symm
  · simpa [Ino.cells] using hI2.set 9 (.slice (some ⟨k, 0, none⟩) (pi.names.length + 1) c2)
  · rw [hmap]; exact own_chg hown hset (fun j hj => by have := own_blk_eq hj; omega)
end Go.Proofs.YtfkfeoocglcjgaaGreatDoor
