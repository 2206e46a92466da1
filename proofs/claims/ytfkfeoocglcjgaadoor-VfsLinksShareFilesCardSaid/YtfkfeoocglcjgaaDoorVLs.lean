/- The law VfsLinksShareFiles: the plain part. -/
import Derived.Test.YtfkfeoocglcjgaaDoorVConv
set_option linter.unusedVariables false
set_option linter.unusedSimpArgs false
namespace Go.Proofs.YtfkfeoocglcjgaaDoor
open Go.RowKit

/-- The path behind k links. -/
def nm (k : Nat) : List UInt8 := 102 :: List.replicate k 120
def nmB (k : Nat) : ByteArray := ⟨(nm k).toArray⟩
theorem nmB_list (k : Nat) : (nmB k).data.toList = nm k := by simp [nmB]
theorem nm_len (k : Nat) : (nm k).length = k + 1 := by simp [nm]
theorem nm_inj {i j : Nat} (h : nm i = nm j) : i = j := by have := congrArg List.length h; rw [nm_len, nm_len] at this; omega
theorem nmB_size (k : Nat) : (nmB k).size = k + 1 := by
  show (nm k).toArray.size = k + 1
  simp [nm_len]
theorem nmB_succ (k : Nat) : nmB k ++ ⟨#[120]⟩ = nmB (k + 1) := by
  apply ByteArray.ext
  apply Array.toList_inj.1
  simp [nmB, nm, List.replicate_succ']
theorem nm_path : ∀ k, k < 20 → pathErr (nm k) = 0 := by decide +kernel
theorem nm_parent : ∀ k, k < 20 → parentB (nm k) = [] := by decide +kernel

structure LsInv (P : PFS) (k rb nb : Nat) (data : List UInt8) : Prop where
  F0 : P.F [] = some rb
  Fk : ∀ j, j ≤ k → P.F (nm j) = some nb
  Fn : ∀ j, k < j → P.F (nm j) = none
  root : ∃ i, P.ino rb = some i ∧ i.kind = 0
  file : ∃ i, P.ino nb = some i ∧ i.kind = 1 ∧ i.links = k + 1 ∧ i.data = data
  n : P.n ≤ k + 2

theorem ls_make (rb : Nat) : (rootP rb 1 1 []).makeErr (nm 0) 1 420 [] = 0 := by
  have h1 := nm_path 0 (by omega)
  have h2 := nm_parent 0 (by omega)
  unfold PFS.makeErr PFS.placeErr PFS.kindAt
  rw [h1, h2]
  simp [rootP, nm]
theorem ls_start {rb : Nat} {data : List UInt8} {P : PFS} (h : MakeStep (rootP rb 1 1 []) (nm 0) 1 420 ⟨#[]⟩ data P) : ∃ nb, LsInv P 0 rb nb data := by
  unfold MakeStep at h
  rw [if_pos (ls_make rb)] at h
  obtain ⟨pb, pi, nb, g1, g2, g3, rfl⟩ := h
  rw [nm_parent 0 (by omega)] at g1
  obtain rfl : rb = pb := by simpa [rootP] using g1
  have hne : nb ≠ rb := by intro e; subst e; simp [rootP] at g3
  refine ⟨nb, ⟨?_, ?_, ?_, ?_, ?_, ?_⟩⟩
  · simp [PFS.enter, PFS.add, rootP, nm]
  · intro j hj; obtain rfl : j = 0 := by omega
    simp [PFS.enter]
  · intro j hj
    have : nm j ≠ nm 0 := fun e => by have := nm_inj e; omega
    have h2 : nm j ≠ [] := by simp [nm]
    simp [PFS.enter, PFS.add, rootP, this, h2]
  · have hk : pi.kind = 0 := by simp [rootP] at g2; rw [← g2]
    refine ⟨pi.addName ⟨(baseB (nm 0)).toArray⟩, ?_, hk⟩
    simp only [PFS.enter, PFS.add, if_true]
    rw [if_neg hne.symm, g2]
    rfl
  · refine ⟨newP 1 420 (rootP rb 1 1 []).next ⟨#[]⟩ data, ?_, rfl, rfl, rfl⟩
    simp [PFS.enter, PFS.add, hne]
  · simp [PFS.enter, PFS.add, rootP]

theorem ls_link {P : PFS} {k rb nb : Nat} {data : List UInt8} (h : LsInv P k rb nb data) (hk : k + 1 < 20) :
    P.linkErr (nm (k + 1)) (nm k) = 0 ∧ ∀ P', LinkStep P (nm (k + 1)) (nm k) P' → LsInv P' (k + 1) rb nb data := by
  obtain ⟨ri, hr, hrk⟩ := h.root
  obtain ⟨fi, hf, hfk, hfl, hfd⟩ := h.file
  have hl : P.linkErr (nm (k + 1)) (nm k) = 0 := by
    unfold PFS.linkErr PFS.placeErr PFS.kindAt
    rw [nm_path _ hk, nm_parent _ hk, h.F0, h.Fk k (Nat.le_refl _), h.Fn (k + 1) (by omega)]
    simp [hr, hrk, hf, hfk]
  refine ⟨hl, fun P' h' => ?_⟩
  unfold LinkStep at h'
  rw [if_pos hl] at h'
  obtain ⟨pb, pi, nb2, ni, k1, k2, k3, k4, rfl⟩ := h'
  rw [nm_parent _ hk, h.F0] at k1
  obtain rfl := Option.some.inj k1
  rw [h.Fk k (Nat.le_refl _)] at k3
  obtain rfl := Option.some.inj k3
  rw [hf] at k4
  obtain rfl := Option.some.inj k4
  have hne : nb ≠ rb := fun e => by rw [e, hr] at hf; cases hf; omega
  refine ⟨?_, ?_, ?_, ?_, ?_, ?_⟩
  · have : ([] : List UInt8) ≠ nm (k + 1) := by simp [nm]
    simp only [PFS.enter, PFS.turn]; rw [if_neg this]; exact h.F0
  · intro j hj
    simp only [PFS.enter, PFS.turn]
    split
    · rfl
    · next e => exact h.Fk j (by rcases Nat.lt_or_ge k j with hh | hh; exact absurd (by rw [show j = k + 1 by omega]) e; exact hh)
  · intro j hj
    simp only [PFS.enter, PFS.turn]
    rw [if_neg (fun e => by have := nm_inj e; omega)]
    exact h.Fn j (by omega)
  · refine ⟨ri.addName ⟨(baseB (nm (k + 1))).toArray⟩, ?_, hrk⟩
    simp only [PFS.enter, PFS.turn, if_true]
    rw [if_neg hne.symm, hr]; rfl
  · refine ⟨fi.bump, ?_, hfk, ?_, hfd⟩
    · simp only [PFS.enter, PFS.turn, if_true]
      rw [if_neg hne]
    · simp only [PIno.bump]; omega
  · have := h.n; simp only [PFS.enter, PFS.turn]; omega

theorem ls_end {P P' : PFS} {k rb nb : Nat} {data : List UInt8} {uid : Int} (h : LsInv P k rb nb data) (h' : ChownStep P (nm k) uid 7 P') :
    ∃ s : Info8, P'.stat (nm 0) = s ∧ P'.stat (nm k) = s ∧ s.links = k + 1 ∧ s.uid = uid ∧ P'.findErr (nm 0) = 0 ∧ P'.findErr (nm k) = 0 ∧ P'.readErr (nm k) = 0 ∧ P'.readErr (nm 0) = 0 ∧ P'.readData (nm k) = data ∧ P'.readData (nm 0) = data := by
  obtain ⟨fi, hf, hfk, hfl, hfd⟩ := h.file
  unfold ChownStep at h'
  rw [h.Fk k (Nat.le_refl _)] at h'
  obtain ⟨i, hi, rfl⟩ := h'
  rw [hf] at hi
  obtain rfl := Option.some.inj hi
  have e0 : (P.turn nb (fi.chown uid 7)).F (nm 0) = some nb := h.Fk 0 (Nat.zero_le _)
  have ek : (P.turn nb (fi.chown uid 7)).F (nm k) = some nb := h.Fk k (Nat.le_refl _)
  have ei : (P.turn nb (fi.chown uid 7)).ino nb = some (fi.chown uid 7) := by simp [PFS.turn]
  have ekd : (fi.chown uid 7).kind = 1 := hfk
  have eda : (fi.chown uid 7).data = data := hfd
  refine ⟨(fi.chown uid 7).stat, ?_, ?_, hfl, rfl, ?_, ?_, ?_, ?_, ?_, ?_⟩
  · unfold PFS.stat; rw [e0]; simp only [ei]
  · unfold PFS.stat; rw [ek]; simp only [ei]
  · unfold PFS.findErr; rw [e0]; rfl
  · unfold PFS.findErr; rw [ek]; rfl
  · unfold PFS.readErr PFS.kindAt; rw [ek]; simp only [Option.bind_some, ei, Option.map_some, ekd, if_true]
  · unfold PFS.readErr PFS.kindAt; rw [e0]; simp only [Option.bind_some, ei, Option.map_some, ekd, if_true]
  · unfold PFS.readData; rw [ek]; simp only [ei, ekd, eda, if_true]
  · unfold PFS.readData; rw [e0]; simp only [ei, ekd, eda, if_true]
end Go.Proofs.YtfkfeoocglcjgaaDoor
