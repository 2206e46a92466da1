/- The file system behind a new inode, and behind a new path. -/
import Derived.Test.YtfkfeoocglcjgaaGreatDoorVEnter
set_option linter.unusedVariables false
set_option linter.unusedSimpArgs false
namespace Go.Proofs.YtfkfeoocglcjgaaGreatDoor
open Go.RowKit

theorem IsFS.added {S : FSt} {role : Nat → Option (Nat × Nat)} {w w' : World} (h : IsFS w S role) (nb : Nat) (i : Ino) (next' : Int) (hch : Chg (fun k => k = S.B) w w')
    (hB : Blk w' S.B #[.int .i64 next', .int .i64 S.step, S.rv, .int .i64 S.lists, .map (some S.M)] 68) (hI : Blk w' nb i.cells 91) (hnb : w.heap.size ≤ nb)
    (hD : w'.ownsRow 0 5 1 i.dv i.data.length (by8 i.data)) (hnv : i.nv = .slice none 0 0) (hnm : i.names = []) (hdk : ∀ k, i.dv.ownBlock = some k → w.heap.size ≤ k ∧ k ≠ nb) :
    IsFS w' { S with next := next', ino := fun b => if b = nb then some i else S.ino b } (fun k => if k = nb then some (nb, 0) else if i.dv.ownBlock = some k then some (nb, 1) else role k) := by
  have hne : ∀ k r, role k = some r → k ≠ nb ∧ i.dv.ownBlock ≠ some k := fun k r hk =>
    ⟨fun e => by have := h.rlt k r hk; omega, fun e => by have := h.rlt k r hk; have := (hdk k e).1; omega⟩
  have hkeep : ∀ k r, role k = some r → (if k = nb then some (nb, 0) else if i.dv.ownBlock = some k then some (nb, 1) else role k) = some r := fun k r hk => by
    rw [if_neg (hne k r hk).1, if_neg (hne k r hk).2, hk]
  have hnotB : ∀ b j, S.ino b = some j → b ≠ S.B := fun b j hj e => by have h1 := h.rI b j hj; have h2 := h.rB; rw [e, h2] at h1; simp at h1
  have hold : ∀ b j, S.ino b = some j → b ≠ nb := fun b j hj => (hne b _ (h.rI b j hj)).1
  have hBk : ∀ b j k r, S.ino b = some j → role k = some (b, r) → r ≠ 3 → k ≠ S.B := fun b j k r hj hk hr e => by
    have h2 := h.rB; rw [e, h2] at hk; simp at hk; omega
  refine ⟨hB, h.files.chg hch (fun e => by have h1 := h.rM; have h2 := h.rB; rw [e, h2] at h1; simp at h1), ?_, ?_, ?_, own_chg h.rots hch (fun k hk e => by have h1 := h.rR k hk; have h2 := h.rB; rw [e, h2] at h1; simp at h1), ?_, hkeep _ _ h.rB, hkeep _ _ h.rM, ?_, ?_, ?_, fun k hk => hkeep _ _ (h.rR k hk), ?_⟩
  · intro b j hj
    dsimp only at hj
    split at hj
    · next e => cases hj; rw [e]; exact hI
    · exact (h.inos b j hj).chg hch (hnotB b j hj)
  · intro b j hj
    dsimp only at hj
    split at hj
    · next e => cases hj; exact hD
    · exact own_chg (h.datas b j hj) hch (fun k hk => hBk b j k 1 hj (h.rD b j k hj hk) (by decide))
  · intro b j hj
    dsimp only at hj
    split at hj
    · next e => cases hj; rw [hnv, hnm]; exact World.ownsRow_nil _ _ _ _
    · exact own_chg (h.namess b j hj) hch (fun k hk => hBk b j k 2 hj (h.rN b j k hj hk) (by decide))
  · intro p b hb
    obtain ⟨j, hj⟩ := h.mem p b hb
    exact ⟨j, by dsimp only; rw [if_neg (hold b j hj), hj]⟩
  · intro b j hj
    dsimp only at hj
    split at hj
    · next e => rw [if_pos e, e]
    · exact hkeep _ _ (h.rI b j hj)
  · intro b j k hj hk
    dsimp only at hj
    split at hj
    · next e => cases hj; rw [if_neg (hdk k hk).2, if_pos hk, e]
    · exact hkeep _ _ (h.rD b j k hj hk)
  · intro b j k hj hk
    dsimp only at hj
    split at hj
    · next e => cases hj; rw [hnv] at hk; cases hk
    · exact hkeep _ _ (h.rN b j k hj hk)
  · intro k r hk
    split at hk
    · next e => rw [e]; exact hI.lt
    · split at hk
      · next e => exact (hD.lt k e).2
      · exact Nat.lt_of_lt_of_le (h.rlt k r hk) hch.size

theorem IsFS.entered {S : FSt} {role : Nat → Option (Nat × Nat)} {w w' : World} (h : IsFS w S role) (p : List UInt8) (pb nb : Nat) (pi ni : Ino) (nv : Value) (nms : List ByteArray)
    (hp : S.ino pb = some pi) (hn : S.ino nb = some ni)
    (hF : Files w' S.M (S.n + 1) (fun t => if t = p then some nb else S.F t)) (hI : Blk w' pb ({ pi with nv := nv }).cells 91)
    (hO : w'.ownsRow 0 9 1 nv nms.length (nms.map .string)) (hor : ∀ k, nv.ownBlock = some k → pi.nv.ownBlock = some k ∨ w.heap.size ≤ k)
    (hch : Chg (fun k => k = S.M ∨ k = pb ∨ pi.nv.ownBlock = some k) w w') :
    IsFS w' { S with n := S.n + 1, F := fun t => if t = p then some nb else S.F t, ino := fun b => if b = pb then some { pi with nv := nv, names := nms } else S.ino b }
      (fun k => if nv.ownBlock = some k then some (pb, 2) else role k) := by
  have hkeep : ∀ k r, role k = some r → r ≠ (pb, 2) → (if nv.ownBlock = some k then some (pb, 2) else role k) = some r := fun k r hk hr => by
    split
    · next e =>
      rcases hor k e with ho | ho
      · have := h.rN pb pi k hp ho; rw [hk] at this; exact absurd (by injection this) hr
      · have := h.rlt k r hk; omega
    · exact hk
  have hfree : ∀ k b r, role k = some (b, r) → (b, r) ≠ (S.B, 4) → (b, r) ≠ (pb, 0) → (b, r) ≠ (pb, 2) → ¬ (k = S.M ∨ k = pb ∨ pi.nv.ownBlock = some k) := by
    intro k b r hk h1 h2 h3 hh
    rcases hh with rfl | rfl | hh
    · have := h.rM; rw [hk] at this; exact h1 (by injection this)
    · have := h.rI _ _ hp; rw [hk] at this; exact h2 (by injection this)
    · have := h.rN _ _ _ hp hh; rw [hk] at this; exact h3 (by injection this)
  refine ⟨h.blk.chg hch (hfree _ _ _ h.rB (by simp) (by simp) (by simp)), hF, ?_, ?_, ?_, own_chg h.rots hch (fun k hk => hfree _ _ _ (h.rR k hk) (by simp) (by simp) (by simp)), ?_, hkeep _ _ h.rB (by simp), hkeep _ _ h.rM (by simp), ?_, ?_, ?_, fun k hk => hkeep _ _ (h.rR k hk) (by simp), ?_⟩
  · intro b j hj
    dsimp only at hj
    split at hj
    · next e => cases hj; rw [e]; exact hI
    · next e => exact (h.inos b j hj).chg hch (hfree _ _ _ (h.rI b j hj) (by simp) (by simp; exact e) (by simp))
  · intro b j hj
    dsimp only at hj
    split at hj
    · next e => cases hj; exact own_chg (h.datas pb pi hp) hch (fun k hk => hfree _ _ _ (h.rD pb pi k hp hk) (by simp) (by simp) (by simp))
    · next e => exact own_chg (h.datas b j hj) hch (fun k hk => hfree _ _ _ (h.rD b j k hj hk) (by simp) (by simp) (by simp))
  · intro b j hj
    dsimp only at hj
    split at hj
    · next e => cases hj; exact hO
    · next e => exact own_chg (h.namess b j hj) hch (fun k hk => hfree _ _ _ (h.rN b j k hj hk) (by simp) (by simp) (by simp; exact e))
  · intro t b hb
    dsimp only at hb ⊢
    have hex : ∃ j, S.ino b = some j := by
      split at hb
      · cases hb; exact ⟨ni, hn⟩
      · exact h.mem t b hb
    obtain ⟨j, hj⟩ := hex
    by_cases e : b = pb
    · exact ⟨_, by rw [if_pos e]⟩
    · exact ⟨j, by rw [if_neg e, hj]⟩
  · intro b j hj
    dsimp only at hj
    split at hj
    · next e => rw [e]; exact hkeep _ _ (h.rI pb pi hp) (by simp)
    · exact hkeep _ _ (h.rI b j hj) (by simp)
  · intro b j k hj hk
    dsimp only at hj
    split at hj
    · next e => cases hj; rw [e]; exact hkeep _ _ (h.rD pb pi k hp hk) (by simp)
    · exact hkeep _ _ (h.rD b j k hj hk) (by simp)
  · intro b j k hj hk
    dsimp only at hj
    split at hj
    · next e => cases hj; rw [if_pos hk, e]
    · next e => exact hkeep _ _ (h.rN b j k hj hk) (by simp; exact e)
  · intro k r hk
    split at hk
    · next e => exact (hO.lt k e).2
    · exact Nat.lt_of_lt_of_le (h.rlt k r hk) hch.size
end Go.Proofs.YtfkfeoocglcjgaaGreatDoor
