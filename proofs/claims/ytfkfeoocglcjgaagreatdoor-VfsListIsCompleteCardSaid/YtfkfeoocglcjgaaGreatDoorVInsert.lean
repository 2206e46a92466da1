/- slices.Insert of one string at the end. -/
import Derived.Test.YtfkfeoocglcjgaaGreatDoorVCheck
set_option linter.unusedVariables false
set_option linter.unusedSimpArgs false
namespace Go.Proofs.YtfkfeoocglcjgaaGreatDoor
open Go.RowKit

theorem infoStr : (Tryz.prog.info? 9).map (fun i => (i.zero, i.size, i.bytes)) = some (some (.string ⟨#[]⟩), 1, 16) := by kernel_rfl

set_option maxRecDepth 100000 in
set_option maxHeartbeats 800000 in
theorem Insert_end (A : Option Addr) (n cap g c' : Nat) (xs : List Value) (x : ByteArray) (w : World) (hown : w.ownsRow 0 9 1 (.slice A n cap) n xs) (hn : n ≤ 1000000)
    (hx : w.cell? ⟨g, 0, none⟩ = some (.string x)) :
    Calls Tryz.prog 78 #[.slice A n cap, .int .i64 n, .slice (some ⟨g, 0, none⟩) 1 c'] w fun e w' => ∃ k c2, e = .returned (.slice (some ⟨k, 0, none⟩) (n + 1) c2) ∧
      w'.ownsRow 0 9 1 (.slice (some ⟨k, 0, none⟩) (n + 1) c2) (n + 1) (xs ++ [.string x]) ∧ (A.map (·.block) = some k ∨ k = w.heap.size) ∧ Chg (fun i => A.map (·.block) = some i) w w' := by
  obtain ⟨i0, hi, hz0, hz1, hz2⟩ := info_parts infoStr
  obtain ⟨A', cap', hv, hnc, hA⟩ := own_form hown
  cases hv
  have hnews : ∀ j u, [Value.string x][j]? = some u → w.cell? ((⟨g, 0, none⟩ : Addr).add j) = some u := by
    intro j u hu
    match j, hu with
    | 0, hu => simpa [Addr.add] using (by simpa using hu : Value.string x = u) ▸ hx
    | j + 1, hu => simp at hu
  have hone : ∀ u ∈ [Value.string x], u.oneCell' = true := by intro u hu; simp at hu; subst hu; rfl
  have e1 : decide ((1 : Int) = 0) = false := rfl
  have e2 : decide ((n : Int) = n) = true := by simp
  cases hA' : A with
  | none =>
    obtain ⟨rfl, rfl⟩ := hA hA'
    subst hA'
    have HN := Lib.hid hnews; clear hnews
    have HO := Lib.hid hone; clear hone
    have HW := Lib.hid hown; clear hown
    clear hx hA
    go_enter Tryz.func78, Tryz.ntmps78
    go_wp2_with (first | (at_builtin; refine wpList_append_lies _ rfl (.tmp 23) (.tmp 24) 44 rfl 0 9 i0 (.string ⟨#[]⟩) 1 16 Tryz.underlying44 hi hz0 hz1 hz2 rfl (by decide) (.slice none 0 0) 0 xs rfl HW.out ⟨g, 0, none⟩ 1 c' [.string x] rfl rfl HN.out HO.out (by decide) ?b1 ?b2 (Nat.zero_le _) _ rfl ?_))
    case b1 => unfold maxLen; omega
    intro k c2 w1 hown1 hgrow hor hk
    have hor' : (none : Option Addr).map (·.block) = some k ∨ k = w.heap.size := .inr (by rcases hor with h | h; cases h; exact h)
    have hc : Chg (fun i => (none : Option Addr).map (·.block) = some i) w w1 := (Chg.of_grown hgrow).mono (fun i _ h => by cases h)
    try simp only [Nat.zero_add] at hown1
    clear hgrow hor hk
    have HOwn := Lib.hid hown1; clear hown1
    have HC := Lib.hid hc; clear hc
    go_wp2
    go_ret
    exact ⟨k, c2, by simp, HOwn.out, hor', HC.out⟩
  | some a =>
    subst hA'
    obtain ⟨b, rfl⟩ : ∃ b, a = ⟨b, 0, none⟩ := by
      rcases hown.2 with ⟨h, _⟩ | ⟨b, _, _, h, _⟩
      · cases h
      · cases h; exact ⟨b, rfl⟩
    have HN := Lib.hid hnews; clear hnews
    have HO := Lib.hid hone; clear hone
    have HW := Lib.hid hown; clear hown
    clear hx hA
    have e3 : 0 ≤ (n : Int) := by omega
    have e4 : (n : Int) ≤ cap := by omega
    by_cases hcn : cap = n
    · go_enter Tryz.func78, Tryz.ntmps78
      go_wp2_with (first | (at_builtin; refine wpList_append_lies _ rfl (.tmp 23) (.tmp 24) 44 rfl 0 9 i0 (.string ⟨#[]⟩) 1 16 Tryz.underlying44 hi hz0 hz1 hz2 rfl (by decide) (.slice (some ⟨b, 0, none⟩) n cap) n xs rfl HW.out ⟨g, 0, none⟩ 1 c' [.string x] rfl rfl HN.out HO.out (by decide) ?b3 ?b4 (Nat.zero_le _) _ rfl ?_))
      case b3 => unfold maxLen; omega
      case b4 => omega
      intro k c2 w1 hown1 hgrow hor hk
      have hor' : (some (⟨b, 0, none⟩ : Addr)).map (·.block) = some k ∨ k = w.heap.size := by simpa [Value.ownBlock] using hor
      have hc : Chg (fun i => (some (⟨b, 0, none⟩ : Addr)).map (·.block) = some i) w w1 := (Chg.of_grown hgrow).mono (fun i _ h => by simpa [Value.ownBlock] using h.symm)
      clear hgrow hor hk
      have HOwn := Lib.hid hown1; clear hown1
      have HC := Lib.hid hc; clear hc
      go_wp2
      go_ret
      exact ⟨k, c2, by simp, HOwn.out, hor', HC.out⟩
    · go_enter Tryz.func78, Tryz.ntmps78
      go_wp2_with (first | (at_builtin; refine wpList_append_lies _ rfl (.tmp 23) (.tmp 24) 44 rfl 0 9 i0 (.string ⟨#[]⟩) 1 16 Tryz.underlying44 hi hz0 hz1 hz2 rfl (by decide) (.slice (some ⟨b, 0, none⟩) n cap) n xs rfl HW.out ⟨g, 0, none⟩ 1 c' [.string x] rfl rfl HN.out HO.out (by decide) ?b5 ?b6 (Nat.zero_le _) _ rfl ?_))
      case b5 => unfold maxLen; omega
      case b6 => omega
      intro k c2 w1 hown1 hgrow hor hk
      have hor' : (some (⟨b, 0, none⟩ : Addr)).map (·.block) = some k ∨ k = w.heap.size := by simpa [Value.ownBlock] using hor
      have hc : Chg (fun i => (some (⟨b, 0, none⟩ : Addr)).map (·.block) = some i) w w1 := (Chg.of_grown hgrow).mono (fun i _ h => by simpa [Value.ownBlock] using h.symm)
      clear hgrow hor hk
      have HOwn := Lib.hid hown1; clear hown1
      have HC := Lib.hid hc; clear hc
      go_wp2
      go_ret
      exact ⟨k, c2, by simp, HOwn.out, hor', HC.out⟩
end Go.Proofs.YtfkfeoocglcjgaaGreatDoor
