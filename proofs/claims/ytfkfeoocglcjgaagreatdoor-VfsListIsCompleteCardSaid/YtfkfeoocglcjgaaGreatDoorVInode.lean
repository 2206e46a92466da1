/- inode. -/
import Derived.Test.YtfkfeoocglcjgaaGreatDoorVPlace
import Derived.Test.YtfkfeoocglcjgaaGreatDoorVClone
set_option linter.unusedVariables false
set_option linter.unusedSimpArgs false
namespace Go.Proofs.YtfkfeoocglcjgaaGreatDoor
open Go.RowKit

theorem by8_one (l : List UInt8) : ∀ u ∈ by8 l, u.oneCell' = true := by
  intro u hu
  obtain ⟨b, _, rfl⟩ := List.mem_map.1 hu
  rfl

theorem rd_off {S : Nat → Prop} {w W : World} {A : Option Addr} {l : List UInt8} (h : Rd w A (by8 l)) (c : Chg S w W) (hS : l ≠ [] → Off A S) : Rd W A (by8 l) := by
  by_cases e : l = []
  · subst e; exact .inl rfl
  · exact h.chg c (hS e)

set_option maxRecDepth 100000 in
set_option maxHeartbeats 2000000 in
theorem inode_spec (B : Nat) (next step lists : Int) (rv mv : Value) (kind mode num0 links0 size0 uid mtime : Int) (target : ByteArray) (A : Option Addr) (n c : Nat) (data : List UInt8) (w : World)
    (hB : Blk w B #[.int .i64 next, .int .i64 step, rv, .int .i64 lists, mv] 68) (hn : data.length = n) (hb : n ≤ 100000000) (hd : Rd w A (by8 data)) (hA : A = none → n = 0) (hoff : data ≠ [] → Off A (fun k => k = B))
    (hw : IntKind.i64.wrap (next + step) = next + step) :
    Calls Tryz.prog 27 #[.pointer (some ⟨B, 0, none⟩), .agg #[.int .i64 kind, .int .i64 mode, .int .i64 num0, .int .i64 links0, .int .i64 size0, .string target, .int .i64 uid, .int .i64 mtime], .slice A n c] w fun e w' =>
      ∃ nb A' c', e = .returned (.pointer (some ⟨nb, 0, none⟩)) ∧ w.heap.size ≤ nb ∧
        Blk w' nb #[.int .i64 kind, .int .i64 mode, .int .i64 next, .int .i64 1, .int .i64 n, .string target, .int .i64 uid, .int .i64 mtime, .slice A' n c', .slice none 0 0] 91 ∧
        w'.ownsRow 0 5 1 (.slice A' n c') n (by8 data) ∧ (∀ k, (Value.slice A' n c').ownBlock = some k → w.heap.size ≤ k ∧ k ≠ nb) ∧
        Blk w' B #[.int .i64 (next + step), .int .i64 step, rv, .int .i64 lists, mv] 68 ∧ Chg (fun k => k = B) w w' := by
  have b0 : w.cell? ⟨B, 0, none⟩ = some (.int .i64 next) := hB.cell 0
  have b1 : w.cell? ⟨B, 1, none⟩ = some (.int .i64 step) := hB.cell 1
  have f0 := hB.free 0
  have hlt := hB.lt
  have HB := Lib.hid hB; clear hB
  have hcall := fun W (hW : Chg (fun k => k = B) w W) => clone8_any A n c (by8 data) W (by rw [by8_length]; exact hn) hb (by8_one data) (rd_off hd hW hoff) hA
  have HC := Lib.hid hcall; clear hcall hd hoff hA
  have b0' : ∀ o1, (w.alloc o1).cell? ⟨B, 0, none⟩ = some (.int .i64 next) := fun o1 => (HB.out.alloc o1).cell 0
  have b1' : ∀ o1, (w.alloc o1).cell? ⟨B, 1, none⟩ = some (.int .i64 step) := fun o1 => (HB.out.alloc o1).cell 1
  have f0' : ∀ o1, (w.alloc o1).frozen? ⟨B, 0, none⟩ = false := fun o1 => (HB.out.alloc o1).free 0
  go_enter Tryz.func27, Tryz.ntmps27
  go_wp2_with fail
  go_region
  go_wp2_with fail
  have hc0 : Chg (fun k => k = B) w ((w.setCell ⟨B, 0, none⟩ (.int .i64 (next + step))).alloc (.cells #[.int .i64 kind, .int .i64 mode, .int .i64 next, .int .i64 1, .int .i64 n, .string target, .int .i64 uid, .int .i64 mtime] 52)) := ((Chg.refl (fun k => k = B) w).setCell ⟨B, 0, none⟩ _ (fun _ => rfl)).alloc _
  have hB1 := (HB.out.set 0 (.int .i64 (next + step))).alloc (.cells #[.int .i64 kind, .int .i64 mode, .int .i64 next, .int .i64 1, .int .i64 n, .string target, .int .i64 uid, .int .i64 mtime] 52)
  have hI1 := Blk.new (w.setCell ⟨B, 0, none⟩ (.int .i64 (next + step))) #[.int .i64 kind, .int .i64 mode, .int .i64 next, .int .i64 1, .int .i64 n, .string target, .int .i64 uid, .int .i64 mtime] 52
  have hsz : (w.setCell ⟨B, 0, none⟩ (.int .i64 (next + step))).heap.size = w.heap.size := by simp
  rw [hsz] at hI1
  have H1 := Lib.hid (And.intro hc0 hB1); clear hc0 hB1 b0 b1 f0 b0' b1' f0' hw
  have i0 := hI1.cell 0
  have i1 := hI1.cell 1
  have i2 := hI1.cell 2
  have i3 := hI1.cell 3
  have i4 := hI1.cell 4
  have i5 := hI1.cell 5
  have i6 := hI1.cell 6
  have i7 := hI1.cell 7
  simp only [List.getElem?_toArray, List.getElem?_cons_zero, List.getElem?_cons_succ] at i0 i1 i2 i3 i4 i5 i6 i7
  generalize (w.setCell ⟨B, 0, none⟩ (.int .i64 (next + step))).alloc (.cells #[.int .i64 kind, .int .i64 mode, .int .i64 next, .int .i64 1, .int .i64 n, .string target, .int .i64 uid, .int .i64 mtime] 52) = W1 at H1 hI1 i0 i1 i2 i3 i4 i5 i6 i7 ⊢
  clear hI1
  go_region_held3 (fun W => W.cell? ⟨w.heap.size, 0, none⟩ = some (.int .i64 kind) ∧ W.cell? ⟨w.heap.size, 1, none⟩ = some (.int .i64 mode) ∧ W.cell? ⟨w.heap.size, 2, none⟩ = some (.int .i64 next) ∧ W.cell? ⟨w.heap.size, 3, none⟩ = some (.int .i64 1) ∧ W.cell? ⟨w.heap.size, 4, none⟩ = some (.int .i64 n) ∧ W.cell? ⟨w.heap.size, 5, none⟩ = some (.string target) ∧ W.cell? ⟨w.heap.size, 6, none⟩ = some (.int .i64 uid) ∧ W.cell? ⟨w.heap.size, 7, none⟩ = some (.int .i64 mtime))
    (first | go_keep | exact ⟨cell_keep hch1 i0, cell_keep hch1 i1, cell_keep hch1 i2, cell_keep hch1 i3, cell_keep hch1 i4, cell_keep hch1 i5, cell_keep hch1 i6, cell_keep hch1 i7⟩)
    (first | (go_at_call 52; refine (HC.out _ (H1.out.1.drewN _)).mono ?_; rintro e w1 ⟨A', c', rfl, h1, hch1, h3⟩) | (go_at_call 52; refine (HC.out _ (H1.out.1.drew.drew)).mono ?_; rintro e w1 ⟨A', c', rfl, h1, hch1, h3⟩))
  obtain ⟨hc0, hB1⟩ := H1.out
  have hch := hch1.of_drew.of_drew
  have hc1 : Chg (fun k => k = B) w w1 := hc0.trans hch (fun _ _ h => h) (fun _ _ h => h.elim)
  have hB2 := hB1.chg hch (fun h => h)
  have hs : w.heap.size ≤ W1.heap.size := hc0.size
  have h3' : ∀ k, (Value.slice A' n c').ownBlock = some k → w.heap.size ≤ k ∧ k ≠ w1.heap.size := fun k hk => ⟨Nat.le_trans hs (h3 k hk), Nat.ne_of_lt (h1.lt k hk).2⟩
  have H := Lib.hid (And.intro h1 (And.intro h3' (And.intro hB2 hc1)))
  clear h1 h3 h3' hB2 hc1 hB1 hc0 H1 hch hch1 hs i0 i1 i2 i3 i4 i5 i6 i7
  go_wp2
  go_ret
  obtain ⟨h1, h3, hB2, hc1⟩ := H.out
  exact ⟨w1.heap.size, A', c', rfl, hc1.size, Blk.new w1 _ _, own_chg h1 ((Chg.refl (fun _ => False) _).alloc _) (fun _ _ h => h), h3, by simpa using hB2.alloc _, hc1.alloc _⟩
end Go.Proofs.YtfkfeoocglcjgaaGreatDoor
