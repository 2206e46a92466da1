/- The acts; Do. -/
import Derived.Test.YtfkfeoocglcjgaaGreatDoorVDo
set_option linter.unusedVariables false
set_option linter.unusedSimpArgs false
namespace Go.Proofs.YtfkfeoocglcjgaaGreatDoor
open Go.RowKit

structure ActD where
  kind : Int
  path : ByteArray
  mode : Int
  A : Option Addr
  cap : Nat
  data : List UInt8
  target : ByteArray
instance : Inhabited ActD := ⟨⟨0, ⟨#[]⟩, 0, none, 0, [], ⟨#[]⟩⟩⟩
def ActD.cells (a : ActD) : List Value := [.int .i64 a.kind, .string a.path, .int .i64 a.mode, .slice a.A a.data.length a.cap, .string a.target]
def ActD.val (a : ActD) : Value := .agg #[.int .i64 a.kind, .string a.path, .int .i64 a.mode, .slice a.A a.data.length a.cap, .string a.target]
structure ActOk (W : World) (a : ActD) : Prop where
  rd : Rd W a.A (by8 a.data)
  nil : a.A = none → a.data.length = 0
  psz : a.path.size ≤ 140737488355328
  tsz : a.target.size ≤ 140737488355328
  dsz : a.data.length ≤ 140737488355328
theorem by8_ne {l : List UInt8} (h : l ≠ []) : by8 l ≠ [] := by unfold by8; simpa using h
theorem rd_lt {W : World} {A : Option Addr} {l : List UInt8} (h : Rd W A (by8 l)) (hne : l ≠ []) : ∀ ad, A = some ad → ad.block < W.heap.size := by
  intro ad e
  rcases h with h | ⟨g, off, rfl, h⟩
  · exact absurd h (by8_ne hne)
  · cases e
    cases l with
    | nil => exact absurd rfl hne
    | cons x t => exact World.block_lt_of_cell? W _ (h 0 (.int .u8 (x.toNat : Int)) (by simp [by8]))
theorem ActOk.chg {W w : World} {a : ActD} (h : ActOk W a) (c : Chg (fun _ => False) W w) : ActOk w a := ⟨h.rd.chg c (fun _ _ h => h), h.nil, h.psz, h.tsz, h.dsz⟩

def PFS.doErr (P : PFS) (a : ActD) : Int :=
  if a.kind = 0 then P.makeErr a.path.data.toList 0 a.mode [] else if a.kind = 1 then P.makeErr a.path.data.toList 1 a.mode [] else if a.kind = 2 then P.makeErr a.path.data.toList 2 511 a.target.data.toList
  else if a.kind = 3 then P.makeErr a.path.data.toList 4 a.mode [] else if a.kind = 4 then P.linkErr a.path.data.toList a.target.data.toList else if a.kind = 5 then P.findErr a.path.data.toList else 0
def DoStep (P : PFS) (a : ActD) (P' : PFS) : Prop :=
  if a.kind = 0 then MakeStep P a.path.data.toList 0 a.mode ⟨#[]⟩ [] P' else if a.kind = 1 then MakeStep P a.path.data.toList 1 a.mode ⟨#[]⟩ a.data P' else if a.kind = 2 then MakeStep P a.path.data.toList 2 511 a.target [] P'
  else if a.kind = 3 then MakeStep P a.path.data.toList 4 a.mode ⟨#[]⟩ [] P' else if a.kind = 4 then LinkStep P a.path.data.toList a.target.data.toList P' else if a.kind = 5 then ChownStep P a.path.data.toList a.mode a.data.length P' else P' = P

/-- What Do promises. -/
def DoPost (w : World) (B : Nat) (P : PFS) (O : Nat → Prop) (a : ActD) (e : Ending) (w' : World) : Prop :=
  e = .returned (.int .i64 (P.doErr a)) ∧ ∃ P' O', HasFS w' B P' O' ∧ Next w w' O O' ∧ DoStep P a P'

theorem Next.from {w w1 w2 : World} {O O' : Nat → Prop} (h : Chg (fun _ => False) w w1) (k : Next w1 w2 O O') : Next w w2 O O' := (Next.of_chg h).trans k

set_option maxRecDepth 100000 in
set_option maxHeartbeats 4000000 in
theorem Do_fs {w W : World} {B : Nat} {P : PFS} {O : Nat → Prop} (h : HasFS w B P O) (a : ActD) (ha : ActOk w a) (hO : ∀ k, O k → W.heap.size ≤ k) (hoff : a.data ≠ [] → ∀ ad, a.A = some ad → ad.block < W.heap.size) (hd : a.data.length ≤ 100000000) (hn : P.n ≤ 100000) (hk : Keys w) :
    Calls Tryz.prog 10 #[.pointer (some ⟨B, 0, none⟩), a.val] w (DoPost w B P O a) := by
  have hc0 : Chg (fun _ => False) w (w.alloc (.cells #[.int .i64 a.kind, .string a.path, .int .i64 a.mode, .slice a.A a.data.length a.cap, .string a.target] 40)) := (Chg.refl _ w).alloc _
  have h2 := h.chg hc0 (fun _ _ h => h)
  have ha2 := ha.chg hc0
  have hk2 := hk.chg hc0 (fun h => h)
  have hps : a.path.size < 4611686018427387904 := by have := ha.psz; omega
  have hpm : a.path.size ≤ maxLen := by have := ha.psz; unfold maxLen; omega
  have htm : a.target.size ≤ maxLen := by have := ha.tsz; unfold maxLen; omega
  have hof2 : a.data ≠ [] → Off a.A O := fun hne ad e hh => by have := hoff hne ad e; have := hO _ hh; omega
  have k0 := fun (q : a.kind = 0) => Mkdir_fs h2 a.path a.mode hps hn
  have k1 := fun (q : a.kind = 1) => Create_fs h2 a.path a.mode a.A a.data.length a.cap a.data hps hn rfl hd ha2.rd ha2.nil hof2
  have k2 := fun (q : a.kind = 2) => Symlink_fs h2 a.path a.target hps hn hk2 htm
  have k3 := fun (q : a.kind = 3) => Mknod_fs h2 a.path a.mode hps hn
  have k4 := fun (q : a.kind = 4) => Link_fs h2 a.path a.target hps htm hn
  have k5 := fun (q : a.kind = 5) => Chown_fs h2 a.path a.mode a.data.length hpm
  have H0 := Lib.hid hc0
  have HH := Lib.hid h2
  clear h ha hk h2 ha2 hk2 hps hpm htm hof2 hoff hO hc0
  obtain ⟨kind, path, mode, A, cap, data, target⟩ := a
  simp only [ActD.val] at *
  by_cases e0 : kind = 0
  · subst e0
    have K := Lib.hid (k0 rfl); clear k0 k1 k2 k3 k4 k5
    go_enter Tryz.func10, Tryz.ntmps10
    go_wp2_with (go_at_call 28; refine K.out.mono ?_; rintro e w' ⟨rfl, hp⟩; have HP := Lib.hid hp; clear hp)
    go_ret
    obtain ⟨P', O', g1, g2, g3⟩ := HP.out
    exact ⟨rfl, P', O', g1, Next.from H0.out g2, g3⟩
  by_cases e1 : kind = 1
  · subst e1
    have K := Lib.hid (k1 rfl); clear k0 k1 k2 k3 k4 k5 e0
    go_enter Tryz.func10, Tryz.ntmps10
    go_wp2_with (go_at_call 22; refine K.out.mono ?_; rintro e w' ⟨rfl, hp⟩; have HP := Lib.hid hp; clear hp)
    go_ret
    obtain ⟨P', O', g1, g2, g3⟩ := HP.out
    exact ⟨rfl, P', O', g1, Next.from H0.out g2, g3⟩
  by_cases e2 : kind = 2
  · subst e2
    have K := Lib.hid (k2 rfl); clear k0 k1 k2 k3 k4 k5 e0 e1
    go_enter Tryz.func10, Tryz.ntmps10
    go_wp2_with (go_at_call 29; refine K.out.mono ?_; rintro e w' ⟨rfl, hp⟩; have HP := Lib.hid hp; clear hp)
    go_ret
    obtain ⟨P', O', g1, g2, g3⟩ := HP.out
    exact ⟨rfl, P', O', g1, Next.from H0.out g2, g3⟩
  by_cases e3 : kind = 3
  · subst e3
    have K := Lib.hid (k3 rfl); clear k0 k1 k2 k3 k4 k5 e0 e1 e2
    go_enter Tryz.func10, Tryz.ntmps10
    go_wp2_with (go_at_call 30; refine K.out.mono ?_; rintro e w' ⟨rfl, hp⟩; have HP := Lib.hid hp; clear hp)
    go_ret
    obtain ⟨P', O', g1, g2, g3⟩ := HP.out
    exact ⟨rfl, P', O', g1, Next.from H0.out g2, g3⟩
  by_cases e4 : kind = 4
  · subst e4
    have K := Lib.hid (k4 rfl); clear k0 k1 k2 k3 k4 k5 e0 e1 e2 e3
    go_enter Tryz.func10, Tryz.ntmps10
    go_wp2_with (go_at_call 23; refine K.out.mono ?_; rintro e w' ⟨rfl, hp⟩; have HP := Lib.hid hp; clear hp)
    go_ret
    obtain ⟨P', O', g1, g2, g3⟩ := HP.out
    exact ⟨rfl, P', O', g1, Next.from H0.out g2, g3⟩
  by_cases e5 : kind = 5
  · subst e5
    have K := Lib.hid (k5 rfl); clear k0 k1 k2 k3 k4 k5 e0 e1 e2 e3 e4
    go_enter Tryz.func10, Tryz.ntmps10
    go_wp2_with (go_at_call 31; refine K.out.mono ?_; rintro e w' ⟨rfl, hp⟩; have HP := Lib.hid hp; clear hp)
    go_ret
    obtain ⟨P', g1, g2, g3⟩ := HP.out
    exact ⟨rfl, P', O, g1, Next.from H0.out g2, g3⟩
  have b0 : (kind == 0) = false := by simpa using e0
  have b1 : (kind == 1) = false := by simpa using e1
  have b2 : (kind == 2) = false := by simpa using e2
  have b3 : (kind == 3) = false := by simpa using e3
  have b4 : (kind == 4) = false := by simpa using e4
  have b5 : (kind == 5) = false := by simpa using e5
  have hE : P.doErr ⟨kind, path, mode, A, cap, data, target⟩ = 0 := by unfold PFS.doErr; simp [e0, e1, e2, e3, e4, e5]
  have hS : DoStep P ⟨kind, path, mode, A, cap, data, target⟩ P := by unfold DoStep; simp [e0, e1, e2, e3, e4, e5]
  have HE := Lib.hid hE; have HSt := Lib.hid hS
  clear k0 k1 k2 k3 k4 k5 e0 e1 e2 e3 e4 e5 hE hS
  go_enter Tryz.func10, Tryz.ntmps10
  go_wp2_with fail
  go_ret
  exact ⟨by rw [HE.out]; rfl, P, O, HH.out, Next.of_chg H0.out, HSt.out⟩

/-- The list of acts, as it lies in memory. -/
def ActsAt (W : World) (A : Option Addr) (l : List ActD) : Prop := l = [] ∨ ∃ g off, A = some ⟨g, off, none⟩ ∧ ∀ j x, l[j]? = some x → (∀ i u, x.cells[i]? = some u → W.cell? ⟨g, off + j * 5 + i, none⟩ = some u) ∧ ActOk W x

/-- The sum of the lengths. -/
def ActD.len (a : ActD) : Int := a.path.size + a.data.length + a.target.size
def sumLen (l : List ActD) : Int := (l.map ActD.len).sum
theorem sumLen_snoc (l : List ActD) (a : ActD) : sumLen (l ++ [a]) = sumLen l + a.len := by simp [sumLen]
def tooLarge (l : List ActD) : Bool := decide (40 < l.length) || decide (20000 < sumLen l)
end Go.Proofs.YtfkfeoocglcjgaaGreatDoor
