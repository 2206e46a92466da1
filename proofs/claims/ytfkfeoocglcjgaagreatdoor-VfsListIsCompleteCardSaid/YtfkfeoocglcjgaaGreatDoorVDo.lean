/- The file system's methods, told without memory; Do. -/
import Derived.Test.YtfkfeoocglcjgaaGreatDoorVFS
set_option linter.unusedVariables false
set_option linter.unusedSimpArgs false
namespace Go.Proofs.YtfkfeoocglcjgaaGreatDoor
open Go.RowKit

/-- The metadata of a file. -/
structure Info8 where
  kind : Int
  mode : Int
  num : Int
  links : Int
  size : Int
  target : ByteArray
  uid : Int
  mtime : Int

def Info8.val (i : Info8) : Value := .agg #[.int .i64 i.kind, .int .i64 i.mode, .int .i64 i.num, .int .i64 i.links, .int .i64 i.size, .string i.target, .int .i64 i.uid, .int .i64 i.mtime]
def Info8.zero : Info8 := ⟨0, 0, 0, 0, 0, ⟨#[]⟩, 0, 0⟩
def PIno.stat (i : PIno) : Info8 := ⟨i.kind, i.mode, i.num, i.links, i.size, i.target, i.uid, i.mtime⟩
def PFS.stat (P : PFS) (p : List UInt8) : Info8 := match P.F p with | none => Info8.zero | some b => match P.ino b with | none => Info8.zero | some i => i.stat
def PFS.findErr (P : PFS) (p : List UInt8) : Int := if (P.F p).isSome then 0 else 19

theorem Lstat_fs {w : World} {B : Nat} {P : PFS} {O : Nat → Prop} (h : HasFS w B P O) (p : ByteArray) (hs : p.size ≤ maxLen) :
    Calls Tryz.prog 16 #[.pointer (some ⟨B, 0, none⟩), .string p] w fun e w' => e = .returned (.tuple #[(P.stat p.data.toList).val, .int .i64 (P.findErr p.data.toList)]) ∧ Chg (fun _ => False) w w' := by
  obtain ⟨⟨S, role, h1, rfl, rfl, h4⟩, h5⟩ := h
  have eF : S.pure.F = S.F := rfl
  unfold PFS.stat PFS.findErr
  rw [eF]
  cases hF : S.F p.data.toList with
  | none => exact Lstat_none p w h1 hs hF
  | some b =>
    obtain ⟨i, hi⟩ := h1.mem _ _ hF
    simp only [pure_ino hi, Option.isSome_some, if_true]
    exact Lstat_some p w h1 hs b i hF hi

def PFS.readErr (P : PFS) (p : List UInt8) : Int := match P.kindAt p with | none => 19 | some k => if k = 1 then 0 else 8
def PFS.readData (P : PFS) (p : List UInt8) : List UInt8 := match P.F p with | none => [] | some b => match P.ino b with | none => [] | some i => if i.kind = 1 then i.data else []

set_option maxRecDepth 100000 in
theorem ReadFile_none {S : FSt} {role : Nat → Option (Nat × Nat)} (p : ByteArray) (w : World) (h : IsFS w S role) (hs : p.size ≤ maxLen) (hF : S.F p.data.toList = none) :
    Calls Tryz.prog 35 #[.pointer (some ⟨S.B, 0, none⟩), .string p] w fun e w' => e = .returned (.tuple #[.slice none 0 0, .int .i64 19]) ∧ w' = w := by
  have hf := find_spec p w h hs
  rw [hF] at hf
  simp only [Option.isSome_none, ptrOf, Option.map_none, Bool.false_eq_true, if_false] at hf
  clear h hs hF
  go_enter Tryz.func35, Tryz.ntmps35
  go_wp2_with (go_at_call 38; refine hf.mono ?_; rintro e w' ⟨rfl, rfl⟩)
  go_ret2
  exact ⟨rfl, rfl⟩

set_option maxRecDepth 100000 in
theorem ReadFile_kind {S : FSt} {role : Nat → Option (Nat × Nat)} (p : ByteArray) (w : World) (h : IsFS w S role) (hs : p.size ≤ maxLen) (b : Nat) (i : Ino) (hF : S.F p.data.toList = some b) (hi : S.ino b = some i) (hk : i.kind ≠ 1) :
    Calls Tryz.prog 35 #[.pointer (some ⟨S.B, 0, none⟩), .string p] w fun e w' => e = .returned (.tuple #[.slice none 0 0, .int .i64 8]) ∧ w' = w := by
  have hf := find_spec p w h hs
  have c0 := kindCell (h.inos b i hi)
  rw [hF] at hf
  simp only [Option.isSome_some, ptrOf, Option.map_some, if_true] at hf
  have t5 : (i.kind == 1) = false := by simpa using hk
  have t6 : (i.kind != 1) = true := by simpa using hk
  clear h hs hF hi hk
  go_enter Tryz.func35, Tryz.ntmps35
  go_wp2_with (go_at_call 38; refine hf.mono ?_; rintro e w' ⟨rfl, rfl⟩)
  go_ret2
  exact ⟨rfl, rfl⟩

theorem ReadFile_fs {w : World} {B : Nat} {P : PFS} {O : Nat → Prop} (h : HasFS w B P O) (p : ByteArray) (hs : p.size ≤ maxLen) :
    Calls Tryz.prog 35 #[.pointer (some ⟨B, 0, none⟩), .string p] w fun e w' => ∃ A c, e = .returned (.tuple #[.slice A (P.readData p.data.toList).length c, .int .i64 (P.readErr p.data.toList)]) ∧
      w'.ownsRow 0 5 1 (.slice A (P.readData p.data.toList).length c) (P.readData p.data.toList).length (by8 (P.readData p.data.toList)) ∧ (∀ k, (Value.slice A (P.readData p.data.toList).length c).ownBlock = some k → w.heap.size ≤ k) ∧ Chg (fun _ => False) w w' := by
  obtain ⟨⟨S, role, h1, rfl, rfl, h4⟩, h5⟩ := h
  have eF : S.pure.F = S.F := rfl
  unfold PFS.readData PFS.readErr PFS.kindAt
  rw [eF]
  cases hF : S.F p.data.toList with
  | none =>
    refine (ReadFile_none p w h1 hs hF).mono ?_
    rintro e w' ⟨rfl, rfl⟩
    exact ⟨none, 0, rfl, World.ownsRow_nil _ _ _ _, (fun k hk => by cases hk), Chg.refl _ _⟩
  | some b =>
    obtain ⟨i, hi⟩ := h1.mem _ _ hF
    have hd := h5.dt b i.pure (pure_ino hi)
    simp only [pure_ino hi, Option.bind_some, Option.map_some]
    have e1 : i.pure.kind = i.kind := rfl
    have e2 : i.pure.data = i.data := rfl
    rw [e1, e2]
    by_cases hk : i.kind = 1
    · rw [if_pos hk, if_pos hk]
      exact ReadFile_file p w h1 hs b i hF hi hk hd.1
    · rw [if_neg hk, if_neg hk]
      refine (ReadFile_kind p w h1 hs b i hF hi hk).mono ?_
      rintro e w' ⟨rfl, rfl⟩
      exact ⟨none, 0, rfl, World.ownsRow_nil _ _ _ _, (fun k hk => by cases hk), Chg.refl _ _⟩

set_option maxRecDepth 100000 in
theorem Chown_none {S : FSt} {role : Nat → Option (Nat × Nat)} (p : ByteArray) (u m : Int) (w : World) (h : IsFS w S role) (hs : p.size ≤ maxLen) (hF : S.F p.data.toList = none) :
    Calls Tryz.prog 31 #[.pointer (some ⟨S.B, 0, none⟩), .string p, .int .i64 u, .int .i64 m] w fun e w' => e = .returned (.int .i64 19) ∧ w' = w := by
  have hf := find_spec p w h hs
  rw [hF] at hf
  simp only [Option.isSome_none, ptrOf, Option.map_none, Bool.false_eq_true, if_false] at hf
  clear h hs hF
  go_enter Tryz.func31, Tryz.ntmps31
  go_wp2_with (go_at_call 38; refine hf.mono ?_; rintro e w' ⟨rfl, rfl⟩)
  go_ret
  exact ⟨rfl, rfl⟩

theorem PFS.Inv.turn {P : PFS} (h : P.Inv) (b : Nat) (i j : PIno) (hi : P.ino b = some i) (hn : j.names = i.names) (hd : j.data = i.data) (hz : j.size = i.size) (hl : j.links = i.links) : (P.turn b j).Inv := by
  refine ⟨h.st, h.nx, ?_, ?_, ?_, ?_⟩
  · intro c k hk
    dsimp only [PFS.turn] at hk
    split at hk
    · cases hk; rw [hn]; exact h.nm _ _ hi
    · exact h.nm _ _ hk
  · intro c k hk
    dsimp only [PFS.turn] at hk
    split at hk
    · cases hk; rw [hd, hz]; exact h.dt _ _ hi
    · exact h.dt _ _ hk
  · intro c k hk
    dsimp only [PFS.turn] at hk
    split at hk
    · cases hk; rw [hl]; exact h.lk _ _ hi
    · exact h.lk _ _ hk
  · intro p c hc
    obtain ⟨k, hk⟩ := h.mem p c hc
    dsimp only [PFS.turn]
    split
    · exact ⟨_, rfl⟩
    · exact ⟨k, hk⟩

theorem Chown_fs {w : World} {B : Nat} {P : PFS} {O : Nat → Prop} (h : HasFS w B P O) (p : ByteArray) (u m : Int) (hs : p.size ≤ maxLen) :
    Calls Tryz.prog 31 #[.pointer (some ⟨B, 0, none⟩), .string p, .int .i64 u, .int .i64 m] w fun e w' =>
      e = .returned (.int .i64 (P.findErr p.data.toList)) ∧ ∃ P', HasFS w' B P' O ∧ Next w w' O O ∧ ChownStep P p.data.toList u m P' := by
  have h' := h
  obtain ⟨⟨S, role, h1, rfl, rfl, h4⟩, h5⟩ := h
  have eF : S.pure.F = S.F := rfl
  unfold PFS.findErr ChownStep
  rw [eF]
  cases hF : S.F p.data.toList with
  | none =>
    refine (Chown_none p u m w h1 hs hF).mono ?_
    rintro e w' ⟨rfl, rfl⟩
    exact ⟨rfl, S.pure, h', Next.refl _ _, rfl⟩
  | some b =>
    obtain ⟨i, hi⟩ := h1.mem _ _ hF
    refine (Chown_some p u m w h1 hs b i hF hi).mono ?_
    rintro e w' ⟨rfl, g1, g2⟩
    have hT := h1.turned b i { i with uid := u, mtime := m } hi rfl rfl rfl rfl g1 g2
    refine ⟨rfl, _, ⟨⟨_, role, hT, rfl, turned_pure _ _ _, h4⟩, ?_⟩, ⟨g2.mono (fun k _ e => (h4 k).2 ⟨_, e ▸ h1.rI b i hi⟩), fun k hk => .inl hk⟩, ⟨i.pure, pure_ino hi, rfl⟩⟩
    exact h5.turn b i.pure _ (pure_ino hi) rfl rfl rfl rfl

theorem Rd_nil (w : World) : Rd w none (by8 []) := .inl rfl

section
variable {w : World} {B : Nat} {P : PFS} {O : Nat → Prop}
theorem Mkdir_fs (h : HasFS w B P O) (p : ByteArray) (mode : Int) (hs : p.size < 4611686018427387904) (hn : P.n ≤ 100000) :
    Calls Tryz.prog 28 #[.pointer (some ⟨B, 0, none⟩), .string p, .int .i64 mode] w fun e w' =>
      e = .returned (.int .i64 (P.makeErr p.data.toList 0 mode [])) ∧ ∃ P' O', HasFS w' B P' O' ∧ Next w w' O O' ∧ MakeStep P p.data.toList 0 mode ⟨#[]⟩ [] P' := by
  have hc := make_fs h p 0 mode ⟨#[]⟩ none 0 0 [] hs hn (fun e => by simp at e) rfl (by omega) (Rd_nil w) (fun _ => rfl) (fun h => absurd rfl h)
  have HC := Lib.hid hc; clear hc h
  go_enter Tryz.func28, Tryz.ntmps28
  go_wp2_with (go_at_call 47; refine HC.out.mono ?_; rintro e w' ⟨rfl, hp⟩; have HP := Lib.hid hp; clear hp)
  go_ret
  exact ⟨rfl, HP.out⟩
theorem Create_fs (h : HasFS w B P O) (p : ByteArray) (mode : Int) (A : Option Addr) (n c : Nat) (data : List UInt8) (hs : p.size < 4611686018427387904) (hn : P.n ≤ 100000)
    (hdl : data.length = n) (hdb : n ≤ 100000000) (hd : Rd w A (by8 data)) (hA : A = none → n = 0) (hoff : data ≠ [] → Off A O) :
    Calls Tryz.prog 22 #[.pointer (some ⟨B, 0, none⟩), .string p, .int .i64 mode, .slice A n c] w fun e w' =>
      e = .returned (.int .i64 (P.makeErr p.data.toList 1 mode [])) ∧ ∃ P' O', HasFS w' B P' O' ∧ Next w w' O O' ∧ MakeStep P p.data.toList 1 mode ⟨#[]⟩ data P' := by
  have hc := make_fs h p 1 mode ⟨#[]⟩ A n c data hs hn (fun e => by simp at e) hdl hdb hd hA hoff
  have HC := Lib.hid hc; clear hc h hd hoff hA hdl
  go_enter Tryz.func22, Tryz.ntmps22
  go_wp2_with (go_at_call 47; refine HC.out.mono ?_; rintro e w' ⟨rfl, hp⟩; have HP := Lib.hid hp; clear hp)
  go_ret
  exact ⟨rfl, HP.out⟩
theorem Symlink_fs (h : HasFS w B P O) (p t : ByteArray) (hs : p.size < 4611686018427387904) (hn : P.n ≤ 100000) (hk : Keys w) (ht : t.size ≤ maxLen) :
    Calls Tryz.prog 29 #[.pointer (some ⟨B, 0, none⟩), .string p, .string t] w fun e w' =>
      e = .returned (.int .i64 (P.makeErr p.data.toList 2 511 t.data.toList)) ∧ ∃ P' O', HasFS w' B P' O' ∧ Next w w' O O' ∧ MakeStep P p.data.toList 2 511 t [] P' := by
  have hc := make_fs h p 2 511 t none 0 0 [] hs hn (fun _ => ⟨hk, ht⟩) rfl (by omega) (Rd_nil w) (fun _ => rfl) (fun h => absurd rfl h)
  have HC := Lib.hid hc; clear hc h hk
  go_enter Tryz.func29, Tryz.ntmps29
  go_wp2_with (go_at_call 47; refine HC.out.mono ?_; rintro e w' ⟨rfl, hp⟩; have HP := Lib.hid hp; clear hp)
  go_ret
  exact ⟨rfl, HP.out⟩
theorem Mknod_fs (h : HasFS w B P O) (p : ByteArray) (mode : Int) (hs : p.size < 4611686018427387904) (hn : P.n ≤ 100000) :
    Calls Tryz.prog 30 #[.pointer (some ⟨B, 0, none⟩), .string p, .int .i64 mode] w fun e w' =>
      e = .returned (.int .i64 (P.makeErr p.data.toList 4 mode [])) ∧ ∃ P' O', HasFS w' B P' O' ∧ Next w w' O O' ∧ MakeStep P p.data.toList 4 mode ⟨#[]⟩ [] P' := by
  have hc := make_fs h p 4 mode ⟨#[]⟩ none 0 0 [] hs hn (fun e => by simp at e) rfl (by omega) (Rd_nil w) (fun _ => rfl) (fun h => absurd rfl h)
  have HC := Lib.hid hc; clear hc h
  go_enter Tryz.func30, Tryz.ntmps30
  go_wp2_with (go_at_call 47; refine HC.out.mono ?_; rintro e w' ⟨rfl, hp⟩; have HP := Lib.hid hp; clear hp)
  go_ret
  exact ⟨rfl, HP.out⟩
end
end Go.Proofs.YtfkfeoocglcjgaaGreatDoor
