/- The law VfsCreateRules, walked. -/
import Derived.Test.YtfkfeoocglcjgaaDoorVAc
set_option linter.unusedVariables false
set_option linter.unusedSimpArgs false
namespace Go.Proofs.YtfkfeoocglcjgaaDoor
open Go.RowKit

structure CrRel (w0 wr : World) (B : Nat) (l : List ActD) (p : Value) : Prop where
  out : ∃ (k : Nat) (P : PFS) (O : Nat → Prop), p = .int .i64 k ∧ k ≤ l.length ∧ Mine w0 wr B P O ∧ P.n ≤ k + 1 ∧ P.rot = [] ∧ P.lists = 0

theorem find_cases (P : PFS) (p : List UInt8) : P.findErr p = 0 ∨ P.findErr p = 19 := by unfold PFS.findErr; split <;> simp
theorem stat_none {P : PFS} {p : List UInt8} (h : P.F p = none) : P.stat p = Info8.zero := by unfold PFS.stat; rw [h]
theorem kind_stat {P : PFS} {p : List UInt8} {k : Int} (h : P.kindAt p = some k) : (P.stat p).kind = k ∧ P.findErr p = 0 := by
  unfold PFS.kindAt at h
  cases hF : P.F p with
  | none => rw [hF] at h; cases h
  | some b =>
    rw [hF] at h
    cases hi : P.ino b with
    | none => simp [hi] at h
    | some i =>
      simp [hi] at h
      unfold PFS.stat PFS.findErr
      rw [hF]
      simp only [hi]
      exact ⟨h, rfl⟩
theorem kind_none {P : PFS} (hm : P.Inv) {p : List UInt8} (h : P.kindAt p = none) : P.F p = none := by
  cases hF : P.F p with
  | none => rfl
  | some b =>
    obtain ⟨i, hi⟩ := hm.mem _ _ hF
    unfold PFS.kindAt at h
    rw [hF] at h
    simp [hi] at h

/-- The new directory. -/
theorem made_stat {P P' : PFS} {p : List UInt8} {m : Int} (h : MakeStep P p 0 m ⟨#[]⟩ [] P') (h0 : P.makeErr p 0 m [] = 0) : P'.findErr p = 0 ∧ ((P'.stat p).kind = 0 ∧ (P'.stat p).mode = m ∧ (P'.stat p).links = 1) ∧ P'.listErr p = 0 ∧ P'.n ≤ P.n + 1 := by
  have hn := h.n
  unfold MakeStep at h
  rw [if_pos (show P.makeErr p 0 m (⟨#[]⟩ : ByteArray).data.toList = 0 from h0)] at h
  obtain ⟨pb, pi, nb, g1, g2, g3, rfl⟩ := h
  have hpn : nb ≠ pb := fun e => by rw [e, g2] at g3; cases g3
  have eF : ((P.add nb (newP 0 m P.next ⟨#[]⟩ [])).enter p pb nb).F p = some nb := by simp [PFS.enter]
  have eI : ((P.add nb (newP 0 m P.next ⟨#[]⟩ [])).enter p pb nb).ino nb = some (newP 0 m P.next ⟨#[]⟩ []) := by simp [PFS.enter, PFS.add, hpn]
  refine ⟨?_, ?_, ?_, hn⟩
  · unfold PFS.findErr; rw [eF]; rfl
  · unfold PFS.stat; rw [eF]; simp only [eI]; exact ⟨rfl, rfl, rfl⟩
  · have ek : (newP 0 m P.next ⟨#[]⟩ []).kind = 0 := rfl
    unfold PFS.listErr PFS.kindAt; rw [eF]; simp only [Option.bind_some, eI, Option.map_some, ek, if_true]

set_option maxRecDepth 100000 in
set_option maxHeartbeats 16000000 in
theorem create_law (A : Option Addr) (c : Nat) (l : List ActD) (path : ByteArray) (w : World) (h : ActsAt w A l) (hl : l.length ≤ 9223372036854775807) (hp : path.size ≤ 140737488355328) (hk : Keys w) :
    Calls Tryd.prog 5 #[.slice A l.length c, .string path] w fun e w' => e = .returned (.bool true) ∧ Chg (fun _ => False) w w' := by
  have HA := Lib.hid h
  have HK := Lib.hid hk; clear hk
  have HO := Lib.hid (Options_any 0 0 none 0 0 [] w rfl (.inl rfl) (by omega) (by omega) (by omega) (by omega) (by omega))
  have hO2 := HO.out; simp only [Int.add_zero] at hO2
  have HO := Lib.hid hO2; clear hO2 h
  go_enter Tryd.func5, Tryd.ntmps5
  go_wp2_with (go_at_call 8; refine HO.out.mono ?_; rintro e w1 ⟨A1, c1, rfl, o1, o2⟩)
  have hnew := New_fs 1 1 A1 0 c1 [] w1 rfl (by omega) (.inl rfl) (fun _ => rfl) (by decide)
  have H1 := Lib.hid o2
  clear o1 o2
  refine hnew.mono ?_
  rintro e w2 ⟨B, rb, O, rfl, h1, hc1, hO1⟩
  have HM := Lib.hid (show Mine w w2 B (rootP rb 1 1 []) O from ⟨h1, H1.out.trans hc1 (fun _ _ h => h) (fun _ _ h => h), fun k hk => Nat.le_trans H1.out.size (hO1 k hk)⟩)
  clear h1 hc1 hO1 hnew
  have htl := TooLarge_any A c l w2 (HA.out.chg HM.out.chg) hl
  have HT := Lib.hid htl; clear htl
  by_cases hbig : tooLarge l = true ∨ 3000 < path.size
  · have HB := Lib.hid hbig; clear hbig
    cases htb : tooLarge l with
    | true =>
      have e1 : tlNum l = 1 := by unfold tlNum; rw [htb]; rfl
      have HT2 := HT.out; rw [e1] at HT2
      have HT := Lib.hid HT2; clear HT2 e1 htb
      go_wp2_with (first | (go_at_call 9; refine HT.out.mono ?_; rintro e w3 ⟨rfl, c3⟩) | (go_at_call 10; refine (alive_any _).mono ?_; rintro e wz ⟨rfl, cz⟩))
      go_ret
      exact ⟨rfl, (HM.out.chg.trans (U := fun _ => False) c3 (fun _ _ h => h) (fun _ _ h => h)).trans cz (fun _ _ h => h) (fun _ _ h => h)⟩
    | false =>
      have e1 : tlNum l = 0 := by unfold tlNum; rw [htb]; rfl
      have hps : 3000 < path.size := by rcases HB.out with h | h; rw [htb] at h; cases h; exact h
      have t1 : decide ((3000 : Int) < path.size) = true := by simp; omega
      have t2 : (3000 : Int) < path.size := by omega
      have HT2 := HT.out; rw [e1] at HT2
      have HT := Lib.hid HT2; clear HT2 e1 htb
      go_wp2_with (first | (go_at_call 9; refine HT.out.mono ?_; rintro e w3 ⟨rfl, c3⟩) | (go_at_call 10; refine (alive_any _).mono ?_; rintro e wz ⟨rfl, cz⟩))
      go_ret
      exact ⟨rfl, (HM.out.chg.trans (U := fun _ => False) c3 (fun _ _ h => h) (fun _ _ h => h)).trans cz (fun _ _ h => h) (fun _ _ h => h)⟩
  · have htb : tooLarge l = false := by cases hh : tooLarge l with | false => rfl | true => exact absurd (.inl hh) hbig
    have hps : ¬ 3000 < path.size := fun h => hbig (.inr h)
    have e1 : tlNum l = 0 := by unfold tlNum; rw [htb]; rfl
    have t1 : decide ((3000 : Int) < path.size) = false := by simp; omega
    have HT2 := HT.out; rw [e1] at HT2
    have HT := Lib.hid HT2
    have HAB := Lib.hid (act_bounds HA.out htb)
    have hp3 : path.size ≤ 3000 := by omega
    clear HT2 e1 htb hbig hps
    go_wp2_with (first | (go_at_call 9; refine HT.out.mono ?_; rintro e w3 ⟨rfl, c3⟩; have HC3 := Lib.hid c3; clear c3))
    go_loopw [43] (fun p wr => CrRel w wr B l p) (fun p _ => l.length - (match p with | .int _ k => k.toNat | _ => 0))
    case atStart => exact ⟨0, _, O, rfl, Nat.zero_le _, HM.out.keep HC3.out, by simp [rootP], rfl, rfl⟩
    case round =>
      obtain ⟨k, P, O2, rfl, hkl, hm, hn, hrot, hls⟩ := hrel
      by_cases hkn : k < l.length
      · have hkb : IntKind.i64.wrap ((k : Int) + 1) = k + 1 := by rw [IntKind.wrap_i64]; omega
        have i0 : (0 : Int) ≤ k := by omega
        have i1 : (k : Int) < l.length := by omega
        have tk : decide (k < l.length) = true := by simpa using hkn
        obtain ⟨g, off, rfl, hc, hok⟩ := (HA.out.chg hm.chg).at k hkn
        have c0 := hc 0 _ rfl
        rw [Nat.add_zero] at c0
        have c1 := hc 1 _ rfl
        have c2 := hc 2 _ rfl
        have c3 := hc 3 _ rfl
        have c4 := hc 4 _ rfl
        have hcb : Chg (fun _ => False) wr (wr.alloc (.cells #[.int .i64 (l[k]).kind, .string (l[k]).path, .int .i64 (l[k]).mode, .slice (l[k]).A (l[k]).data.length (l[k]).cap, .string (l[k]).target] 38)) := (Chg.refl _ _).alloc _
        have hdo := (hm.keep hcb).run l[k] (HA.out.ok _ (List.getElem_mem hkn)) (HAB.out.2 _ (List.getElem_mem hkn)).1 (by have := HAB.out.1; omega) HK.out
        have HD := Lib.hid hdo
        have HR := Lib.hid (And.intro hn (And.intro hrot hls))
        clear hdo hcb hc hok hm hn hrot hls
        generalize l[k] = a at *
        obtain ⟨kind, apath, mode, DA, cap, data, target⟩ := a
        simp only [ActD.val] at c0 c1 c2 c3 c4 HD
        go_wp2_with (go_at_call 11; refine HD.out.mono ?_; rintro e w5 ⟨rfl, P', O', m5, s5⟩; have H5 := Lib.hid (And.intro m5 s5); clear m5 s5)
        go_roundw
        case rel =>
          obtain ⟨hn, hrot, hls⟩ := HR.out
          obtain ⟨m5, s5⟩ := H5.out
          exact ⟨k + 1, P', O', by simp, hkn, m5, by have := s5.n; omega, s5.keeps.1.trans hrot, s5.keeps.2.trans hls⟩
        case measure => simp; omega
      · have tk : decide (k < l.length) = false := decide_eq_false hkn
        have hn41 : P.n ≤ 41 := by have := HAB.out.1; omega
        have hps : path.size < 4611686018427387904 := by omega
        have hpm : path.size ≤ maxLen := by unfold maxLen; omega
        have hpp := parent_len path hps
        have hinv := hm.fs.inv
        have HMn := Lib.hid hm
        have HR := Lib.hid (And.intro hn41 (And.intro hrot (And.intro hls hinv)))
        clear hm hn hrot hls hn41 hinv hkl HM HC3 HT HO H1 HK HAB
        by_cases hpe : pathErr path.data.toList = 0
        · cases hkp : P.kindAt (parentB path.data.toList) with
          | none =>
            have hFp := kind_none HR.out.2.2.2 hkp
            have e2 : P.findErr (parentB path.data.toList) = 19 := by unfold PFS.findErr; rw [hFp]; rfl
            have emk : P.makeErr path.data.toList 0 448 [] = 13 := by unfold PFS.makeErr PFS.placeErr; rw [hkp]; simp [hpe]
            rcases find_cases P path.data.toList with e1 | e1
            · have hl1 := Lstat_fs HMn.out.fs path hpm
              rw [e1] at hl1
              generalize hs1 : P.stat path.data.toList = s1 at hl1
              simp only [Info8.val] at hl1
              have HL1 := Lib.hid hl1; clear hl1 hs1
              go_wp2_with fail
              refine HL1.out.mono ?_
              rintro e w6 ⟨rfl, c6⟩
              have hm6 := HMn.out.keep (c6.alloc (.cells #[.int .i64 s1.kind, .int .i64 s1.mode, .int .i64 s1.num, .int .i64 s1.links, .int .i64 s1.size, .string s1.target, .int .i64 s1.uid, .int .i64 s1.mtime] 41))
              have hl2 := Lstat_fs hm6.fs ⟨(parentB path.data.toList).toArray⟩ hpp
              rw [show (⟨(parentB path.data.toList).toArray⟩ : ByteArray).data.toList = parentB path.data.toList from rfl, e2] at hl2
              generalize hs2 : P.stat (parentB path.data.toList) = s2 at hl2
              simp only [Info8.val] at hl2
              clear hs2
              have HM6 := Lib.hid hm6
              have HL2 := Lib.hid hl2; clear hl2 hm6 c6 HL1
              go_wp2_with (go_at_call 17; refine (Parent_spec path _ hps).mono ?_; rintro e w7 ⟨rfl, rfl⟩)
              refine HL2.out.mono ?_
              rintro e w8 ⟨rfl, c8⟩
              have hm8 := HM6.out.keep (c8.alloc (.cells #[.int .i64 s2.kind, .int .i64 s2.mode, .int .i64 s2.num, .int .i64 s2.links, .int .i64 s2.size, .string s2.target, .int .i64 s2.uid, .int .i64 s2.mtime] 41))
              have hb2 := Blk.new w8 #[.int .i64 s2.kind, .int .i64 s2.mode, .int .i64 s2.num, .int .i64 s2.links, .int .i64 s2.size, .string s2.target, .int .i64 s2.uid, .int .i64 s2.mtime] 41
              have HM8 := Lib.hid (And.intro hm8 hb2); clear hm8 hb2 c8 HL2 HM6
              have hck := fun W => Check_spec path W hps
              rw [hpe] at hck
              have HCk := Lib.hid hck; clear hck
              go_wp2_with fail
              refine (HCk.out _).mono ?_
              rintro e w9 ⟨rfl, c9⟩
              have hm9 := HM8.out.1.keep c9
              have d0 : w9.cell? ⟨w8.heap.size, 0, none⟩ = some (.int .i64 s2.kind) := (HM8.out.2.chg c9 (fun h => h)).cell 0
              have hmk := Mkdir_fs hm9.fs path 448 hps (by have := HR.out.1; omega)
              rw [emk] at hmk
              have HMk := Lib.hid hmk
              have HM9 := Lib.hid hm9; clear hmk hm9 c9 HM8
              go_wp2_with fail
              refine HMk.out.mono ?_
              rintro e w10 ⟨rfl, P', O', f10, n10, s10⟩
              have hm10 := HM9.out.next f10 n10
              have hP' : P' = P := by unfold MakeStep at s10; rwa [if_neg (show ¬ P.makeErr path.data.toList 0 448 (⟨#[]⟩ : ByteArray).data.toList = 0 by rw [show P.makeErr path.data.toList 0 448 (⟨#[]⟩ : ByteArray).data.toList = P.makeErr path.data.toList 0 448 [] from rfl, emk]; simp)] at s10
              subst hP'
              have hfe3 := e1
              have hn3 := HR.out.1
              have hr3 := HR.out.2.1
              have hls3 := HR.out.2.2.1
              have hl3 := Lstat_fs hm10.fs path hpm
              rw [hfe3] at hl3
              generalize hs3 : P'.stat path.data.toList = s3 at *
              simp only [Info8.val] at hl3
              have HL3 := Lib.hid hl3
              have HM10 := Lib.hid (And.intro hm10 (And.intro hn3 (And.intro hr3 hls3)))
              clear hl3 hs3 hm10 hn3 hr3 hls3 f10 n10 s10 hfe3
              go_wp2_with fail
              refine HL3.out.mono ?_
              rintro e w11 ⟨rfl, c11⟩
              have hm11 := HM10.out.1.keep (c11.alloc (.cells #[.int .i64 s3.kind, .int .i64 s3.mode, .int .i64 s3.num, .int .i64 s3.links, .int .i64 s3.size, .string s3.target, .int .i64 s3.uid, .int .i64 s3.mtime] 41))
              have hli := List_fs hm11.fs path hpm (by have := HM10.out.2.1; omega) (by rw [HM10.out.2.2.1]; simp) (by rw [HM10.out.2.2.2]; decide) (by rw [HM10.out.2.2.2]; decide) (by rw [HM10.out.2.2.1]; simp)
              have HLi := Lib.hid hli
              have HM11 := Lib.hid hm11; clear hli hm11 c11
              go_wp2_with fail
              refine HLi.out.mono ?_
              rintro e w12 ⟨A12, c12, rfl, z1, z2, z3, z4⟩
              have hm12 := HM11.out.next z3 z4
              have HM12 := Lib.hid hm12; clear hm12 z1 z2 z3 z4
              go_wp2_with fail
              refine (alive_any _).mono ?_
              rintro e w13 ⟨rfl, c13⟩
              have HZ := Lib.hid (HM12.out.keep c13).chg; clear c13
              go_wp2_with fail
              go_ret
              exact ⟨rfl, HZ.out⟩
            · have hl1 := Lstat_fs HMn.out.fs path hpm
              rw [e1] at hl1
              generalize hs1 : P.stat path.data.toList = s1 at hl1
              simp only [Info8.val] at hl1
              have HL1 := Lib.hid hl1; clear hl1 hs1
              go_wp2_with fail
              refine HL1.out.mono ?_
              rintro e w6 ⟨rfl, c6⟩
              have hm6 := HMn.out.keep (c6.alloc (.cells #[.int .i64 s1.kind, .int .i64 s1.mode, .int .i64 s1.num, .int .i64 s1.links, .int .i64 s1.size, .string s1.target, .int .i64 s1.uid, .int .i64 s1.mtime] 41))
              have hl2 := Lstat_fs hm6.fs ⟨(parentB path.data.toList).toArray⟩ hpp
              rw [show (⟨(parentB path.data.toList).toArray⟩ : ByteArray).data.toList = parentB path.data.toList from rfl, e2] at hl2
              generalize hs2 : P.stat (parentB path.data.toList) = s2 at hl2
              simp only [Info8.val] at hl2
              clear hs2
              have HM6 := Lib.hid hm6
              have HL2 := Lib.hid hl2; clear hl2 hm6 c6 HL1
              go_wp2_with (go_at_call 17; refine (Parent_spec path _ hps).mono ?_; rintro e w7 ⟨rfl, rfl⟩)
              refine HL2.out.mono ?_
              rintro e w8 ⟨rfl, c8⟩
              have hm8 := HM6.out.keep (c8.alloc (.cells #[.int .i64 s2.kind, .int .i64 s2.mode, .int .i64 s2.num, .int .i64 s2.links, .int .i64 s2.size, .string s2.target, .int .i64 s2.uid, .int .i64 s2.mtime] 41))
              have hb2 := Blk.new w8 #[.int .i64 s2.kind, .int .i64 s2.mode, .int .i64 s2.num, .int .i64 s2.links, .int .i64 s2.size, .string s2.target, .int .i64 s2.uid, .int .i64 s2.mtime] 41
              have HM8 := Lib.hid (And.intro hm8 hb2); clear hm8 hb2 c8 HL2 HM6
              have hck := fun W => Check_spec path W hps
              rw [hpe] at hck
              have HCk := Lib.hid hck; clear hck
              go_wp2_with fail
              refine (HCk.out _).mono ?_
              rintro e w9 ⟨rfl, c9⟩
              have hm9 := HM8.out.1.keep c9
              have d0 : w9.cell? ⟨w8.heap.size, 0, none⟩ = some (.int .i64 s2.kind) := (HM8.out.2.chg c9 (fun h => h)).cell 0
              have hmk := Mkdir_fs hm9.fs path 448 hps (by have := HR.out.1; omega)
              rw [emk] at hmk
              have HMk := Lib.hid hmk
              have HM9 := Lib.hid hm9; clear hmk hm9 c9 HM8
              go_wp2_with fail
              refine HMk.out.mono ?_
              rintro e w10 ⟨rfl, P', O', f10, n10, s10⟩
              have hm10 := HM9.out.next f10 n10
              have hP' : P' = P := by unfold MakeStep at s10; rwa [if_neg (show ¬ P.makeErr path.data.toList 0 448 (⟨#[]⟩ : ByteArray).data.toList = 0 by rw [show P.makeErr path.data.toList 0 448 (⟨#[]⟩ : ByteArray).data.toList = P.makeErr path.data.toList 0 448 [] from rfl, emk]; simp)] at s10
              subst hP'
              have hfe3 := e1
              have hn3 := HR.out.1
              have hr3 := HR.out.2.1
              have hls3 := HR.out.2.2.1
              have hl3 := Lstat_fs hm10.fs path hpm
              rw [hfe3] at hl3
              generalize hs3 : P'.stat path.data.toList = s3 at *
              simp only [Info8.val] at hl3
              have HL3 := Lib.hid hl3
              have HM10 := Lib.hid (And.intro hm10 (And.intro hn3 (And.intro hr3 hls3)))
              clear hl3 hs3 hm10 hn3 hr3 hls3 f10 n10 s10 hfe3
              go_wp2_with fail
              refine HL3.out.mono ?_
              rintro e w11 ⟨rfl, c11⟩
              have hm11 := HM10.out.1.keep (c11.alloc (.cells #[.int .i64 s3.kind, .int .i64 s3.mode, .int .i64 s3.num, .int .i64 s3.links, .int .i64 s3.size, .string s3.target, .int .i64 s3.uid, .int .i64 s3.mtime] 41))
              have hli := List_fs hm11.fs path hpm (by have := HM10.out.2.1; omega) (by rw [HM10.out.2.2.1]; simp) (by rw [HM10.out.2.2.2]; decide) (by rw [HM10.out.2.2.2]; decide) (by rw [HM10.out.2.2.1]; simp)
              have HLi := Lib.hid hli
              have HM11 := Lib.hid hm11; clear hli hm11 c11
              go_wp2_with fail
              refine HLi.out.mono ?_
              rintro e w12 ⟨A12, c12, rfl, z1, z2, z3, z4⟩
              have hm12 := HM11.out.next z3 z4
              have HM12 := Lib.hid hm12; clear hm12 z1 z2 z3 z4
              go_wp2_with fail
              refine (alive_any _).mono ?_
              rintro e w13 ⟨rfl, c13⟩
              have HZ := Lib.hid (HM12.out.keep c13).chg; clear c13
              go_wp2_with fail
              go_ret
              exact ⟨rfl, HZ.out⟩
          | some kd =>
            obtain ⟨hsk, e2⟩ := kind_stat hkp
            by_cases hkd : kd = 0
            · subst hkd
              cases hFx : P.F path.data.toList with
              | some bx =>
                have e1 : P.findErr path.data.toList = 0 := by unfold PFS.findErr; rw [hFx]; rfl
                have emk : P.makeErr path.data.toList 0 448 [] = 14 := by unfold PFS.makeErr PFS.placeErr; rw [hkp]; simp [hpe, hFx]
                have hl1 := Lstat_fs HMn.out.fs path hpm
                rw [e1] at hl1
                generalize hs1 : P.stat path.data.toList = s1 at hl1
                simp only [Info8.val] at hl1
                have HL1 := Lib.hid hl1; clear hl1 hs1
                go_wp2_with fail
                refine HL1.out.mono ?_
                rintro e w6 ⟨rfl, c6⟩
                have hm6 := HMn.out.keep (c6.alloc (.cells #[.int .i64 s1.kind, .int .i64 s1.mode, .int .i64 s1.num, .int .i64 s1.links, .int .i64 s1.size, .string s1.target, .int .i64 s1.uid, .int .i64 s1.mtime] 41))
                have hl2 := Lstat_fs hm6.fs ⟨(parentB path.data.toList).toArray⟩ hpp
                rw [show (⟨(parentB path.data.toList).toArray⟩ : ByteArray).data.toList = parentB path.data.toList from rfl, e2] at hl2
                generalize hs2 : P.stat (parentB path.data.toList) = s2 at hl2
                simp only [Info8.val] at hl2
                have HK2 := Lib.hid (show s2.kind = 0 by rw [← hs2]; exact hsk)
                clear hs2
                have HM6 := Lib.hid hm6
                have HL2 := Lib.hid hl2; clear hl2 hm6 c6 HL1
                go_wp2_with (go_at_call 17; refine (Parent_spec path _ hps).mono ?_; rintro e w7 ⟨rfl, rfl⟩)
                refine HL2.out.mono ?_
                rintro e w8 ⟨rfl, c8⟩
                have hm8 := HM6.out.keep (c8.alloc (.cells #[.int .i64 s2.kind, .int .i64 s2.mode, .int .i64 s2.num, .int .i64 s2.links, .int .i64 s2.size, .string s2.target, .int .i64 s2.uid, .int .i64 s2.mtime] 41))
                have hb2 := Blk.new w8 #[.int .i64 s2.kind, .int .i64 s2.mode, .int .i64 s2.num, .int .i64 s2.links, .int .i64 s2.size, .string s2.target, .int .i64 s2.uid, .int .i64 s2.mtime] 41
                have HM8 := Lib.hid (And.intro hm8 hb2); clear hm8 hb2 c8 HL2 HM6
                have hck := fun W => Check_spec path W hps
                rw [hpe] at hck
                have HCk := Lib.hid hck; clear hck
                go_wp2_with fail
                refine (HCk.out _).mono ?_
                rintro e w9 ⟨rfl, c9⟩
                have hm9 := HM8.out.1.keep c9
                have d0 : w9.cell? ⟨w8.heap.size, 0, none⟩ = some (.int .i64 s2.kind) := (HM8.out.2.chg c9 (fun h => h)).cell 0
                rw [HK2.out] at d0
                have hmk := Mkdir_fs hm9.fs path 448 hps (by have := HR.out.1; omega)
                rw [emk] at hmk
                have HMk := Lib.hid hmk
                have HM9 := Lib.hid hm9; clear hmk hm9 c9 HM8
                go_wp2_with fail
                refine HMk.out.mono ?_
                rintro e w10 ⟨rfl, P', O', f10, n10, s10⟩
                have hm10 := HM9.out.next f10 n10
                have hP' : P' = P := by unfold MakeStep at s10; rwa [if_neg (show ¬ P.makeErr path.data.toList 0 448 (⟨#[]⟩ : ByteArray).data.toList = 0 by rw [show P.makeErr path.data.toList 0 448 (⟨#[]⟩ : ByteArray).data.toList = P.makeErr path.data.toList 0 448 [] from rfl, emk]; simp)] at s10
                subst hP'
                have hfe3 := e1
                have hn3 := HR.out.1
                have hr3 := HR.out.2.1
                have hls3 := HR.out.2.2.1
                have hl3 := Lstat_fs hm10.fs path hpm
                rw [hfe3] at hl3
                generalize hs3 : P'.stat path.data.toList = s3 at *
                simp only [Info8.val] at hl3
                have HL3 := Lib.hid hl3
                have HM10 := Lib.hid (And.intro hm10 (And.intro hn3 (And.intro hr3 hls3)))
                clear hl3 hs3 hm10 hn3 hr3 hls3 f10 n10 s10 hfe3
                go_wp2_with fail
                refine HL3.out.mono ?_
                rintro e w11 ⟨rfl, c11⟩
                have hm11 := HM10.out.1.keep (c11.alloc (.cells #[.int .i64 s3.kind, .int .i64 s3.mode, .int .i64 s3.num, .int .i64 s3.links, .int .i64 s3.size, .string s3.target, .int .i64 s3.uid, .int .i64 s3.mtime] 41))
                have hli := List_fs hm11.fs path hpm (by have := HM10.out.2.1; omega) (by rw [HM10.out.2.2.1]; simp) (by rw [HM10.out.2.2.2]; decide) (by rw [HM10.out.2.2.2]; decide) (by rw [HM10.out.2.2.1]; simp)
                have HLi := Lib.hid hli
                have HM11 := Lib.hid hm11; clear hli hm11 c11
                go_wp2_with fail
                refine HLi.out.mono ?_
                rintro e w12 ⟨A12, c12, rfl, z1, z2, z3, z4⟩
                have hm12 := HM11.out.next z3 z4
                have HM12 := Lib.hid hm12; clear hm12 z1 z2 z3 z4
                go_wp2_with fail
                refine (alive_any _).mono ?_
                rintro e w13 ⟨rfl, c13⟩
                have HZ := Lib.hid (HM12.out.keep c13).chg; clear c13
                go_wp2_with fail
                go_ret
                exact ⟨rfl, HZ.out⟩
              | none =>
                have e1 : P.findErr path.data.toList = 19 := by unfold PFS.findErr; rw [hFx]; rfl
                have emk : P.makeErr path.data.toList 0 448 [] = 0 := by unfold PFS.makeErr PFS.placeErr; rw [hkp]; simp [hpe, hFx]
                have hl1 := Lstat_fs HMn.out.fs path hpm
                rw [e1] at hl1
                generalize hs1 : P.stat path.data.toList = s1 at hl1
                simp only [Info8.val] at hl1
                have HL1 := Lib.hid hl1; clear hl1 hs1
                go_wp2_with fail
                refine HL1.out.mono ?_
                rintro e w6 ⟨rfl, c6⟩
                have hm6 := HMn.out.keep (c6.alloc (.cells #[.int .i64 s1.kind, .int .i64 s1.mode, .int .i64 s1.num, .int .i64 s1.links, .int .i64 s1.size, .string s1.target, .int .i64 s1.uid, .int .i64 s1.mtime] 41))
                have hl2 := Lstat_fs hm6.fs ⟨(parentB path.data.toList).toArray⟩ hpp
                rw [show (⟨(parentB path.data.toList).toArray⟩ : ByteArray).data.toList = parentB path.data.toList from rfl, e2] at hl2
                generalize hs2 : P.stat (parentB path.data.toList) = s2 at hl2
                simp only [Info8.val] at hl2
                have HK2 := Lib.hid (show s2.kind = 0 by rw [← hs2]; exact hsk)
                clear hs2
                have HM6 := Lib.hid hm6
                have HL2 := Lib.hid hl2; clear hl2 hm6 c6 HL1
                go_wp2_with (go_at_call 17; refine (Parent_spec path _ hps).mono ?_; rintro e w7 ⟨rfl, rfl⟩)
                refine HL2.out.mono ?_
                rintro e w8 ⟨rfl, c8⟩
                have hm8 := HM6.out.keep (c8.alloc (.cells #[.int .i64 s2.kind, .int .i64 s2.mode, .int .i64 s2.num, .int .i64 s2.links, .int .i64 s2.size, .string s2.target, .int .i64 s2.uid, .int .i64 s2.mtime] 41))
                have hb2 := Blk.new w8 #[.int .i64 s2.kind, .int .i64 s2.mode, .int .i64 s2.num, .int .i64 s2.links, .int .i64 s2.size, .string s2.target, .int .i64 s2.uid, .int .i64 s2.mtime] 41
                have HM8 := Lib.hid (And.intro hm8 hb2); clear hm8 hb2 c8 HL2 HM6
                have hck := fun W => Check_spec path W hps
                rw [hpe] at hck
                have HCk := Lib.hid hck; clear hck
                go_wp2_with fail
                refine (HCk.out _).mono ?_
                rintro e w9 ⟨rfl, c9⟩
                have hm9 := HM8.out.1.keep c9
                have d0 : w9.cell? ⟨w8.heap.size, 0, none⟩ = some (.int .i64 s2.kind) := (HM8.out.2.chg c9 (fun h => h)).cell 0
                rw [HK2.out] at d0
                have hmk := Mkdir_fs hm9.fs path 448 hps (by have := HR.out.1; omega)
                rw [emk] at hmk
                have HMk := Lib.hid hmk
                have HM9 := Lib.hid hm9; clear hmk hm9 c9 HM8
                go_wp2_with fail
                refine HMk.out.mono ?_
                rintro e w10 ⟨rfl, P', O', f10, n10, s10⟩
                have hm10 := HM9.out.next f10 n10
                obtain ⟨hfe3, ⟨hsk3, hsm3, hsl3⟩, hle3, hn3'⟩ := made_stat s10 emk
                have hn3 : P'.n ≤ 42 := by have := HR.out.1; omega
                have hr3 := s10.keeps.1.trans HR.out.2.1
                have hls3 := s10.keeps.2.trans HR.out.2.2.1
                have hl3 := Lstat_fs hm10.fs path hpm
                rw [hfe3] at hl3
                generalize hs3 : P'.stat path.data.toList = s3 at *
                simp only [Info8.val] at hl3
                rw [hsk3, hsm3, hsl3] at hl3
                clear hsk3 hsm3 hsl3 hn3'
                have HL3 := Lib.hid hl3
                have HM10 := Lib.hid (And.intro hm10 (And.intro hn3 (And.intro hr3 hls3)))
                clear hl3 hs3 hm10 hn3 hr3 hls3 f10 n10 s10 hfe3
                go_wp2_with fail
                refine HL3.out.mono ?_
                rintro e w11 ⟨rfl, c11⟩
                have hm11 := HM10.out.1.keep (c11.alloc (.cells #[.int .i64 0, .int .i64 448, .int .i64 s3.num, .int .i64 1, .int .i64 s3.size, .string s3.target, .int .i64 s3.uid, .int .i64 s3.mtime] 41))
                have hli := List_fs hm11.fs path hpm (by have := HM10.out.2.1; omega) (by rw [HM10.out.2.2.1]; simp) (by rw [HM10.out.2.2.2]; decide) (by rw [HM10.out.2.2.2]; decide) (by rw [HM10.out.2.2.1]; simp)
                rw [hle3] at hli
                have HLi := Lib.hid hli
                have HM11 := Lib.hid hm11; clear hli hm11 c11
                go_wp2_with fail
                refine HLi.out.mono ?_
                rintro e w12 ⟨A12, c12, rfl, z1, z2, z3, z4⟩
                have hm12 := HM11.out.next z3 z4
                have HM12 := Lib.hid hm12; clear hm12 z1 z2 z3 z4
                go_wp2_with fail
                refine (alive_any _).mono ?_
                rintro e w13 ⟨rfl, c13⟩
                have HZ := Lib.hid (HM12.out.keep c13).chg; clear c13
                go_wp2_with fail
                go_ret
                exact ⟨rfl, HZ.out⟩
            · have emk : P.makeErr path.data.toList 0 448 [] = 13 := by unfold PFS.makeErr PFS.placeErr; rw [hkp]; simp [hpe, hkd]
              rcases find_cases P path.data.toList with e1 | e1
              · have hl1 := Lstat_fs HMn.out.fs path hpm
                rw [e1] at hl1
                generalize hs1 : P.stat path.data.toList = s1 at hl1
                simp only [Info8.val] at hl1
                have HL1 := Lib.hid hl1; clear hl1 hs1
                go_wp2_with fail
                refine HL1.out.mono ?_
                rintro e w6 ⟨rfl, c6⟩
                have hm6 := HMn.out.keep (c6.alloc (.cells #[.int .i64 s1.kind, .int .i64 s1.mode, .int .i64 s1.num, .int .i64 s1.links, .int .i64 s1.size, .string s1.target, .int .i64 s1.uid, .int .i64 s1.mtime] 41))
                have hl2 := Lstat_fs hm6.fs ⟨(parentB path.data.toList).toArray⟩ hpp
                rw [show (⟨(parentB path.data.toList).toArray⟩ : ByteArray).data.toList = parentB path.data.toList from rfl, e2] at hl2
                generalize hs2 : P.stat (parentB path.data.toList) = s2 at hl2
                simp only [Info8.val] at hl2
                have hs2k : s2.kind = kd := by rw [← hs2]; exact hsk
                have q3 : (s2.kind == 0) = false := by rw [hs2k]; simpa using hkd
                have q4 : (s2.kind != 0) = true := by rw [hs2k]; simpa using hkd
                clear hs2 hs2k
                have HM6 := Lib.hid hm6
                have HL2 := Lib.hid hl2; clear hl2 hm6 c6 HL1
                go_wp2_with (go_at_call 17; refine (Parent_spec path _ hps).mono ?_; rintro e w7 ⟨rfl, rfl⟩)
                refine HL2.out.mono ?_
                rintro e w8 ⟨rfl, c8⟩
                have hm8 := HM6.out.keep (c8.alloc (.cells #[.int .i64 s2.kind, .int .i64 s2.mode, .int .i64 s2.num, .int .i64 s2.links, .int .i64 s2.size, .string s2.target, .int .i64 s2.uid, .int .i64 s2.mtime] 41))
                have hb2 := Blk.new w8 #[.int .i64 s2.kind, .int .i64 s2.mode, .int .i64 s2.num, .int .i64 s2.links, .int .i64 s2.size, .string s2.target, .int .i64 s2.uid, .int .i64 s2.mtime] 41
                have HM8 := Lib.hid (And.intro hm8 hb2); clear hm8 hb2 c8 HL2 HM6
                have hck := fun W => Check_spec path W hps
                rw [hpe] at hck
                have HCk := Lib.hid hck; clear hck
                go_wp2_with fail
                refine (HCk.out _).mono ?_
                rintro e w9 ⟨rfl, c9⟩
                have hm9 := HM8.out.1.keep c9
                have d0 : w9.cell? ⟨w8.heap.size, 0, none⟩ = some (.int .i64 s2.kind) := (HM8.out.2.chg c9 (fun h => h)).cell 0
                have hmk := Mkdir_fs hm9.fs path 448 hps (by have := HR.out.1; omega)
                rw [emk] at hmk
                have HMk := Lib.hid hmk
                have HM9 := Lib.hid hm9; clear hmk hm9 c9 HM8
                go_wp2_with fail
                refine HMk.out.mono ?_
                rintro e w10 ⟨rfl, P', O', f10, n10, s10⟩
                have hm10 := HM9.out.next f10 n10
                have hP' : P' = P := by unfold MakeStep at s10; rwa [if_neg (show ¬ P.makeErr path.data.toList 0 448 (⟨#[]⟩ : ByteArray).data.toList = 0 by rw [show P.makeErr path.data.toList 0 448 (⟨#[]⟩ : ByteArray).data.toList = P.makeErr path.data.toList 0 448 [] from rfl, emk]; simp)] at s10
                subst hP'
                have hfe3 := e1
                have hn3 := HR.out.1
                have hr3 := HR.out.2.1
                have hls3 := HR.out.2.2.1
                have hl3 := Lstat_fs hm10.fs path hpm
                rw [hfe3] at hl3
                generalize hs3 : P'.stat path.data.toList = s3 at *
                simp only [Info8.val] at hl3
                have HL3 := Lib.hid hl3
                have HM10 := Lib.hid (And.intro hm10 (And.intro hn3 (And.intro hr3 hls3)))
                clear hl3 hs3 hm10 hn3 hr3 hls3 f10 n10 s10 hfe3
                go_wp2_with fail
                refine HL3.out.mono ?_
                rintro e w11 ⟨rfl, c11⟩
                have hm11 := HM10.out.1.keep (c11.alloc (.cells #[.int .i64 s3.kind, .int .i64 s3.mode, .int .i64 s3.num, .int .i64 s3.links, .int .i64 s3.size, .string s3.target, .int .i64 s3.uid, .int .i64 s3.mtime] 41))
                have hli := List_fs hm11.fs path hpm (by have := HM10.out.2.1; omega) (by rw [HM10.out.2.2.1]; simp) (by rw [HM10.out.2.2.2]; decide) (by rw [HM10.out.2.2.2]; decide) (by rw [HM10.out.2.2.1]; simp)
                have HLi := Lib.hid hli
                have HM11 := Lib.hid hm11; clear hli hm11 c11
                go_wp2_with fail
                refine HLi.out.mono ?_
                rintro e w12 ⟨A12, c12, rfl, z1, z2, z3, z4⟩
                have hm12 := HM11.out.next z3 z4
                have HM12 := Lib.hid hm12; clear hm12 z1 z2 z3 z4
                go_wp2_with fail
                refine (alive_any _).mono ?_
                rintro e w13 ⟨rfl, c13⟩
                have HZ := Lib.hid (HM12.out.keep c13).chg; clear c13
                go_wp2_with fail
                go_ret
                exact ⟨rfl, HZ.out⟩
              · have hl1 := Lstat_fs HMn.out.fs path hpm
                rw [e1] at hl1
                generalize hs1 : P.stat path.data.toList = s1 at hl1
                simp only [Info8.val] at hl1
                have HL1 := Lib.hid hl1; clear hl1 hs1
                go_wp2_with fail
                refine HL1.out.mono ?_
                rintro e w6 ⟨rfl, c6⟩
                have hm6 := HMn.out.keep (c6.alloc (.cells #[.int .i64 s1.kind, .int .i64 s1.mode, .int .i64 s1.num, .int .i64 s1.links, .int .i64 s1.size, .string s1.target, .int .i64 s1.uid, .int .i64 s1.mtime] 41))
                have hl2 := Lstat_fs hm6.fs ⟨(parentB path.data.toList).toArray⟩ hpp
                rw [show (⟨(parentB path.data.toList).toArray⟩ : ByteArray).data.toList = parentB path.data.toList from rfl, e2] at hl2
                generalize hs2 : P.stat (parentB path.data.toList) = s2 at hl2
                simp only [Info8.val] at hl2
                have hs2k : s2.kind = kd := by rw [← hs2]; exact hsk
                have q3 : (s2.kind == 0) = false := by rw [hs2k]; simpa using hkd
                have q4 : (s2.kind != 0) = true := by rw [hs2k]; simpa using hkd
                clear hs2 hs2k
                have HM6 := Lib.hid hm6
                have HL2 := Lib.hid hl2; clear hl2 hm6 c6 HL1
                go_wp2_with (go_at_call 17; refine (Parent_spec path _ hps).mono ?_; rintro e w7 ⟨rfl, rfl⟩)
                refine HL2.out.mono ?_
                rintro e w8 ⟨rfl, c8⟩
                have hm8 := HM6.out.keep (c8.alloc (.cells #[.int .i64 s2.kind, .int .i64 s2.mode, .int .i64 s2.num, .int .i64 s2.links, .int .i64 s2.size, .string s2.target, .int .i64 s2.uid, .int .i64 s2.mtime] 41))
                have hb2 := Blk.new w8 #[.int .i64 s2.kind, .int .i64 s2.mode, .int .i64 s2.num, .int .i64 s2.links, .int .i64 s2.size, .string s2.target, .int .i64 s2.uid, .int .i64 s2.mtime] 41
                have HM8 := Lib.hid (And.intro hm8 hb2); clear hm8 hb2 c8 HL2 HM6
                have hck := fun W => Check_spec path W hps
                rw [hpe] at hck
                have HCk := Lib.hid hck; clear hck
                go_wp2_with fail
                refine (HCk.out _).mono ?_
                rintro e w9 ⟨rfl, c9⟩
                have hm9 := HM8.out.1.keep c9
                have d0 : w9.cell? ⟨w8.heap.size, 0, none⟩ = some (.int .i64 s2.kind) := (HM8.out.2.chg c9 (fun h => h)).cell 0
                have hmk := Mkdir_fs hm9.fs path 448 hps (by have := HR.out.1; omega)
                rw [emk] at hmk
                have HMk := Lib.hid hmk
                have HM9 := Lib.hid hm9; clear hmk hm9 c9 HM8
                go_wp2_with fail
                refine HMk.out.mono ?_
                rintro e w10 ⟨rfl, P', O', f10, n10, s10⟩
                have hm10 := HM9.out.next f10 n10
                have hP' : P' = P := by unfold MakeStep at s10; rwa [if_neg (show ¬ P.makeErr path.data.toList 0 448 (⟨#[]⟩ : ByteArray).data.toList = 0 by rw [show P.makeErr path.data.toList 0 448 (⟨#[]⟩ : ByteArray).data.toList = P.makeErr path.data.toList 0 448 [] from rfl, emk]; simp)] at s10
                subst hP'
                have hfe3 := e1
                have hn3 := HR.out.1
                have hr3 := HR.out.2.1
                have hls3 := HR.out.2.2.1
                have hl3 := Lstat_fs hm10.fs path hpm
                rw [hfe3] at hl3
                generalize hs3 : P'.stat path.data.toList = s3 at *
                simp only [Info8.val] at hl3
                have HL3 := Lib.hid hl3
                have HM10 := Lib.hid (And.intro hm10 (And.intro hn3 (And.intro hr3 hls3)))
                clear hl3 hs3 hm10 hn3 hr3 hls3 f10 n10 s10 hfe3
                go_wp2_with fail
                refine HL3.out.mono ?_
                rintro e w11 ⟨rfl, c11⟩
                have hm11 := HM10.out.1.keep (c11.alloc (.cells #[.int .i64 s3.kind, .int .i64 s3.mode, .int .i64 s3.num, .int .i64 s3.links, .int .i64 s3.size, .string s3.target, .int .i64 s3.uid, .int .i64 s3.mtime] 41))
                have hli := List_fs hm11.fs path hpm (by have := HM10.out.2.1; omega) (by rw [HM10.out.2.2.1]; simp) (by rw [HM10.out.2.2.2]; decide) (by rw [HM10.out.2.2.2]; decide) (by rw [HM10.out.2.2.1]; simp)
                have HLi := Lib.hid hli
                have HM11 := Lib.hid hm11; clear hli hm11 c11
                go_wp2_with fail
                refine HLi.out.mono ?_
                rintro e w12 ⟨A12, c12, rfl, z1, z2, z3, z4⟩
                have hm12 := HM11.out.next z3 z4
                have HM12 := Lib.hid hm12; clear hm12 z1 z2 z3 z4
                go_wp2_with fail
                refine (alive_any _).mono ?_
                rintro e w13 ⟨rfl, c13⟩
                have HZ := Lib.hid (HM12.out.keep c13).chg; clear c13
                go_wp2_with fail
                go_ret
                exact ⟨rfl, HZ.out⟩
        · have emk : P.makeErr path.data.toList 0 448 [] = pathErr path.data.toList := by unfold PFS.makeErr; rw [if_pos hpe]
          have q1 : (pathErr path.data.toList == 0) = false := by simpa using hpe
          have q2 : (pathErr path.data.toList != 0) = true := by simpa using hpe
          rcases find_cases P path.data.toList with e1 | e1
          · have hl1 := Lstat_fs HMn.out.fs path hpm
            rw [e1] at hl1
            generalize hs1 : P.stat path.data.toList = s1 at hl1
            simp only [Info8.val] at hl1
            have HL1 := Lib.hid hl1; clear hl1 hs1
            go_wp2_with fail
            refine HL1.out.mono ?_
            rintro e w6 ⟨rfl, c6⟩
            have hm6 := HMn.out.keep (c6.alloc (.cells #[.int .i64 s1.kind, .int .i64 s1.mode, .int .i64 s1.num, .int .i64 s1.links, .int .i64 s1.size, .string s1.target, .int .i64 s1.uid, .int .i64 s1.mtime] 41))
            have hl2 := Lstat_fs hm6.fs ⟨(parentB path.data.toList).toArray⟩ hpp
            rw [show (⟨(parentB path.data.toList).toArray⟩ : ByteArray).data.toList = parentB path.data.toList from rfl, (rfl : P.findErr (parentB path.data.toList) = P.findErr (parentB path.data.toList))] at hl2
            generalize hs2 : P.stat (parentB path.data.toList) = s2 at hl2
            simp only [Info8.val] at hl2
            clear hs2
            have HM6 := Lib.hid hm6
            have HL2 := Lib.hid hl2; clear hl2 hm6 c6 HL1
            go_wp2_with (go_at_call 17; refine (Parent_spec path _ hps).mono ?_; rintro e w7 ⟨rfl, rfl⟩)
            refine HL2.out.mono ?_
            rintro e w8 ⟨rfl, c8⟩
            have hm8 := HM6.out.keep (c8.alloc (.cells #[.int .i64 s2.kind, .int .i64 s2.mode, .int .i64 s2.num, .int .i64 s2.links, .int .i64 s2.size, .string s2.target, .int .i64 s2.uid, .int .i64 s2.mtime] 41))
            have hb2 := Blk.new w8 #[.int .i64 s2.kind, .int .i64 s2.mode, .int .i64 s2.num, .int .i64 s2.links, .int .i64 s2.size, .string s2.target, .int .i64 s2.uid, .int .i64 s2.mtime] 41
            have HM8 := Lib.hid (And.intro hm8 hb2); clear hm8 hb2 c8 HL2 HM6
            have hck := fun W => Check_spec path W hps
            rw [(rfl : pathErr path.data.toList = pathErr path.data.toList)] at hck
            have HCk := Lib.hid hck; clear hck
            go_wp2_with fail
            refine (HCk.out _).mono ?_
            rintro e w9 ⟨rfl, c9⟩
            have hm9 := HM8.out.1.keep c9
            have d0 : w9.cell? ⟨w8.heap.size, 0, none⟩ = some (.int .i64 s2.kind) := (HM8.out.2.chg c9 (fun h => h)).cell 0
            have hmk := Mkdir_fs hm9.fs path 448 hps (by have := HR.out.1; omega)
            rw [emk] at hmk
            have HMk := Lib.hid hmk
            have HM9 := Lib.hid hm9; clear hmk hm9 c9 HM8
            go_wp2_with fail
            refine HMk.out.mono ?_
            rintro e w10 ⟨rfl, P', O', f10, n10, s10⟩
            have hm10 := HM9.out.next f10 n10
            have hP' : P' = P := by unfold MakeStep at s10; rwa [if_neg (show ¬ P.makeErr path.data.toList 0 448 (⟨#[]⟩ : ByteArray).data.toList = 0 by rw [show P.makeErr path.data.toList 0 448 (⟨#[]⟩ : ByteArray).data.toList = P.makeErr path.data.toList 0 448 [] from rfl, emk]; exact hpe)] at s10
            subst hP'
            have hfe3 := e1
            have hn3 := HR.out.1
            have hr3 := HR.out.2.1
            have hls3 := HR.out.2.2.1
            have hl3 := Lstat_fs hm10.fs path hpm
            rw [hfe3] at hl3
            generalize hs3 : P'.stat path.data.toList = s3 at *
            simp only [Info8.val] at hl3
            have HL3 := Lib.hid hl3
            have HM10 := Lib.hid (And.intro hm10 (And.intro hn3 (And.intro hr3 hls3)))
            clear hl3 hs3 hm10 hn3 hr3 hls3 f10 n10 s10 hfe3
            go_wp2_with fail
            refine HL3.out.mono ?_
            rintro e w11 ⟨rfl, c11⟩
            have hm11 := HM10.out.1.keep (c11.alloc (.cells #[.int .i64 s3.kind, .int .i64 s3.mode, .int .i64 s3.num, .int .i64 s3.links, .int .i64 s3.size, .string s3.target, .int .i64 s3.uid, .int .i64 s3.mtime] 41))
            have hli := List_fs hm11.fs path hpm (by have := HM10.out.2.1; omega) (by rw [HM10.out.2.2.1]; simp) (by rw [HM10.out.2.2.2]; decide) (by rw [HM10.out.2.2.2]; decide) (by rw [HM10.out.2.2.1]; simp)
            have HLi := Lib.hid hli
            have HM11 := Lib.hid hm11; clear hli hm11 c11
            go_wp2_with fail
            refine HLi.out.mono ?_
            rintro e w12 ⟨A12, c12, rfl, z1, z2, z3, z4⟩
            have hm12 := HM11.out.next z3 z4
            have HM12 := Lib.hid hm12; clear hm12 z1 z2 z3 z4
            go_wp2_with fail
            refine (alive_any _).mono ?_
            rintro e w13 ⟨rfl, c13⟩
            have HZ := Lib.hid (HM12.out.keep c13).chg; clear c13
            go_wp2_with fail
            go_ret
            exact ⟨rfl, HZ.out⟩
          · have hl1 := Lstat_fs HMn.out.fs path hpm
            rw [e1] at hl1
            generalize hs1 : P.stat path.data.toList = s1 at hl1
            simp only [Info8.val] at hl1
            have HL1 := Lib.hid hl1; clear hl1 hs1
            go_wp2_with fail
            refine HL1.out.mono ?_
            rintro e w6 ⟨rfl, c6⟩
            have hm6 := HMn.out.keep (c6.alloc (.cells #[.int .i64 s1.kind, .int .i64 s1.mode, .int .i64 s1.num, .int .i64 s1.links, .int .i64 s1.size, .string s1.target, .int .i64 s1.uid, .int .i64 s1.mtime] 41))
            have hl2 := Lstat_fs hm6.fs ⟨(parentB path.data.toList).toArray⟩ hpp
            rw [show (⟨(parentB path.data.toList).toArray⟩ : ByteArray).data.toList = parentB path.data.toList from rfl, (rfl : P.findErr (parentB path.data.toList) = P.findErr (parentB path.data.toList))] at hl2
            generalize hs2 : P.stat (parentB path.data.toList) = s2 at hl2
            simp only [Info8.val] at hl2
            clear hs2
            have HM6 := Lib.hid hm6
            have HL2 := Lib.hid hl2; clear hl2 hm6 c6 HL1
            go_wp2_with (go_at_call 17; refine (Parent_spec path _ hps).mono ?_; rintro e w7 ⟨rfl, rfl⟩)
            refine HL2.out.mono ?_
            rintro e w8 ⟨rfl, c8⟩
            have hm8 := HM6.out.keep (c8.alloc (.cells #[.int .i64 s2.kind, .int .i64 s2.mode, .int .i64 s2.num, .int .i64 s2.links, .int .i64 s2.size, .string s2.target, .int .i64 s2.uid, .int .i64 s2.mtime] 41))
            have hb2 := Blk.new w8 #[.int .i64 s2.kind, .int .i64 s2.mode, .int .i64 s2.num, .int .i64 s2.links, .int .i64 s2.size, .string s2.target, .int .i64 s2.uid, .int .i64 s2.mtime] 41
            have HM8 := Lib.hid (And.intro hm8 hb2); clear hm8 hb2 c8 HL2 HM6
            have hck := fun W => Check_spec path W hps
            rw [(rfl : pathErr path.data.toList = pathErr path.data.toList)] at hck
            have HCk := Lib.hid hck; clear hck
            go_wp2_with fail
            refine (HCk.out _).mono ?_
            rintro e w9 ⟨rfl, c9⟩
            have hm9 := HM8.out.1.keep c9
            have d0 : w9.cell? ⟨w8.heap.size, 0, none⟩ = some (.int .i64 s2.kind) := (HM8.out.2.chg c9 (fun h => h)).cell 0
            have hmk := Mkdir_fs hm9.fs path 448 hps (by have := HR.out.1; omega)
            rw [emk] at hmk
            have HMk := Lib.hid hmk
            have HM9 := Lib.hid hm9; clear hmk hm9 c9 HM8
            go_wp2_with fail
            refine HMk.out.mono ?_
            rintro e w10 ⟨rfl, P', O', f10, n10, s10⟩
            have hm10 := HM9.out.next f10 n10
            have hP' : P' = P := by unfold MakeStep at s10; rwa [if_neg (show ¬ P.makeErr path.data.toList 0 448 (⟨#[]⟩ : ByteArray).data.toList = 0 by rw [show P.makeErr path.data.toList 0 448 (⟨#[]⟩ : ByteArray).data.toList = P.makeErr path.data.toList 0 448 [] from rfl, emk]; exact hpe)] at s10
            subst hP'
            have hfe3 := e1
            have hn3 := HR.out.1
            have hr3 := HR.out.2.1
            have hls3 := HR.out.2.2.1
            have hl3 := Lstat_fs hm10.fs path hpm
            rw [hfe3] at hl3
            generalize hs3 : P'.stat path.data.toList = s3 at *
            simp only [Info8.val] at hl3
            have HL3 := Lib.hid hl3
            have HM10 := Lib.hid (And.intro hm10 (And.intro hn3 (And.intro hr3 hls3)))
            clear hl3 hs3 hm10 hn3 hr3 hls3 f10 n10 s10 hfe3
            go_wp2_with fail
            refine HL3.out.mono ?_
            rintro e w11 ⟨rfl, c11⟩
            have hm11 := HM10.out.1.keep (c11.alloc (.cells #[.int .i64 s3.kind, .int .i64 s3.mode, .int .i64 s3.num, .int .i64 s3.links, .int .i64 s3.size, .string s3.target, .int .i64 s3.uid, .int .i64 s3.mtime] 41))
            have hli := List_fs hm11.fs path hpm (by have := HM10.out.2.1; omega) (by rw [HM10.out.2.2.1]; simp) (by rw [HM10.out.2.2.2]; decide) (by rw [HM10.out.2.2.2]; decide) (by rw [HM10.out.2.2.1]; simp)
            have HLi := Lib.hid hli
            have HM11 := Lib.hid hm11; clear hli hm11 c11
            go_wp2_with fail
            refine HLi.out.mono ?_
            rintro e w12 ⟨A12, c12, rfl, z1, z2, z3, z4⟩
            have hm12 := HM11.out.next z3 z4
            have HM12 := Lib.hid hm12; clear hm12 z1 z2 z3 z4
            go_wp2_with fail
            refine (alive_any _).mono ?_
            rintro e w13 ⟨rfl, c13⟩
            have HZ := Lib.hid (HM12.out.keep c13).chg; clear c13
            go_wp2_with fail
            go_ret
            exact ⟨rfl, HZ.out⟩
end Go.Proofs.YtfkfeoocglcjgaaDoor
