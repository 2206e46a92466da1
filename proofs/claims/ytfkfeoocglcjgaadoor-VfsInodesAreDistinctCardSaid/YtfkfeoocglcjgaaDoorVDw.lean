/- The law VfsInodesAreDistinct, walked. -/
import Derived.Test.YtfkfeoocglcjgaaDoorVDi
import Derived.Deep.DeepCutAuto
set_option linter.unusedVariables false
set_option linter.unusedSimpArgs false
namespace Go.Proofs.YtfkfeoocglcjgaaDoor
open Go.RowKit Go.Maps

theorem Mine.run2 {w0 wr : World} {B : Nat} {P : PFS} {O : Nat → Prop} (h : Mine w0 wr B P O) (a : ActD) (ha : ActOk w0 a) (hd : a.data.length ≤ 20000) (hn : P.n ≤ 100000) (hk : Keys w0) :
    Calls Tryd.prog 11 #[.pointer (some ⟨B, 0, none⟩), a.val] wr fun e w' => e = .returned (.int .i64 (P.doErr a)) ∧ ∃ P' O', Mine w0 w' B P' O' ∧ DoStep P a P' ∧ Next wr w' O O' := by
  have hoff : a.data ≠ [] → ∀ ad, a.A = some ad → ad.block < w0.heap.size := fun hne => rd_lt ha.rd hne
  refine (Do_fs h.fs a (ha.chg h.chg) h.ge hoff (by omega) hn (hk.chg h.chg (fun h => h))).mono ?_
  rintro e w' ⟨rfl, P', O', g1, g2, g3⟩
  exact ⟨rfl, P', O', h.next g1 g2, g3, g2⟩

theorem dis_other {P P' : PFS} {G : Int → Option ByteArray} {a : ActD} (h : DisInv P G) (hs : DoStep P a P') (ho : P.doErr a ≠ 0 ∨ a.kind < 0 ∨ 4 < a.kind) : DisInv P' G := by
  have mk : ∀ {k m : Int} {t : ByteArray} {d : List UInt8}, MakeStep P a.path.data.toList k m t d P' → P.makeErr a.path.data.toList k m t.data.toList ≠ 0 → DisInv P' G := by
    intro k m t d hm he
    unfold MakeStep at hm
    rw [if_neg he] at hm
    subst hm; exact h
  unfold DoStep at hs
  unfold PFS.doErr at ho
  split at hs
  · next e => rw [if_pos e] at ho; exact mk hs (by rcases ho with h | h | h; exact h; omega; omega)
  · next e0 =>
    rw [if_neg e0] at ho
    split at hs
    · next e => rw [if_pos e] at ho; exact mk hs (by rcases ho with h | h | h; exact h; omega; omega)
    · next e1 =>
      rw [if_neg e1] at ho
      split at hs
      · next e => rw [if_pos e] at ho; exact mk hs (by rcases ho with h | h | h; exact h; omega; omega)
      · next e2 =>
        rw [if_neg e2] at ho
        split at hs
        · next e => rw [if_pos e] at ho; exact mk hs (by rcases ho with h | h | h; exact h; omega; omega)
        · next e3 =>
          rw [if_neg e3] at ho
          split at hs
          · next e =>
            rw [if_pos e] at ho
            unfold LinkStep at hs
            rw [if_neg (by rcases ho with h | h | h; exact h; omega; omega)] at hs
            subst hs; exact h
          · split at hs
            · exact dis_chown h hs
            · subst hs; exact h

theorem dis_do {P P' : PFS} {G : Int → Option ByteArray} {a : ActD} (h : DisInv P G) (hi : P.Inv) (hs : DoStep P a P') (he : P.doErr a = 0) (h0 : 0 ≤ a.kind) (h3 : a.kind ≤ 3) (hsz : a.path.size ≤ 20000) :
    P'.findErr a.path.data.toList = 0 ∧ (P'.stat a.path.data.toList).num = P.next ∧ G P.next = none ∧ DisInv P' (upd G P.next a.path) := by
  unfold DoStep at hs
  unfold PFS.doErr at he
  obtain e | e | e | e : a.kind = 0 ∨ a.kind = 1 ∨ a.kind = 2 ∨ a.kind = 3 := by omega
  · rw [if_pos e] at hs he; exact dis_make h hi hs he hsz
  · rw [if_neg (by omega), if_pos e] at hs he; exact dis_make h hi hs he hsz
  · rw [if_neg (by omega), if_neg (by omega), if_pos e] at hs he; exact dis_make h hi hs he hsz
  · rw [if_neg (by omega), if_neg (by omega), if_neg (by omega), if_pos e] at hs he; exact dis_make h hi hs he hsz

theorem dis_do4 {P P' : PFS} {G : Int → Option ByteArray} {a : ActD} (h : DisInv P G) (hs : DoStep P a P') (he : P.doErr a = 0) (h4 : a.kind = 4) (hsz : a.path.size ≤ 20000) :
    ∃ x q, P'.findErr a.path.data.toList = 0 ∧ (P'.stat a.path.data.toList).num = x ∧ 0 ≤ x ∧ x < P.next ∧ G x = some q ∧ q.size ≤ 20000 ∧ P'.findErr q.data.toList = 0 ∧ P'.stat q.data.toList = P'.stat a.path.data.toList ∧ 2 ≤ (P'.stat a.path.data.toList).links ∧ DisInv P' (upd G x a.path) := by
  unfold DoStep at hs
  unfold PFS.doErr at he
  rw [if_neg (by omega), if_neg (by omega), if_neg (by omega), if_neg (by omega), if_pos h4] at hs he
  exact dis_link h hs he hsz

structure DiRel (w0 wr : World) (B M : Nat) (l : List ActD) (p : Value) : Prop where
  out : ∃ (k n : Nat) (P : PFS) (O : Nat → Prop) (G : Int → Option ByteArray), p = .int .i64 k ∧ k ≤ l.length ∧ Mine w0 wr B P O ∧ P.n ≤ k + 1 ∧ IMap wr M n G ∧ n ≤ k + 1 ∧ DisInv P G ∧ ¬ O M
  ge : w0.heap.size ≤ M

set_option maxRecDepth 100000 in
set_option maxHeartbeats 16000000 in
theorem distinct_law (a b : Int) (A : Option Addr) (c : Nat) (l : List ActD) (w : World) (ha0 : 0 ≤ a) (ha1 : a ≤ 65535) (hb0 : 0 ≤ b) (hb1 : b ≤ 65535) (h : ActsAt w A l) (hl : l.length ≤ 9223372036854775807) (hk : Keys w) :
    Calls Tryd.prog 3 #[.agg #[.int .u16 a, .int .u16 b], .slice A l.length c] w fun e w' => e = .returned (.bool true) ∧ Chg (fun _ => False) w w' := by
  have HA := Lib.hid h
  have HK := Lib.hid hk; clear hk h
  have hmm := @run_makeMap Tryd.prog
  have HX := Lib.hid (Blk.new w #[.int .u16 a, .int .u16 b] 23)
  have HO := Lib.hid (fun W => Options_any a b none 0 0 [] W rfl (.inl rfl) (by omega) ha0 ha1 hb0 hb1)
  go_enter Tryd.func3, Tryd.ntmps3
  go_wp2_with (go_at_call 8; refine (HO.out _).mono ?_; rintro e w1 ⟨A1, c1, rfl, o1, o2⟩)
  have hnew := New_fs (1 + a) (1 + b) A1 0 c1 [] w1 rfl (by omega) (.inl rfl) (fun _ => rfl) (by unfold newErr; rw [if_neg]; have : anyNeg [] = false := rfl; rw [this]; simp; omega)
  have H1 := Lib.hid (And.intro (((Chg.refl (fun _ => False) w).alloc _).trans (U := fun _ => False) o2 (fun _ _ h => h) (fun _ _ h => h)) (HX.out.chg o2 (fun h => h)))
  clear o1 o2
  refine hnew.mono ?_
  rintro e w2 ⟨B, rb, O, rfl, h1, hc1, hO1⟩
  have HM := Lib.hid (And.intro (show Mine w w2 B (rootP rb (1 + a) (1 + b) []) O from ⟨h1, H1.out.1.trans hc1 (fun _ _ h => h) (fun _ _ h => h), fun k hk => Nat.le_trans H1.out.1.size (hO1 k hk)⟩) (H1.out.2.chg hc1 (fun h => h)))
  clear h1 hc1 hO1 hnew H1 HX
  have htl := TooLarge_any A c l w2 (HA.out.chg HM.out.1.chg) hl
  have HT := Lib.hid htl; clear htl
  cases htb : tooLarge l with
  | true =>
    have e1 : tlNum l = 1 := by unfold tlNum; rw [htb]; rfl
    have HT2 := HT.out; rw [e1] at HT2
    have HT := Lib.hid HT2; clear HT2 e1 htb
    go_wp2_with (first | (go_at_call 9; refine HT.out.mono ?_; rintro e w3 ⟨rfl, c3⟩) | (go_at_call 10; refine (alive_any _).mono ?_; rintro e wz ⟨rfl, cz⟩))
    go_ret
    exact ⟨rfl, (HM.out.1.chg.trans (U := fun _ => False) c3 (fun _ _ h => h) (fun _ _ h => h)).trans cz (fun _ _ h => h) (fun _ _ h => h)⟩
  | false =>
    have e1 : tlNum l = 0 := by unfold tlNum; rw [htb]; rfl
    have HT2 := HT.out; rw [e1] at HT2
    have HT := Lib.hid HT2
    have HAB := Lib.hid (act_bounds HA.out htb)
    clear HT2 e1 htb
    go_wp2_with (first | (go_at_call 9; refine HT.out.mono ?_; rintro e w3 ⟨rfl, c3⟩; have HC3 := Lib.hid c3; have q0 := (HM.out.2.chg c3 (fun h => h)).cell 0; simp only [List.getElem?_toArray, List.getElem?_cons_zero, List.getElem?_cons_succ] at q0; have q0' := cell_keep ((Chg.refl (fun _ => False) w3).alloc (.map #[] 0)) q0; obtain ⟨w4, hst, gM, gc⟩ := (IMap.made w3).store (by unfold maxLen; omega) (1 + a) (by omega) (by omega) ⟨#[]⟩; have HS := Lib.hid (And.intro gM gc); clear gM gc c3))
    go_loopw [45] (fun p wr => DiRel w wr B w3.heap.size l p) (fun p _ => l.length - (match p with | .int _ k => k.toNat | _ => 0))
    case atStart =>
      obtain ⟨gM, gc⟩ := HS.out
      have hm3 := HM.out.1.keep HC3.out
      have hm := hm3.keep ((Chg.refl (fun _ => False) w3).alloc (.map #[] 0))
      have hnM : ¬ O w3.heap.size := fun ho => by have := hm3.fs.lt ho; omega
      refine ⟨⟨0, 1, _, O, upd (fun _ => none) (1 + a) ⟨#[]⟩, rfl, Nat.zero_le _, ⟨hm.fs.chg gc (fun k hk e => hnM (e ▸ hk)), hm.chg.trans gc (fun _ _ h => h) (fun k hk e => by have := hm3.chg.size; omega), hm.ge⟩, by simp [rootP], by simpa using gM, by omega, dis_root rb (1 + a) (1 + b) (by omega) (by omega), hnM⟩, hm3.chg.size⟩
    case round =>
      obtain ⟨⟨k, n, P, O2, G, rfl, hkl, hm, hn, hI, hnk, hD, hOM⟩, hge⟩ := hrel
      have HC3' := HC3
      generalize w3.heap.size = M at *
      by_cases hkn : k < l.length
      · have hkb : IntKind.i64.wrap ((k : Int) + 1) = k + 1 := by rw [IntKind.wrap_i64]; omega
        have i0 : (0 : Int) ≤ k := by omega
        have i1 : (k : Int) < l.length := by omega
        have tk : decide (k < l.length) = true := by simpa using hkn
        obtain ⟨g, off, rfl, hc, hok⟩ := (HA.out.chg hm.chg).at k hkn
        have c0 := hc 0 _ rfl
        rw [Nat.add_zero] at c0
        have c1 := hc 1 _ rfl
        have c2 := hc 2 _ rfl
        have c3 := hc 3 _ rfl
        have c4 := hc 4 _ rfl
        have hcb : Chg (fun _ => False) wr (wr.alloc (.cells #[.int .i64 (l[k]).kind, .string (l[k]).path, .int .i64 (l[k]).mode, .slice (l[k]).A (l[k]).data.length (l[k]).cap, .string (l[k]).target] 38)) := (Chg.refl _ _).alloc _
        have hact := Blk.new wr #[.int .i64 (l[k]).kind, .string (l[k]).path, .int .i64 (l[k]).mode, .slice (l[k]).A (l[k]).data.length (l[k]).cap, .string (l[k]).target] 38
        have h40 := HAB.out.1
        have hab := HAB.out.2 _ (List.getElem_mem hkn)
        have hmA := hm.keep hcb
        have hdo := hmA.run2 l[k] (HA.out.ok _ (List.getElem_mem hkn)) hab.1 (by omega) HK.out
        have hIA := hI.chg hcb (fun h => h)
        have hnA : ¬ O2 wr.heap.size := fun ho => by have := hm.fs.lt ho; omega
        have hMA : wr.heap.size ≠ M := by have := hI.lt; omega
        have hP41 : P.n ≤ 41 := by omega
        have hInv := hm.fs.inv
        have hPn : P.next ≤ 42000000 := by have := hInv.nx.2; omega
        have HD := Lib.hid hdo
        have HR := Lib.hid (And.intro hn (And.intro hnk (And.intro hD (And.intro hOM (And.intro hInv (And.intro hPn (And.intro hge hkl)))))))
        have HI := Lib.hid (And.intro hIA (And.intro hnA (And.intro hMA (And.intro hact hab.2.1))))
        clear hdo hcb hc hok hm hn hI hnk hD hOM hge hact hab hmA hIA hnA hMA hP41 hInv hPn hkl
        generalize l[k] = act at *
        obtain ⟨kind, apath, mode, DA, cap, data, target⟩ := act
        simp only [ActD.val] at c0 c1 c2 c3 c4 HD HI
        by_cases herr : P.doErr ⟨kind, apath, mode, DA, cap, data, target⟩ ≠ 0 ∨ kind < 0 ∨ 4 < kind
        · -- the round goes on at once
          have hfin : ∀ (w5 : World) (P' : PFS) (O' : Nat → Prop), Mine w w5 B P' O' → DoStep P ⟨kind, apath, mode, DA, cap, data, target⟩ P' → Next (wr.alloc (.cells #[.int .i64 kind, .string apath, .int .i64 mode, .slice DA data.length cap, .string target] 38)) w5 O2 O' → DiRel w w5 B M l (.int .i64 ((k + 1 : Nat) : Int)) := by
            intro w5 P' O' m5 s5 n5
            obtain ⟨hn, hnk, hD, hOM, hInv, hPn, hge, hkl⟩ := HR.out
            obtain ⟨hIA, hnA, hMA, hact, _⟩ := HI.out
            refine ⟨⟨k + 1, n, P', O', G, rfl, hkn, m5, by have := s5.n; omega, hIA.chg n5.chg hOM, by omega, dis_other hD s5 herr, fun ho => ?_⟩, hge⟩
            rcases n5.own _ ho with h | h
            · exact hOM h
            · have := hIA.lt; omega
          have HF := Lib.hid hfin; clear hfin
          by_cases h1 : P.doErr ⟨kind, apath, mode, DA, cap, data, target⟩ = 0
          · have HD2 := HD.out
            rw [h1] at HD2
            have HD := Lib.hid HD2
            clear HD2
            by_cases h2 : kind < 0
            · have t5 : decide (kind < 0) = true := by simpa using h2
              clear herr h1
              go_wp2_with (go_at_call 11; refine HD.out.mono ?_; rintro e w5 ⟨rfl, P', O', m5, s5, n5⟩; have H5 := Lib.hid (HF.out w5 P' O' m5 s5 n5); have d0 := (HI.out.2.2.2.1.chg n5.chg HI.out.2.1).cell 0; simp only [List.getElem?_toArray, List.getElem?_cons_zero, List.getElem?_cons_succ] at d0; clear m5 s5 n5)
              go_roundw
              case rel => exact H5.out
              case measure => simp; omega
            · have h3 : 4 < kind := by
                rcases herr with h | h | h
                · exact absurd h1 h
                · omega
                · exact h
              have t5 : decide (kind < 0) = false := by simpa using h2
              have t6 : decide (4 < kind) = true := by simpa using h3
              clear herr h1
              go_wp2_with (go_at_call 11; refine HD.out.mono ?_; rintro e w5 ⟨rfl, P', O', m5, s5, n5⟩; have H5 := Lib.hid (HF.out w5 P' O' m5 s5 n5); have d0 := (HI.out.2.2.2.1.chg n5.chg HI.out.2.1).cell 0; simp only [List.getElem?_toArray, List.getElem?_cons_zero, List.getElem?_cons_succ] at d0; clear m5 s5 n5)
              go_roundw
              case rel => exact H5.out
              case measure => simp; omega
          · have t5 : (P.doErr ⟨kind, apath, mode, DA, cap, data, target⟩ == 0) = false := by simpa using h1
            have t6 : (P.doErr ⟨kind, apath, mode, DA, cap, data, target⟩ != 0) = true := by simpa using h1
            generalize P.doErr ⟨kind, apath, mode, DA, cap, data, target⟩ = de at *
            clear herr h1
            go_wp2_with (go_at_call 11; refine HD.out.mono ?_; rintro e w5 ⟨rfl, P', O', m5, s5, n5⟩; have H5 := Lib.hid (HF.out w5 P' O' m5 s5 n5); clear m5 s5 n5)
            go_roundw
            case rel => exact H5.out
            case measure => simp; omega
        · have h1 : P.doErr ⟨kind, apath, mode, DA, cap, data, target⟩ = 0 := Decidable.byContradiction fun h => herr (.inl h)
          have h2 : ¬ kind < 0 := fun h => herr (.inr (.inl h))
          have h3 : ¬ 4 < kind := fun h => herr (.inr (.inr h))
          have HD2 := HD.out
          rw [h1] at HD2
          have HD := Lib.hid HD2
          have H1 := Lib.hid h1
          have t5 : decide (kind < 0) = false := by simpa using h2
          have t6 : decide (4 < kind) = false := by simpa using h3
          have H23 := Lib.hid (And.intro h2 h3)
          have hpm : apath.size ≤ maxLen := by have : apath.size ≤ 20000 := HI.out.2.2.2.2; unfold maxLen; omega
          clear HD2 herr h1 h2 h3
          by_cases h4 : kind = 4
          · subst h4
            clear t5 t6
            go_wp2_with (go_at_call 11; refine HD.out.mono ?_; rintro e w5 ⟨rfl, P', O', m5, s5, n5⟩; have H5 := Lib.hid (And.intro m5 (And.intro s5 n5)); have hact5 := HI.out.2.2.2.1.chg n5.chg HI.out.2.1; have d0 := hact5.cell 0; have d1 := hact5.cell 1; simp only [List.getElem?_toArray, List.getElem?_cons_zero, List.getElem?_cons_succ] at d0 d1; have HA5 := Lib.hid hact5; clear m5 s5 n5 hact5)
            obtain ⟨m5, s5, n5⟩ := H5.out
            obtain ⟨hn, hnk, hD, hOM, hInv, hPn, hge, hkl⟩ := HR.out
            obtain ⟨x, q, f1, f2, f3, f4, f5, f6, f7, f8, f9, f10⟩ := dis_do4 hD s5 H1.out rfl HI.out.2.2.2.2
            have hls := Lstat_fs m5.fs apath hpm
            rw [f1] at hls
            have H6 := Lib.hid (And.intro f3 (And.intro f4 (And.intro f5 (And.intro f6 (And.intro f7 (And.intro f8 (And.intro f9 (And.intro f10 f2))))))))
            generalize hs1 : P'.stat apath.data.toList = s1 at *
            simp only [Info8.val] at hls
            have HLs := Lib.hid hls
            clear hls f1 f2 f3 f4 f5 f6 f7 f8 f9 f10 m5 s5 n5 hn hnk hD hOM hInv hPn hge hkl
            refine HLs.out.mono ?_
            rintro e w6 ⟨rfl, c6⟩
            have hc7 := c6.alloc (.cells #[.int .i64 s1.kind, .int .i64 s1.mode, .int .i64 s1.num, .int .i64 s1.links, .int .i64 s1.size, .string s1.target, .int .i64 s1.uid, .int .i64 s1.mtime] 41)
            have hi7 := Blk.new w6 #[.int .i64 s1.kind, .int .i64 s1.mode, .int .i64 s1.num, .int .i64 s1.links, .int .i64 s1.size, .string s1.target, .int .i64 s1.uid, .int .i64 s1.mtime] 41
            have hI7 := (HI.out.1.chg H5.out.2.2.chg HR.out.2.2.2.1).chg hc7 (fun h => h)
            have hx := H6.out.2.2.2.2.2.2.2.2
            have hk7 : (Instr.lookup 35 (.map (some M)) (.int .i64 s1.num) true).run Tryd.prog (w6.alloc (.cells #[.int .i64 s1.kind, .int .i64 s1.mode, .int .i64 s1.num, .int .i64 s1.links, .int .i64 s1.size, .string s1.target, .int .i64 s1.uid, .int .i64 s1.mtime] 41)) = .ok (.tuple #[.string q, .bool true]) (w6.alloc (.cells #[.int .i64 s1.kind, .int .i64 s1.mode, .int .i64 s1.num, .int .i64 s1.links, .int .i64 s1.size, .string s1.target, .int .i64 s1.uid, .int .i64 s1.mtime] 41)) := by
              have := hI7.look s1.num (by have := H6.out.1; omega) (by have := H6.out.2.1; have := HR.out.2.2.2.2.2.1; omega)
              rw [hx, H6.out.2.2.1] at this
              rw [hx]; exact this
            have hact7 := HA5.out.chg hc7 (fun h => h)
            have d70 := hact7.cell 0
            have d71 := hact7.cell 1
            simp only [List.getElem?_toArray, List.getElem?_cons_zero, List.getElem?_cons_succ] at d70 d71
            have hq := Lstat_fs (H5.out.1.keep hc7).fs q (by have := H6.out.2.2.2.1; unfold maxLen; omega)
            rw [H6.out.2.2.2.2.1, H6.out.2.2.2.2.2.1] at hq
            simp only [Info8.val] at hq
            have HQ := Lib.hid hq
            have H7 := Lib.hid (And.intro hc7 (And.intro hi7 (And.intro hI7 hact7)))
            clear hc7 hi7 hI7 hact7 hq c6 d0 d1 hx hs1
            go_wp2_with fail
            refine HQ.out.mono ?_
            rintro e w8 ⟨rfl, c8⟩
            have hc9 := c8.alloc (.cells #[.int .i64 s1.kind, .int .i64 s1.mode, .int .i64 s1.num, .int .i64 s1.links, .int .i64 s1.size, .string s1.target, .int .i64 s1.uid, .int .i64 s1.mtime] 41)
            have hj9 := Blk.new w8 #[.int .i64 s1.kind, .int .i64 s1.mode, .int .i64 s1.num, .int .i64 s1.links, .int .i64 s1.size, .string s1.target, .int .i64 s1.uid, .int .i64 s1.mtime] 41
            have hi9 := H7.out.2.1.chg hc9 (fun h => h)
            have hI9 := H7.out.2.2.1.chg hc9 (fun h => h)
            have hact9 := H7.out.2.2.2.chg hc9 (fun h => h)
            have hx := H6.out.2.2.2.2.2.2.2.2
            obtain ⟨w10, hst, gI, gc⟩ := hI9.store (by have := HR.out.2.1; have := HR.out.2.2.2.2.2.2.2; unfold maxLen; omega) s1.num (by have := H6.out.1; omega) (by have := H6.out.2.1; have := HR.out.2.2.2.2.2.1; omega) apath
            have hlk : decide (s1.links < 2) = false := by have := H6.out.2.2.2.2.2.2.1; simp; omega
            have H9 := Lib.hid (And.intro hc9 (And.intro gI gc))
            have x0 := hi9.cell 0
            have x1 := hi9.cell 1
            have x2 := hi9.cell 2
            have x3 := hi9.cell 3
            have x4 := hi9.cell 4
            have x5 := hi9.cell 5
            have x6 := hi9.cell 6
            have x7 := hi9.cell 7
            simp only [List.getElem?_toArray, List.getElem?_cons_zero, List.getElem?_cons_succ] at x0 x1 x2 x3 x4 x5 x6 x7
            have y0 := hj9.cell 0
            have y1 := hj9.cell 1
            have y2 := hj9.cell 2
            have y3 := hj9.cell 3
            have y4 := hj9.cell 4
            have y5 := hj9.cell 5
            have y6 := hj9.cell 6
            have y7 := hj9.cell 7
            simp only [List.getElem?_toArray, List.getElem?_cons_zero, List.getElem?_cons_succ] at y0 y1 y2 y3 y4 y5 y6 y7
            have d90 := hact9.cell 0
            have d91 := hact9.cell 1
            simp only [List.getElem?_toArray, List.getElem?_cons_zero, List.getElem?_cons_succ] at d90 d91
            clear hc9 hj9 hi9 hI9 hact9 gI gc c8 hx hk7 d70 d71
            go_upto_region 17 with fail
            generalize (w8.alloc (.cells #[.int .i64 s1.kind, .int .i64 s1.mode, .int .i64 s1.num, .int .i64 s1.links, .int .i64 s1.size, .string s1.target, .int .i64 s1.uid, .int .i64 s1.mtime] 41)) = W9 at *
            go_wp2_with fail
            go_roundw
            case rel =>
              obtain ⟨m5, s5, n5⟩ := H5.out
              obtain ⟨hn, hnk, hD, hOM, hInv, hPn, hge, hkl⟩ := HR.out
              obtain ⟨hc9, gI, gc⟩ := H9.out
              have hm9 := (m5.keep H7.out.1).keep hc9
              have hOM' : ¬ O' M := fun ho => by
                rcases n5.own _ ho with h | h
                · exact hOM h
                · have := HI.out.1.lt; omega
              refine ⟨⟨k + 1, n + 1, P', O', _, by simp, hkn, ⟨hm9.fs.chg gc (fun j hj e => hOM' (e ▸ hj)), hm9.chg.trans gc (fun _ _ h => h) (fun j hj e => by omega), hm9.ge⟩, by have := s5.n; omega, gI, by omega, ?_, hOM'⟩, hge⟩
              have := H6.out.2.2.2.2.2.2.2.1
              rw [← H6.out.2.2.2.2.2.2.2.2] at this; exact this
            case measure => simp; omega
          · have h34 : kind ≤ 3 := by have := H23.out.2; omega
            have t7 : (kind == 4) = false := by simpa using h4
            have t8 : decide (kind = 4) = false := by simpa using h4
            go_wp2_with (go_at_call 11; refine HD.out.mono ?_; rintro e w5 ⟨rfl, P', O', m5, s5, n5⟩; have H5 := Lib.hid (And.intro m5 (And.intro s5 n5)); have hact5 := HI.out.2.2.2.1.chg n5.chg HI.out.2.1; have d0 := hact5.cell 0; have d1 := hact5.cell 1; simp only [List.getElem?_toArray, List.getElem?_cons_zero, List.getElem?_cons_succ] at d0 d1; have HA5 := Lib.hid hact5; clear m5 s5 n5 hact5)
            obtain ⟨m5, s5, n5⟩ := H5.out
            obtain ⟨hn, hnk, hD, hOM, hInv, hPn, hge, hkl⟩ := HR.out
            obtain ⟨f1, f2, f3, f4⟩ := dis_do hD hInv s5 H1.out (by have := H23.out.1; show 0 ≤ kind; omega) h34 HI.out.2.2.2.2
            have hls := Lstat_fs m5.fs apath hpm
            rw [f1] at hls
            have H6 := Lib.hid (And.intro f2 (And.intro f3 f4))
            generalize hs1 : P'.stat apath.data.toList = s1 at *
            simp only [Info8.val] at hls
            have HLs := Lib.hid hls
            clear hls f1 f2 f3 f4 m5 s5 n5 hn hnk hD hOM hInv hPn hge hkl h34
            refine HLs.out.mono ?_
            rintro e w6 ⟨rfl, c6⟩
            have hc7 := c6.alloc (.cells #[.int .i64 s1.kind, .int .i64 s1.mode, .int .i64 s1.num, .int .i64 s1.links, .int .i64 s1.size, .string s1.target, .int .i64 s1.uid, .int .i64 s1.mtime] 41)
            have hi7 := Blk.new w6 #[.int .i64 s1.kind, .int .i64 s1.mode, .int .i64 s1.num, .int .i64 s1.links, .int .i64 s1.size, .string s1.target, .int .i64 s1.uid, .int .i64 s1.mtime] 41
            have hI7 := (HI.out.1.chg H5.out.2.2.chg HR.out.2.2.2.1).chg hc7 (fun h => h)
            have hx := H6.out.1
            have hb0 : -9223372036854775808 ≤ s1.num := by have := HR.out.2.2.2.2.1.nx.1; omega
            have hb1 : s1.num ≤ 9223372036854775807 := by have := HR.out.2.2.2.2.2.1; omega
            have hk7 : (Instr.lookup 35 (.map (some M)) (.int .i64 s1.num) true).run Tryd.prog (w6.alloc (.cells #[.int .i64 s1.kind, .int .i64 s1.mode, .int .i64 s1.num, .int .i64 s1.links, .int .i64 s1.size, .string s1.target, .int .i64 s1.uid, .int .i64 s1.mtime] 41)) = .ok (.tuple #[.string ⟨#[]⟩, .bool false]) (w6.alloc (.cells #[.int .i64 s1.kind, .int .i64 s1.mode, .int .i64 s1.num, .int .i64 s1.links, .int .i64 s1.size, .string s1.target, .int .i64 s1.uid, .int .i64 s1.mtime] 41)) := by
              have := hI7.look s1.num hb0 hb1
              rw [hx, H6.out.2.1] at this
              rw [hx]; exact this
            have hact7 := HA5.out.chg hc7 (fun h => h)
            obtain ⟨w10, hst, gI, gc⟩ := hI7.store (by have := HR.out.2.1; have := HR.out.2.2.2.2.2.2.2; unfold maxLen; omega) s1.num hb0 hb1 apath
            have H7 := Lib.hid (And.intro hc7 (And.intro gI gc))
            have x0 := hi7.cell 0
            have x1 := hi7.cell 1
            have x2 := hi7.cell 2
            have x3 := hi7.cell 3
            have x4 := hi7.cell 4
            have x5 := hi7.cell 5
            have x6 := hi7.cell 6
            have x7 := hi7.cell 7
            simp only [List.getElem?_toArray, List.getElem?_cons_zero, List.getElem?_cons_succ] at x0 x1 x2 x3 x4 x5 x6 x7
            have d70 := hact7.cell 0
            have d71 := hact7.cell 1
            simp only [List.getElem?_toArray, List.getElem?_cons_zero, List.getElem?_cons_succ] at d70 d71
            clear hc7 hi7 hI7 hact7 gI gc c6 d0 d1 hx hs1 hb0 hb1
            go_upto_region 10 with fail
            generalize (w6.alloc (.cells #[.int .i64 s1.kind, .int .i64 s1.mode, .int .i64 s1.num, .int .i64 s1.links, .int .i64 s1.size, .string s1.target, .int .i64 s1.uid, .int .i64 s1.mtime] 41)) = W7 at *
            go_wp2_with fail
            go_roundw
            case rel =>
              obtain ⟨m5, s5, n5⟩ := H5.out
              obtain ⟨hn, hnk, hD, hOM, hInv, hPn, hge, hkl⟩ := HR.out
              obtain ⟨hc7, gI, gc⟩ := H7.out
              have hm7 := m5.keep hc7
              have hOM' : ¬ O' M := fun ho => by
                rcases n5.own _ ho with h | h
                · exact hOM h
                · have := HI.out.1.lt; omega
              refine ⟨⟨k + 1, n + 1, P', O', _, by simp, hkn, ⟨hm7.fs.chg gc (fun j hj e => hOM' (e ▸ hj)), hm7.chg.trans gc (fun _ _ h => h) (fun j hj e => by omega), hm7.ge⟩, by have := s5.n; omega, gI, by omega, ?_, hOM'⟩, hge⟩
              rw [H6.out.1]; exact H6.out.2.2
            case measure => simp; omega
      · have tk : decide (k < l.length) = false := decide_eq_false hkn
        have HZ := Lib.hid hm.chg
        clear hm hn hI hnk hD hOM hge hkl
        go_wp2_with fail
        refine (alive_any _).mono ?_
        rintro e wz ⟨rfl, cz⟩
        have HY := Lib.hid (HZ.out.trans (U := fun _ => False) cz (fun _ _ h => h) (fun _ _ h => h)); clear cz
        go_wp2_with fail
        go_ret
        exact ⟨rfl, HY.out⟩
end Go.Proofs.YtfkfeoocglcjgaaDoor
