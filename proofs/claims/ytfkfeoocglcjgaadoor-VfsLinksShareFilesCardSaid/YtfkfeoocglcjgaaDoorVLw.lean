/- The law VfsLinksShareFiles, walked. -/
import Derived.Test.YtfkfeoocglcjgaaDoorVLs
set_option linter.unusedVariables false
set_option linter.unusedSimpArgs false
namespace Go.Proofs.YtfkfeoocglcjgaaDoor
open Go.RowKit

/-- The file system and the bytes beside it, while the latter are turned. -/
structure L1 (w0 wr : World) (B : Nat) (P : PFS) (O : Nat → Prop) (g n cap : Nat) (p : Value) : Prop where
  out : ∃ k : Nat, p = .int .i64 k ∧ k ≤ n
  fs : HasFS wr B P O
  own : OwnB wr g n cap
  ng : ¬ O g
  chg : Chg (fun _ => False) w0 wr
  ge : ∀ k, O k → w0.heap.size ≤ k
  gge : w0.heap.size ≤ g

structure L2 (w0 wr : World) (B rb nb K : Nat) (data : List UInt8) (p s : Value) : Prop where
  out : ∃ (k : Nat) (P : PFS) (O : Nat → Prop), p = .int .i64 k ∧ k ≤ K ∧ s = .string (nmB k) ∧ HasFS wr B P O ∧ LsInv P k rb nb data ∧ ∀ k, O k → w0.heap.size ≤ k
  chg : Chg (fun _ => False) w0 wr

/-- The same, beside two boxes with metadata. -/
structure L3 (w0 wr : World) (B : Nat) (P : PFS) (O : Nat → Prop) (A : Option Addr) (n cap ba bb : Nat) (st : Info8) (p : Value) : Prop where
  out : ∃ k : Nat, p = .int .i64 k ∧ k ≤ n
  fs : HasFS wr B P O
  own : n = 0 ∨ ∃ g, A = some ⟨g, 0, none⟩ ∧ OwnB wr g n cap ∧ ¬ O g ∧ g ≠ ba ∧ g ≠ bb ∧ w0.heap.size ≤ g
  a : Blk wr ba #[.int .i64 st.kind, .int .i64 st.mode, .int .i64 st.num, .int .i64 st.links, .int .i64 st.size, .string st.target, .int .i64 st.uid, .int .i64 st.mtime] 41
  b : Blk wr bb #[.int .i64 st.kind, .int .i64 st.mode, .int .i64 st.num, .int .i64 st.links, .int .i64 st.size, .string st.target, .int .i64 st.uid, .int .i64 st.mtime] 41
  chg : Chg (fun _ => False) w0 wr
theorem own_ptr {w : World} {e : TypeId} {A : Option Addr} {n c : Nat} {xs : List Value} (h : w.ownsRow 0 e 1 (.slice A n c) n xs) : n = 0 ∨ ∃ g, A = some ⟨g, 0, none⟩ := by
  rcases h.2 with ⟨_, h⟩ | ⟨g, _, _, h, _⟩
  · exact .inl h
  · cases h; exact .inr ⟨g, rfl⟩

theorem Next.old {w0 w w' : World} {O O' : Nat → Prop} (h : Next w w' O O') (c : Chg (fun _ => False) w0 w) (hO : ∀ k, O k → w0.heap.size ≤ k) : Chg (fun _ => False) w0 w' ∧ ∀ k, O' k → w0.heap.size ≤ k :=
  ⟨c.trans h.chg (fun _ _ h => h) (fun k hk ho => by have := hO k ho; omega), fun k hk => by
    rcases h.own k hk with h1 | h1
    · exact hO k h1
    · exact Nat.le_trans c.size h1⟩

set_option maxRecDepth 100000 in
set_option maxHeartbeats 8000000 in
theorem links_law (n : Int) (A : Option Addr) (m c : Nat) (data : List UInt8) (uid : Int) (w : World) (hm : data.length = m) (hl : Rd w A (by8 data)) (hA : A = none → m = 0) (hmb : m ≤ 9223372036854775807) (hn0 : 0 ≤ n) (hn1 : n ≤ 255) :
    Calls Tryd.prog 4 #[.int .u8 n, .slice A m c, .int .i64 uid] w fun e w' => e = .returned (.bool true) ∧ Chg (fun _ => False) w w' := by
  obtain ⟨i0, hi, hz0, hz1, hz2⟩ := info_parts infoU8
  obtain ⟨K, hK, hK20⟩ : ∃ K : Nat, n % 20 = (K : Int) ∧ K < 20 := ⟨(n % 20).toNat, by omega, by omega⟩
  have HL := Lib.hid hl; clear hl
  have HM := Lib.hid hm; clear hm
  have HA := Lib.hid hA; clear hA
  have hopt := Options_any 0 0 none 0 0 [] w rfl (.inl rfl) (by omega) (by omega) (by omega) (by omega) (by omega)
  simp only [Int.add_zero] at hopt
  have HO := Lib.hid hopt; clear hopt
  go_enter Tryd.func4, Tryd.ntmps4
  go_wp2_with (go_at_call 8; refine HO.out.mono ?_; rintro e w1 ⟨A1, c1, rfl, o1, o2⟩)
  have hnew := New_fs 1 1 A1 0 c1 [] w1 rfl (by omega) (.inl rfl) (fun _ => rfl) (by decide)
  have H1 := Lib.hid o2
  clear o1 o2
  refine hnew.mono ?_
  rintro e w2 ⟨B, rb, O, rfl, h1, hc1, hO1⟩
  have hc2 : Chg (fun _ => False) w w2 := H1.out.trans hc1 (fun _ _ h => h) (fun _ _ h => h)
  have hO2 : ∀ k, O k → w.heap.size ≤ k := fun k hk => Nat.le_trans H1.out.size (hO1 k hk)
  have H2 := Lib.hid (And.intro h1 (And.intro hc2 hO2))
  clear h1 hc1 hO1 hc2 hO2 hnew
  by_cases hbig : 1000 < m
  · have t1 : decide ((1000 : Int) < m) = true := by simp; omega
    have t2 : (1000 : Int) < m := by omega
    clear hbig
    go_wp2_with (go_at_call 10; refine (alive_any _).mono ?_; rintro e wz ⟨rfl, cz⟩)
    go_ret
    exact ⟨rfl, H2.out.2.1.trans cz (fun _ _ h => h) (fun _ _ h => h)⟩
  · have t1 : decide ((1000 : Int) < m) = false := by simp; omega
    -- own := append([]byte{}, data...)
    have happ : ∀ (Q : Exit → Act → World → Prop), True := fun _ => trivial
    clear happ
    have HB := Lib.hid hbig; clear hbig
    by_cases h0 : m = 0
    · subst h0
      cases A with
      | none =>
        have hown : (w2.alloc (.cells #[] 5)).ownsRow 0 5 1 (.slice (some ⟨w2.heap.size, 0, none⟩) 0 0) 0 (by8 data) := by
          have hd : data = [] := List.eq_nil_of_length_eq_zero HM.out
          rw [hd]; exact World.ownsRow_lit w2 #[] 0 (Nat.zero_le _) (Nat.zero_le _) rfl
        have hc3 : Chg (fun _ => False) w2 (w2.alloc (.cells #[] 5)) := (Chg.refl _ _).alloc _
        have hg : w2.heap.size ≤ w2.heap.size := Nat.le_refl _
        have hF3 : HasFS (w2.alloc (.cells #[] 5)) B (rootP rb 1 1 []) O := H2.out.1.chg hc3 (fun _ _ h => h)
        have hng : ¬ O w2.heap.size := fun ho => by have := H2.out.1.lt ho; omega
        have hcr := Create_fs hF3 ⟨#[102]⟩ 420 (some ⟨w2.heap.size, 0, none⟩) 0 0 data (by decide) (by simp [rootP]) HM.out (by have := HB.out; omega) (Rd.of_own hown rfl) (fun h => by cases h) (fun _ ad e => by cases e; exact hng)
        rw [show (⟨#[102]⟩ : ByteArray).data.toList = nm 0 from rfl, ls_make] at hcr
        have HC := Lib.hid hcr
        have HW := Lib.hid (And.intro hown (And.intro hc3 (And.intro hg hng)))
        clear hF3 hng hcr hown hc3 hg
        go_wp2_with (go_at_call 13; refine HC.out.mono ?_; rintro e w4 ⟨rfl, P4, O4, h4, n4, s4⟩)
        obtain ⟨hown, hc3, hg, hng⟩ := HW.out
        have hst : L1 w w4 B P4 O4 w2.heap.size 0 0 (.int .i64 0) := by
          have hN := n4.old (H2.out.2.1.trans (U := fun _ => False) hc3 (fun _ _ h => h) (fun _ _ h => h)) H2.out.2.2
          refine ⟨⟨0, rfl, Nat.zero_le _⟩, h4, ⟨_, by rw [← i8_of_by8]; exact own_chg hown n4.chg (fun k hk => by have := own_blk_eq hk; subst this; exact hng)⟩, ?_, hN.1, hN.2, ?_⟩
          · intro ho
            rcases n4.own _ ho with h | h
            · exact hng h
            · have := (hown.lt w2.heap.size rfl).2; omega
          · have := H2.out.2.1.size; omega
        obtain ⟨nb, hls⟩ := ls_start s4
        have HS := Lib.hid hst
        have HLs := Lib.hid hls
        clear hown hc3 hg hng hst hls h4 n4 s4 HW HC
        go_loopw [51] (fun p wr => L1 w wr B P4 O4 w2.heap.size 0 0 p) (fun p _ => 0 - (match p with | .int _ k => k.toNat | _ => 0))
        case atStart => exact HS.out
        case round =>
          obtain ⟨⟨k, rfl, hk⟩, r1, r2, r3, r4, r5, r6⟩ := hrel
          by_cases hkn : k < 0
          · exact absurd hkn (Nat.not_lt_zero _)
          · have tk : decide (k < 0) = false := decide_eq_false hkn
            have HR := Lib.hid (And.intro r1 (And.intro r4 r5))
            clear r1 r2 r3 r4 r5 r6 hkn hk
            go_wp2_with fail
            go_loopw [62, 12] (fun p s wr => L2 w wr B rb nb K data p s) (fun p _ _ => K - (match p with | .int _ k => k.toNat | _ => 0))
            case atStart => exact ⟨⟨0, P4, O4, rfl, Nat.zero_le _, rfl, HR.out.1, HLs.out, HR.out.2.2⟩, HR.out.2.1⟩
            case round =>
              obtain ⟨⟨k, P, O2, rfl, hk, rfl, r1, r2, r3⟩, r4⟩ := hrel
              by_cases hkn : k < K
              · have hkb : IntKind.i64.wrap ((k : Int) + 1) = k + 1 := by rw [IntKind.wrap_i64]; omega
                have i0' : (0 : Int) ≤ k := by omega
                have i1 : (k : Int) < K := by omega
                have tk : decide (k < K) = true := by simpa using hkn
                have hcat := nmB_succ k
                have hsz : ¬ 9223372036854775807 < (nmB k).size + 1 := by rw [nmB_size]; omega
                have hlk := Link_fs r1 (nmB (k + 1)) (nmB k) (by rw [nmB_size]; omega) (by rw [nmB_size]; unfold maxLen; omega) (by have := r2.n; omega)
                obtain ⟨e1, e2⟩ := ls_link r2 (by omega)
                rw [nmB_list, nmB_list, e1] at hlk
                have HK := Lib.hid hlk
                have HR := Lib.hid (And.intro e2 (And.intro r3 r4))
                clear hlk e1 e2 r1 r2 r3 r4
                go_wp2_with (go_at_call 14; refine HK.out.mono ?_; rintro e w5 ⟨rfl, P5, O5, h5, n5, s5⟩; have H5 := Lib.hid (And.intro h5 (And.intro n5 s5)); clear h5 n5 s5)
                go_roundw
                case rel =>
                  obtain ⟨e2, r3, r4⟩ := HR.out
                  obtain ⟨h5, n5, s5⟩ := H5.out
                  have hN := n5.old r4 r3
                  exact ⟨⟨k + 1, P5, O5, by simp, hkn, rfl, h5, e2 P5 s5, hN.2⟩, hN.1⟩
                case measure => simp; omega
              · have tk : decide (k < K) = false := by simp; omega
                obtain rfl : k = K := by omega
                have hch := Chown_fs r1 (nmB k) uid 7 (by rw [nmB_size]; unfold maxLen; omega)
                rw [nmB_list] at hch
                have hfe : P.findErr (nm k) = 0 := by unfold PFS.findErr; rw [r2.Fk k (Nat.le_refl _)]; rfl
                rw [hfe] at hch
                have HK := Lib.hid hch
                have HR := Lib.hid (And.intro r2 (And.intro r3 r4))
                clear hch r1 r2 r3 r4 hkn hk hfe
                go_wp2_with (go_at_call 15; refine HK.out.mono ?_; rintro e w6 ⟨rfl, P6, h6, n6, s6⟩)
                obtain ⟨r2, r3, r4⟩ := HR.out
                obtain ⟨st, f1, f2, f3, f4, f5, f6, f7, f8, f9, f10⟩ := ls_end r2 s6
                have hN := n6.old r4 r3
                have hla := Lstat_fs h6 ⟨#[102]⟩ (by decide)
                rw [show (⟨#[102]⟩ : ByteArray).data.toList = nm 0 from rfl, f1, f5] at hla
                simp only [Info8.val] at hla
                have HLa := Lib.hid hla
                have H6 := Lib.hid (And.intro h6 hN)
                have HF := Lib.hid (And.intro f2 (And.intro f6 (And.intro f7 (And.intro f8 (And.intro f9 f10)))))
                have HST := Lib.hid (And.intro f3 f4)
                clear hla h6 hN f1 f2 f3 f4 f5 f6 f7 f8 f9 f10 n6 s6 r2 r3 r4 HR HK
                refine HLa.out.mono ?_
                rintro e w7 ⟨rfl, c7⟩
                have hbA := Blk.new w7 #[.int .i64 st.kind, .int .i64 st.mode, .int .i64 st.num, .int .i64 st.links, .int .i64 st.size, .string st.target, .int .i64 st.uid, .int .i64 st.mtime] 41
                have hcA := c7.alloc (.cells #[.int .i64 st.kind, .int .i64 st.mode, .int .i64 st.num, .int .i64 st.links, .int .i64 st.size, .string st.target, .int .i64 st.uid, .int .i64 st.mtime] 41)
                have hlb := Lstat_fs (H6.out.1.chg hcA (fun _ _ h => h)) (nmB k) (by rw [nmB_size]; unfold maxLen; omega)
                rw [nmB_list, HF.out.1, HF.out.2.1] at hlb
                simp only [Info8.val] at hlb
                have HLb := Lib.hid hlb
                have H7 := Lib.hid (And.intro hbA hcA)
                clear hbA hcA hlb c7
                go_wp2_with fail
                refine HLb.out.mono ?_
                rintro e w8 ⟨rfl, c8⟩
                have hbB := Blk.new w8 #[.int .i64 st.kind, .int .i64 st.mode, .int .i64 st.num, .int .i64 st.links, .int .i64 st.size, .string st.target, .int .i64 st.uid, .int .i64 st.mtime] 41
                have hcB := c8.alloc (.cells #[.int .i64 st.kind, .int .i64 st.mode, .int .i64 st.num, .int .i64 st.links, .int .i64 st.size, .string st.target, .int .i64 st.uid, .int .i64 st.mtime] 41)
                have hbA := H7.out.1.chg hcB (fun h => h)
                have hcAB := H7.out.2.trans (U := fun _ => False) hcB (fun _ _ h => h) (fun _ _ h => h)
                have hrf := ReadFile_fs (H6.out.1.chg hcAB (fun _ _ h => h)) (nmB k) (by rw [nmB_size]; unfold maxLen; omega)
                rw [nmB_list, HF.out.2.2.1, HF.out.2.2.2.2.1] at hrf
                have HRf := Lib.hid hrf
                have H8 := Lib.hid (And.intro hbA (And.intro hbB hcAB))
                clear hbA hbB hcB hcAB hrf c8
                go_wp2_with fail
                refine HRf.out.mono ?_
                rintro e w9 ⟨A9, c9, rfl, x1, x2, x3⟩
                have H9 := Lib.hid (And.intro x1 (And.intro x2 x3))
                clear x1 x2 x3
                go_wp2_with fail
                go_loopw [97] (fun p wr => L3 w wr B P6 O2 A9 data.length c9 w7.heap.size w8.heap.size st p) (fun p _ => data.length - (match p with | .int _ k => k.toNat | _ => 0))
                case atStart =>
                  obtain ⟨x1, x2, x3⟩ := H9.out
                  obtain ⟨b1, b2, b3⟩ := H8.out
                  have l1 := b1.lt
                  have l2 := b2.lt
                  have h6 := H6.out
                  refine ⟨⟨0, rfl, Nat.zero_le _⟩, h6.1.chg (b3.trans (U := fun _ => False) x3 (fun _ _ h => h) (fun _ _ h => h)) (fun _ _ h => h), ?_, b1.chg x3 (fun h => h), b2.chg x3 (fun h => h), (h6.2.1.trans (U := fun _ => False) b3 (fun _ _ h => h) (fun _ _ h => h)).trans x3 (fun _ _ h => h) (fun _ _ h => h)⟩
                  rcases own_ptr x1 with h | ⟨gx, hgx⟩
                  · exact .inl h
                  · subst hgx
                    refine .inr ⟨gx, rfl, ⟨_, by rw [← i8_of_by8]; exact x1⟩, ?_, ?_, ?_, ?_⟩
                    · intro ho; have := x2 gx rfl; have := h6.1.lt ho; have := b3.size; omega
                    · have := x2 gx rfl; omega
                    · have := x2 gx rfl; omega
                    · have := x2 gx rfl; have := b3.size; have := h6.2.1.size; omega
                case round =>
                  obtain ⟨⟨j, rfl, hj⟩, r1, r2, r3, r4, r5⟩ := hrel
                  by_cases hjn : j < data.length
                  · have hkb : IntKind.i64.wrap ((j : Int) + 1) = j + 1 := by rw [IntKind.wrap_i64]; have := HB.out; have := HM.out; omega
                    have i0' : (0 : Int) ≤ j := by omega
                    have i1 : (j : Int) < data.length := by omega
                    have tj : decide (j < data.length) = true := by simpa using hjn
                    obtain ⟨gx, rfl, q1, q2, q3, q4, q5⟩ : ∃ gx, A9 = some ⟨gx, 0, none⟩ ∧ OwnB wr gx data.length c9 ∧ ¬ O2 gx ∧ gx ≠ w7.heap.size ∧ gx ≠ w8.heap.size ∧ w.heap.size ≤ gx := by
                      rcases r2 with h | h
                      · omega
                      · exact h
                    obtain ⟨x, hx, fx⟩ := q1.cell j hjn
                    have HR := Lib.hid (And.intro r1 (And.intro r3 (And.intro r4 (And.intro r5 (And.intro q1 (And.intro q2 (And.intro q3 (And.intro q4 q5))))))))
                    clear r1 r2 r3 r4 r5 q1 q2 q3 q4 q5
                    go_wp2_with fail
                    go_roundw
                    case rel =>
                      obtain ⟨r1, r3, r4, r5, q1, q2, q3, q4, q5⟩ := HR.out
                      have hs := fun u => (Chg.refl (fun i => i = gx) wr).setCell ⟨gx, j, none⟩ u (fun _ => rfl)
                      exact ⟨⟨j + 1, by simp, hjn⟩, r1.chg (hs _) (fun i hi e => q2 (e ▸ hi)), .inr ⟨gx, rfl, q1.set j hjn _, q2, q3, q4, q5⟩, r3.chg (hs _) (fun e => q3 e.symm), r4.chg (hs _) (fun e => q4 e.symm), r5.trans (hs _) (fun _ _ h => h) (fun i hi e => by omega)⟩
                    case measure => simp; omega
                  · have tj : decide (j < data.length) = false := decide_eq_false hjn
                    have hrg := ReadFile_fs r1 ⟨#[102]⟩ (by decide)
                    rw [show (⟨#[102]⟩ : ByteArray).data.toList = nm 0 from rfl, HF.out.2.2.2.1, HF.out.2.2.2.2.2] at hrg
                    have HRg := Lib.hid hrg
                    have HR := Lib.hid (And.intro r3 (And.intro r4 r5))
                    clear r1 r2 r3 r4 r5 hrg hj
                    go_wp2_with fail
                    refine HRg.out.mono ?_
                    rintro e w10 ⟨A10, c10, rfl, y1, y2, y3⟩
                    have H10 := Lib.hid (And.intro y1 y3)
                    clear y1 y2 y3
                    go_wp2_with fail
                    refine (alive_any _).mono ?_
                    rintro e w11 ⟨rfl, c11⟩
                    obtain ⟨y1, y3⟩ := H10.out
                    obtain ⟨r3, r4, r5⟩ := HR.out
                    have hY := y3.trans (U := fun _ => False) c11 (fun _ _ h => h) (fun _ _ h => h)
                    have hA := r3.chg hY (fun h => h)
                    have hB := r4.chg hY (fun h => h)
                    have hW := r5.trans (U := fun _ => False) hY (fun _ _ h => h) (fun _ _ h => h)
                    have hcv := conv_rd w11 A10 data.length c10 data rfl (Rd.of_own (own_chg y1 c11 (fun _ _ h => h)) rfl)
                    have hcd := conv_rd w11 none 0 c data HM.out (HL.out.chg hW (fun _ _ h => h))
                    have a0 := hA.cell 0
                    have a1 := hA.cell 1
                    have a2 := hA.cell 2
                    have a3 := hA.cell 3
                    have a4 := hA.cell 4
                    have a5 := hA.cell 5
                    have a6 := hA.cell 6
                    have a7 := hA.cell 7
                    have b0 := hB.cell 0
                    have b1 := hB.cell 1
                    have b2 := hB.cell 2
                    have b3 := hB.cell 3
                    have b4 := hB.cell 4
                    have b5 := hB.cell 5
                    have b6 := hB.cell 6
                    have b7 := hB.cell 7
                    simp only [List.getElem?_toArray, List.getElem?_cons_zero, List.getElem?_cons_succ] at a0 a1 a2 a3 a4 a5 a6 a7 b0 b1 b2 b3 b4 b5 b6 b7
                    rw [HST.out.1] at a3
                    rw [HST.out.1] at b3
                    rw [HST.out.2] at a6
                    rw [HST.out.2] at b6
                    have hk1 : IntKind.i64.wrap ((k : Int) + 1) = k + 1 := by rw [IntKind.wrap_i64]; omega
                    have HW := Lib.hid hW
                    clear hA hB hW hY y1 y3 r3 r4 r5 c11
                    go_wp2_with fail
                    go_ret
                    exact ⟨rfl, HW.out⟩
      | some a =>
        have hown : (w2.alloc (.cells #[] 5)).ownsRow 0 5 1 (.slice (some ⟨w2.heap.size, 0, none⟩) 0 0) 0 (by8 data) := by
          have hd : data = [] := List.eq_nil_of_length_eq_zero HM.out
          rw [hd]; exact World.ownsRow_lit w2 #[] 0 (Nat.zero_le _) (Nat.zero_le _) rfl
        have hc3 : Chg (fun _ => False) w2 (w2.alloc (.cells #[] 5)) := (Chg.refl _ _).alloc _
        have hg : w2.heap.size ≤ w2.heap.size := Nat.le_refl _
        have hF3 : HasFS (w2.alloc (.cells #[] 5)) B (rootP rb 1 1 []) O := H2.out.1.chg hc3 (fun _ _ h => h)
        have hng : ¬ O w2.heap.size := fun ho => by have := H2.out.1.lt ho; omega
        have hcr := Create_fs hF3 ⟨#[102]⟩ 420 (some ⟨w2.heap.size, 0, none⟩) 0 0 data (by decide) (by simp [rootP]) HM.out (by have := HB.out; omega) (Rd.of_own hown rfl) (fun h => by cases h) (fun _ ad e => by cases e; exact hng)
        rw [show (⟨#[102]⟩ : ByteArray).data.toList = nm 0 from rfl, ls_make] at hcr
        have HC := Lib.hid hcr
        have HW := Lib.hid (And.intro hown (And.intro hc3 (And.intro hg hng)))
        clear hF3 hng hcr hown hc3 hg
        go_wp2_with (go_at_call 13; refine HC.out.mono ?_; rintro e w4 ⟨rfl, P4, O4, h4, n4, s4⟩)
        obtain ⟨hown, hc3, hg, hng⟩ := HW.out
        have hst : L1 w w4 B P4 O4 w2.heap.size 0 0 (.int .i64 0) := by
          have hN := n4.old (H2.out.2.1.trans (U := fun _ => False) hc3 (fun _ _ h => h) (fun _ _ h => h)) H2.out.2.2
          refine ⟨⟨0, rfl, Nat.zero_le _⟩, h4, ⟨_, by rw [← i8_of_by8]; exact own_chg hown n4.chg (fun k hk => by have := own_blk_eq hk; subst this; exact hng)⟩, ?_, hN.1, hN.2, ?_⟩
          · intro ho
            rcases n4.own _ ho with h | h
            · exact hng h
            · have := (hown.lt w2.heap.size rfl).2; omega
          · have := H2.out.2.1.size; omega
        obtain ⟨nb, hls⟩ := ls_start s4
        have HS := Lib.hid hst
        have HLs := Lib.hid hls
        clear hown hc3 hg hng hst hls h4 n4 s4 HW HC
        go_loopw [51] (fun p wr => L1 w wr B P4 O4 w2.heap.size 0 0 p) (fun p _ => 0 - (match p with | .int _ k => k.toNat | _ => 0))
        case atStart => exact HS.out
        case round =>
          obtain ⟨⟨k, rfl, hk⟩, r1, r2, r3, r4, r5, r6⟩ := hrel
          by_cases hkn : k < 0
          · exact absurd hkn (Nat.not_lt_zero _)
          · have tk : decide (k < 0) = false := decide_eq_false hkn
            have HR := Lib.hid (And.intro r1 (And.intro r4 r5))
            clear r1 r2 r3 r4 r5 r6 hkn hk
            go_wp2_with fail
            go_loopw [62, 12] (fun p s wr => L2 w wr B rb nb K data p s) (fun p _ _ => K - (match p with | .int _ k => k.toNat | _ => 0))
            case atStart => exact ⟨⟨0, P4, O4, rfl, Nat.zero_le _, rfl, HR.out.1, HLs.out, HR.out.2.2⟩, HR.out.2.1⟩
            case round =>
              obtain ⟨⟨k, P, O2, rfl, hk, rfl, r1, r2, r3⟩, r4⟩ := hrel
              by_cases hkn : k < K
              · have hkb : IntKind.i64.wrap ((k : Int) + 1) = k + 1 := by rw [IntKind.wrap_i64]; omega
                have i0' : (0 : Int) ≤ k := by omega
                have i1 : (k : Int) < K := by omega
                have tk : decide (k < K) = true := by simpa using hkn
                have hcat := nmB_succ k
                have hsz : ¬ 9223372036854775807 < (nmB k).size + 1 := by rw [nmB_size]; omega
                have hlk := Link_fs r1 (nmB (k + 1)) (nmB k) (by rw [nmB_size]; omega) (by rw [nmB_size]; unfold maxLen; omega) (by have := r2.n; omega)
                obtain ⟨e1, e2⟩ := ls_link r2 (by omega)
                rw [nmB_list, nmB_list, e1] at hlk
                have HK := Lib.hid hlk
                have HR := Lib.hid (And.intro e2 (And.intro r3 r4))
                clear hlk e1 e2 r1 r2 r3 r4
                go_wp2_with (go_at_call 14; refine HK.out.mono ?_; rintro e w5 ⟨rfl, P5, O5, h5, n5, s5⟩; have H5 := Lib.hid (And.intro h5 (And.intro n5 s5)); clear h5 n5 s5)
                go_roundw
                case rel =>
                  obtain ⟨e2, r3, r4⟩ := HR.out
                  obtain ⟨h5, n5, s5⟩ := H5.out
                  have hN := n5.old r4 r3
                  exact ⟨⟨k + 1, P5, O5, by simp, hkn, rfl, h5, e2 P5 s5, hN.2⟩, hN.1⟩
                case measure => simp; omega
              · have tk : decide (k < K) = false := by simp; omega
                obtain rfl : k = K := by omega
                have hch := Chown_fs r1 (nmB k) uid 7 (by rw [nmB_size]; unfold maxLen; omega)
                rw [nmB_list] at hch
                have hfe : P.findErr (nm k) = 0 := by unfold PFS.findErr; rw [r2.Fk k (Nat.le_refl _)]; rfl
                rw [hfe] at hch
                have HK := Lib.hid hch
                have HR := Lib.hid (And.intro r2 (And.intro r3 r4))
                clear hch r1 r2 r3 r4 hkn hk hfe
                go_wp2_with (go_at_call 15; refine HK.out.mono ?_; rintro e w6 ⟨rfl, P6, h6, n6, s6⟩)
                obtain ⟨r2, r3, r4⟩ := HR.out
                obtain ⟨st, f1, f2, f3, f4, f5, f6, f7, f8, f9, f10⟩ := ls_end r2 s6
                have hN := n6.old r4 r3
                have hla := Lstat_fs h6 ⟨#[102]⟩ (by decide)
                rw [show (⟨#[102]⟩ : ByteArray).data.toList = nm 0 from rfl, f1, f5] at hla
                simp only [Info8.val] at hla
                have HLa := Lib.hid hla
                have H6 := Lib.hid (And.intro h6 hN)
                have HF := Lib.hid (And.intro f2 (And.intro f6 (And.intro f7 (And.intro f8 (And.intro f9 f10)))))
                have HST := Lib.hid (And.intro f3 f4)
                clear hla h6 hN f1 f2 f3 f4 f5 f6 f7 f8 f9 f10 n6 s6 r2 r3 r4 HR HK
                refine HLa.out.mono ?_
                rintro e w7 ⟨rfl, c7⟩
                have hbA := Blk.new w7 #[.int .i64 st.kind, .int .i64 st.mode, .int .i64 st.num, .int .i64 st.links, .int .i64 st.size, .string st.target, .int .i64 st.uid, .int .i64 st.mtime] 41
                have hcA := c7.alloc (.cells #[.int .i64 st.kind, .int .i64 st.mode, .int .i64 st.num, .int .i64 st.links, .int .i64 st.size, .string st.target, .int .i64 st.uid, .int .i64 st.mtime] 41)
                have hlb := Lstat_fs (H6.out.1.chg hcA (fun _ _ h => h)) (nmB k) (by rw [nmB_size]; unfold maxLen; omega)
                rw [nmB_list, HF.out.1, HF.out.2.1] at hlb
                simp only [Info8.val] at hlb
                have HLb := Lib.hid hlb
                have H7 := Lib.hid (And.intro hbA hcA)
                clear hbA hcA hlb c7
                go_wp2_with fail
                refine HLb.out.mono ?_
                rintro e w8 ⟨rfl, c8⟩
                have hbB := Blk.new w8 #[.int .i64 st.kind, .int .i64 st.mode, .int .i64 st.num, .int .i64 st.links, .int .i64 st.size, .string st.target, .int .i64 st.uid, .int .i64 st.mtime] 41
                have hcB := c8.alloc (.cells #[.int .i64 st.kind, .int .i64 st.mode, .int .i64 st.num, .int .i64 st.links, .int .i64 st.size, .string st.target, .int .i64 st.uid, .int .i64 st.mtime] 41)
                have hbA := H7.out.1.chg hcB (fun h => h)
                have hcAB := H7.out.2.trans (U := fun _ => False) hcB (fun _ _ h => h) (fun _ _ h => h)
                have hrf := ReadFile_fs (H6.out.1.chg hcAB (fun _ _ h => h)) (nmB k) (by rw [nmB_size]; unfold maxLen; omega)
                rw [nmB_list, HF.out.2.2.1, HF.out.2.2.2.2.1] at hrf
                have HRf := Lib.hid hrf
                have H8 := Lib.hid (And.intro hbA (And.intro hbB hcAB))
                clear hbA hbB hcB hcAB hrf c8
                go_wp2_with fail
                refine HRf.out.mono ?_
                rintro e w9 ⟨A9, c9, rfl, x1, x2, x3⟩
                have H9 := Lib.hid (And.intro x1 (And.intro x2 x3))
                clear x1 x2 x3
                go_wp2_with fail
                go_loopw [97] (fun p wr => L3 w wr B P6 O2 A9 data.length c9 w7.heap.size w8.heap.size st p) (fun p _ => data.length - (match p with | .int _ k => k.toNat | _ => 0))
                case atStart =>
                  obtain ⟨x1, x2, x3⟩ := H9.out
                  obtain ⟨b1, b2, b3⟩ := H8.out
                  have l1 := b1.lt
                  have l2 := b2.lt
                  have h6 := H6.out
                  refine ⟨⟨0, rfl, Nat.zero_le _⟩, h6.1.chg (b3.trans (U := fun _ => False) x3 (fun _ _ h => h) (fun _ _ h => h)) (fun _ _ h => h), ?_, b1.chg x3 (fun h => h), b2.chg x3 (fun h => h), (h6.2.1.trans (U := fun _ => False) b3 (fun _ _ h => h) (fun _ _ h => h)).trans x3 (fun _ _ h => h) (fun _ _ h => h)⟩
                  rcases own_ptr x1 with h | ⟨gx, hgx⟩
                  · exact .inl h
                  · subst hgx
                    refine .inr ⟨gx, rfl, ⟨_, by rw [← i8_of_by8]; exact x1⟩, ?_, ?_, ?_, ?_⟩
                    · intro ho; have := x2 gx rfl; have := h6.1.lt ho; have := b3.size; omega
                    · have := x2 gx rfl; omega
                    · have := x2 gx rfl; omega
                    · have := x2 gx rfl; have := b3.size; have := h6.2.1.size; omega
                case round =>
                  obtain ⟨⟨j, rfl, hj⟩, r1, r2, r3, r4, r5⟩ := hrel
                  by_cases hjn : j < data.length
                  · have hkb : IntKind.i64.wrap ((j : Int) + 1) = j + 1 := by rw [IntKind.wrap_i64]; have := HB.out; have := HM.out; omega
                    have i0' : (0 : Int) ≤ j := by omega
                    have i1 : (j : Int) < data.length := by omega
                    have tj : decide (j < data.length) = true := by simpa using hjn
                    obtain ⟨gx, rfl, q1, q2, q3, q4, q5⟩ : ∃ gx, A9 = some ⟨gx, 0, none⟩ ∧ OwnB wr gx data.length c9 ∧ ¬ O2 gx ∧ gx ≠ w7.heap.size ∧ gx ≠ w8.heap.size ∧ w.heap.size ≤ gx := by
                      rcases r2 with h | h
                      · omega
                      · exact h
                    obtain ⟨x, hx, fx⟩ := q1.cell j hjn
                    have HR := Lib.hid (And.intro r1 (And.intro r3 (And.intro r4 (And.intro r5 (And.intro q1 (And.intro q2 (And.intro q3 (And.intro q4 q5))))))))
                    clear r1 r2 r3 r4 r5 q1 q2 q3 q4 q5
                    go_wp2_with fail
                    go_roundw
                    case rel =>
                      obtain ⟨r1, r3, r4, r5, q1, q2, q3, q4, q5⟩ := HR.out
                      have hs := fun u => (Chg.refl (fun i => i = gx) wr).setCell ⟨gx, j, none⟩ u (fun _ => rfl)
                      exact ⟨⟨j + 1, by simp, hjn⟩, r1.chg (hs _) (fun i hi e => q2 (e ▸ hi)), .inr ⟨gx, rfl, q1.set j hjn _, q2, q3, q4, q5⟩, r3.chg (hs _) (fun e => q3 e.symm), r4.chg (hs _) (fun e => q4 e.symm), r5.trans (hs _) (fun _ _ h => h) (fun i hi e => by omega)⟩
                    case measure => simp; omega
                  · have tj : decide (j < data.length) = false := decide_eq_false hjn
                    have hrg := ReadFile_fs r1 ⟨#[102]⟩ (by decide)
                    rw [show (⟨#[102]⟩ : ByteArray).data.toList = nm 0 from rfl, HF.out.2.2.2.1, HF.out.2.2.2.2.2] at hrg
                    have HRg := Lib.hid hrg
                    have HR := Lib.hid (And.intro r3 (And.intro r4 r5))
                    clear r1 r2 r3 r4 r5 hrg hj
                    go_wp2_with fail
                    refine HRg.out.mono ?_
                    rintro e w10 ⟨A10, c10, rfl, y1, y2, y3⟩
                    have H10 := Lib.hid (And.intro y1 y3)
                    clear y1 y2 y3
                    go_wp2_with fail
                    refine (alive_any _).mono ?_
                    rintro e w11 ⟨rfl, c11⟩
                    obtain ⟨y1, y3⟩ := H10.out
                    obtain ⟨r3, r4, r5⟩ := HR.out
                    have hY := y3.trans (U := fun _ => False) c11 (fun _ _ h => h) (fun _ _ h => h)
                    have hA := r3.chg hY (fun h => h)
                    have hB := r4.chg hY (fun h => h)
                    have hW := r5.trans (U := fun _ => False) hY (fun _ _ h => h) (fun _ _ h => h)
                    have hcv := conv_rd w11 A10 data.length c10 data rfl (Rd.of_own (own_chg y1 c11 (fun _ _ h => h)) rfl)
                    have hcd := conv_rd w11 (some a) 0 c data HM.out (HL.out.chg hW (fun _ _ h => h))
                    have a0 := hA.cell 0
                    have a1 := hA.cell 1
                    have a2 := hA.cell 2
                    have a3 := hA.cell 3
                    have a4 := hA.cell 4
                    have a5 := hA.cell 5
                    have a6 := hA.cell 6
                    have a7 := hA.cell 7
                    have b0 := hB.cell 0
                    have b1 := hB.cell 1
                    have b2 := hB.cell 2
                    have b3 := hB.cell 3
                    have b4 := hB.cell 4
                    have b5 := hB.cell 5
                    have b6 := hB.cell 6
                    have b7 := hB.cell 7
                    simp only [List.getElem?_toArray, List.getElem?_cons_zero, List.getElem?_cons_succ] at a0 a1 a2 a3 a4 a5 a6 a7 b0 b1 b2 b3 b4 b5 b6 b7
                    rw [HST.out.1] at a3
                    rw [HST.out.1] at b3
                    rw [HST.out.2] at a6
                    rw [HST.out.2] at b6
                    have hk1 : IntKind.i64.wrap ((k : Int) + 1) = k + 1 := by rw [IntKind.wrap_i64]; omega
                    have HW := Lib.hid hW
                    clear hA hB hW hY y1 y3 r3 r4 r5 c11
                    go_wp2_with fail
                    go_ret
                    exact ⟨rfl, HW.out⟩
    · obtain ⟨g0, off, rfl, hcell⟩ : ∃ g off, A = some ⟨g, off, none⟩ ∧ ∀ j u, (by8 data)[j]? = some u → w.cell? ⟨g, off + j, none⟩ = some u := by
        rcases HL.out with h | h
        · have : data = [] := by simpa [by8] using h
          subst this; have := HM.out; simp at this; omega
        · exact h
      have hnews : ∀ j u, (by8 data)[j]? = some u → (w2.alloc (.cells #[] 5)).cell? ((⟨g0, off, none⟩ : Addr).add j) = some u := by
        intro j u hu
        rw [show ((⟨g0, off, none⟩ : Addr).add j) = ⟨g0, off + j, none⟩ by unfold Addr.add; split <;> simp_all]
        exact cell_keep (H2.out.2.1.alloc _) (hcell j u hu)
      have HNw := Lib.hid hnews; clear hnews hcell
      have HOn := Lib.hid (by8_one data)
      have HLn := Lib.hid (show (by8 data).length = m * 1 by rw [by8_length]; have := HM.out; omega)
      go_wp2_with (first | (at_builtin; refine wpList_append_lies _ rfl (.tmp 42) (.tmp 43) 36 rfl 0 5 i0 (.int .u8 0) 1 1 Tryd.underlying36 hi hz0 hz1 hz2 rfl (by decide) (.slice (some ⟨w2.heap.size, 0, none⟩) 0 0) 0 [] rfl (World.ownsRow_lit w2 #[] 0 (Nat.zero_le _) (Nat.zero_le _) rfl) ⟨g0, off, none⟩ m c (by8 data) rfl HLn.out HNw.out HOn.out (by omega) ?b1 ?b2 (Nat.zero_le _) _ rfl ?_))
      case b1 => unfold maxLen; omega
      case b2 => have := HB.out; omega
      intro g cap w3 hown hgrow hor hkk
      try simp only [Nat.zero_add, List.nil_append] at hown
      have hc3 : Chg (fun _ => False) w2 w3 := chg_grown ((Chg.refl _ w2).alloc _) hgrow (own_ge (Nat.le_refl _))
      have hg : w2.heap.size ≤ g := own_or hor (Nat.le_refl _) (by simp)
      try simp only [Nat.zero_add]
      clear hgrow hor hkk
      have hF3 : HasFS w3 B (rootP rb 1 1 []) O := H2.out.1.chg hc3 (fun _ _ h => h)
      have hng : ¬ O g := fun ho => by have := H2.out.1.lt ho; omega
      have hcr := Create_fs hF3 ⟨#[102]⟩ 420 (some ⟨g, 0, none⟩) m cap data (by decide) (by simp [rootP]) HM.out (by have := HB.out; omega) (Rd.of_own hown rfl) (fun h => by cases h) (fun _ ad e => by cases e; exact hng)
      rw [show (⟨#[102]⟩ : ByteArray).data.toList = nm 0 from rfl, ls_make] at hcr
      have HC := Lib.hid hcr
      have HW := Lib.hid (And.intro hown (And.intro hc3 (And.intro hg hng)))
      clear hF3 hng hcr hown hc3 hg
      go_wp2_with (go_at_call 13; refine HC.out.mono ?_; rintro e w4 ⟨rfl, P4, O4, h4, n4, s4⟩)
      obtain ⟨hown, hc3, hg, hng⟩ := HW.out
      have hst : L1 w w4 B P4 O4 g m cap (.int .i64 0) := by
        have hN := n4.old (H2.out.2.1.trans (U := fun _ => False) hc3 (fun _ _ h => h) (fun _ _ h => h)) H2.out.2.2
        refine ⟨⟨0, rfl, Nat.zero_le _⟩, h4, ⟨_, by rw [← i8_of_by8]; exact own_chg hown n4.chg (fun k hk => by have := own_blk_eq hk; subst this; exact hng)⟩, ?_, hN.1, hN.2, ?_⟩
        · intro ho
          rcases n4.own _ ho with h | h
          · exact hng h
          · have := (hown.lt g rfl).2; omega
        · have := H2.out.2.1.size; omega
      obtain ⟨nb, hls⟩ := ls_start s4
      have HS := Lib.hid hst
      have HLs := Lib.hid hls
      clear hown hc3 hg hng hst hls h4 n4 s4 HW HC
      go_loopw [51] (fun p wr => L1 w wr B P4 O4 g m cap p) (fun p _ => m - (match p with | .int _ k => k.toNat | _ => 0))
      case atStart => exact HS.out
      case round =>
        obtain ⟨⟨k, rfl, hk⟩, r1, r2, r3, r4, r5, r6⟩ := hrel
        by_cases hkn : k < m
        · have hkb : IntKind.i64.wrap ((k : Int) + 1) = k + 1 := by rw [IntKind.wrap_i64]; have := HB.out; omega
          have i0' : (0 : Int) ≤ k := by omega
          have i1 : (k : Int) < m := by omega
          have tk : decide ((k : Int) < m) = true := by simpa using hkn
          obtain ⟨x, hx, fx⟩ := r2.cell k hkn
          have HR := Lib.hid (And.intro r1 (And.intro r2 (And.intro r3 (And.intro r4 (And.intro r5 r6)))))
          clear r1 r2 r3 r4 r5 r6
          go_wp2_with fail
          go_roundw
          case rel =>
            obtain ⟨r1, r2, r3, r4, r5, r6⟩ := HR.out
            have hs := fun u => (Chg.refl (fun j => j = g) wr).setCell ⟨g, k, none⟩ u (fun _ => rfl)
            exact ⟨⟨k + 1, by simp, hkn⟩, r1.chg (hs _) (fun j hj e => r3 (e ▸ hj)), r2.set k hkn _, r3, r4.trans (hs _) (fun _ _ h => h) (fun j hj e => by omega), r5, r6⟩
          case measure => simp; omega
        · have tk : decide (k < m) = false := decide_eq_false hkn
          have HR := Lib.hid (And.intro r1 (And.intro r4 r5))
          clear r1 r2 r3 r4 r5 r6 hkn hk
          go_wp2_with fail
          go_loopw [62, 12] (fun p s wr => L2 w wr B rb nb K data p s) (fun p _ _ => K - (match p with | .int _ k => k.toNat | _ => 0))
          case atStart => exact ⟨⟨0, P4, O4, rfl, Nat.zero_le _, rfl, HR.out.1, HLs.out, HR.out.2.2⟩, HR.out.2.1⟩
          case round =>
            obtain ⟨⟨k, P, O2, rfl, hk, rfl, r1, r2, r3⟩, r4⟩ := hrel
            by_cases hkn : k < K
            · have hkb : IntKind.i64.wrap ((k : Int) + 1) = k + 1 := by rw [IntKind.wrap_i64]; omega
              have i0' : (0 : Int) ≤ k := by omega
              have i1 : (k : Int) < K := by omega
              have tk : decide (k < K) = true := by simpa using hkn
              have hcat := nmB_succ k
              have hsz : ¬ 9223372036854775807 < (nmB k).size + 1 := by rw [nmB_size]; omega
              have hlk := Link_fs r1 (nmB (k + 1)) (nmB k) (by rw [nmB_size]; omega) (by rw [nmB_size]; unfold maxLen; omega) (by have := r2.n; omega)
              obtain ⟨e1, e2⟩ := ls_link r2 (by omega)
              rw [nmB_list, nmB_list, e1] at hlk
              have HK := Lib.hid hlk
              have HR := Lib.hid (And.intro e2 (And.intro r3 r4))
              clear hlk e1 e2 r1 r2 r3 r4
              go_wp2_with (go_at_call 14; refine HK.out.mono ?_; rintro e w5 ⟨rfl, P5, O5, h5, n5, s5⟩; have H5 := Lib.hid (And.intro h5 (And.intro n5 s5)); clear h5 n5 s5)
              go_roundw
              case rel =>
                obtain ⟨e2, r3, r4⟩ := HR.out
                obtain ⟨h5, n5, s5⟩ := H5.out
                have hN := n5.old r4 r3
                exact ⟨⟨k + 1, P5, O5, by simp, hkn, rfl, h5, e2 P5 s5, hN.2⟩, hN.1⟩
              case measure => simp; omega
            · have tk : decide (k < K) = false := by simp; omega
              obtain rfl : k = K := by omega
              have hch := Chown_fs r1 (nmB k) uid 7 (by rw [nmB_size]; unfold maxLen; omega)
              rw [nmB_list] at hch
              have hfe : P.findErr (nm k) = 0 := by unfold PFS.findErr; rw [r2.Fk k (Nat.le_refl _)]; rfl
              rw [hfe] at hch
              have HK := Lib.hid hch
              have HR := Lib.hid (And.intro r2 (And.intro r3 r4))
              clear hch r1 r2 r3 r4 hkn hk hfe
              go_wp2_with (go_at_call 15; refine HK.out.mono ?_; rintro e w6 ⟨rfl, P6, h6, n6, s6⟩)
              obtain ⟨r2, r3, r4⟩ := HR.out
              obtain ⟨st, f1, f2, f3, f4, f5, f6, f7, f8, f9, f10⟩ := ls_end r2 s6
              have hN := n6.old r4 r3
              have hla := Lstat_fs h6 ⟨#[102]⟩ (by decide)
              rw [show (⟨#[102]⟩ : ByteArray).data.toList = nm 0 from rfl, f1, f5] at hla
              simp only [Info8.val] at hla
              have HLa := Lib.hid hla
              have H6 := Lib.hid (And.intro h6 hN)
              have HF := Lib.hid (And.intro f2 (And.intro f6 (And.intro f7 (And.intro f8 (And.intro f9 f10)))))
              have HST := Lib.hid (And.intro f3 f4)
              clear hla h6 hN f1 f2 f3 f4 f5 f6 f7 f8 f9 f10 n6 s6 r2 r3 r4 HR HK
              refine HLa.out.mono ?_
              rintro e w7 ⟨rfl, c7⟩
              have hbA := Blk.new w7 #[.int .i64 st.kind, .int .i64 st.mode, .int .i64 st.num, .int .i64 st.links, .int .i64 st.size, .string st.target, .int .i64 st.uid, .int .i64 st.mtime] 41
              have hcA := c7.alloc (.cells #[.int .i64 st.kind, .int .i64 st.mode, .int .i64 st.num, .int .i64 st.links, .int .i64 st.size, .string st.target, .int .i64 st.uid, .int .i64 st.mtime] 41)
              have hlb := Lstat_fs (H6.out.1.chg hcA (fun _ _ h => h)) (nmB k) (by rw [nmB_size]; unfold maxLen; omega)
              rw [nmB_list, HF.out.1, HF.out.2.1] at hlb
              simp only [Info8.val] at hlb
              have HLb := Lib.hid hlb
              have H7 := Lib.hid (And.intro hbA hcA)
              clear hbA hcA hlb c7
              go_wp2_with fail
              refine HLb.out.mono ?_
              rintro e w8 ⟨rfl, c8⟩
              have hbB := Blk.new w8 #[.int .i64 st.kind, .int .i64 st.mode, .int .i64 st.num, .int .i64 st.links, .int .i64 st.size, .string st.target, .int .i64 st.uid, .int .i64 st.mtime] 41
              have hcB := c8.alloc (.cells #[.int .i64 st.kind, .int .i64 st.mode, .int .i64 st.num, .int .i64 st.links, .int .i64 st.size, .string st.target, .int .i64 st.uid, .int .i64 st.mtime] 41)
              have hbA := H7.out.1.chg hcB (fun h => h)
              have hcAB := H7.out.2.trans (U := fun _ => False) hcB (fun _ _ h => h) (fun _ _ h => h)
              have hrf := ReadFile_fs (H6.out.1.chg hcAB (fun _ _ h => h)) (nmB k) (by rw [nmB_size]; unfold maxLen; omega)
              rw [nmB_list, HF.out.2.2.1, HF.out.2.2.2.2.1] at hrf
              have HRf := Lib.hid hrf
              have H8 := Lib.hid (And.intro hbA (And.intro hbB hcAB))
              clear hbA hbB hcB hcAB hrf c8
              go_wp2_with fail
              refine HRf.out.mono ?_
              rintro e w9 ⟨A9, c9, rfl, x1, x2, x3⟩
              have H9 := Lib.hid (And.intro x1 (And.intro x2 x3))
              clear x1 x2 x3
              go_wp2_with fail
              go_loopw [97] (fun p wr => L3 w wr B P6 O2 A9 data.length c9 w7.heap.size w8.heap.size st p) (fun p _ => data.length - (match p with | .int _ k => k.toNat | _ => 0))
              case atStart =>
                obtain ⟨x1, x2, x3⟩ := H9.out
                obtain ⟨b1, b2, b3⟩ := H8.out
                have l1 := b1.lt
                have l2 := b2.lt
                have h6 := H6.out
                refine ⟨⟨0, rfl, Nat.zero_le _⟩, h6.1.chg (b3.trans (U := fun _ => False) x3 (fun _ _ h => h) (fun _ _ h => h)) (fun _ _ h => h), ?_, b1.chg x3 (fun h => h), b2.chg x3 (fun h => h), (h6.2.1.trans (U := fun _ => False) b3 (fun _ _ h => h) (fun _ _ h => h)).trans x3 (fun _ _ h => h) (fun _ _ h => h)⟩
                rcases own_ptr x1 with h | ⟨gx, hgx⟩
                · exact .inl h
                · subst hgx
                  refine .inr ⟨gx, rfl, ⟨_, by rw [← i8_of_by8]; exact x1⟩, ?_, ?_, ?_, ?_⟩
                  · intro ho; have := x2 gx rfl; have := h6.1.lt ho; have := b3.size; omega
                  · have := x2 gx rfl; omega
                  · have := x2 gx rfl; omega
                  · have := x2 gx rfl; have := b3.size; have := h6.2.1.size; omega
              case round =>
                obtain ⟨⟨j, rfl, hj⟩, r1, r2, r3, r4, r5⟩ := hrel
                by_cases hjn : j < data.length
                · have hkb : IntKind.i64.wrap ((j : Int) + 1) = j + 1 := by rw [IntKind.wrap_i64]; have := HB.out; have := HM.out; omega
                  have i0' : (0 : Int) ≤ j := by omega
                  have i1 : (j : Int) < data.length := by omega
                  have tj : decide (j < data.length) = true := by simpa using hjn
                  obtain ⟨gx, rfl, q1, q2, q3, q4, q5⟩ : ∃ gx, A9 = some ⟨gx, 0, none⟩ ∧ OwnB wr gx data.length c9 ∧ ¬ O2 gx ∧ gx ≠ w7.heap.size ∧ gx ≠ w8.heap.size ∧ w.heap.size ≤ gx := by
                    rcases r2 with h | h
                    · omega
                    · exact h
                  obtain ⟨x, hx, fx⟩ := q1.cell j hjn
                  have HR := Lib.hid (And.intro r1 (And.intro r3 (And.intro r4 (And.intro r5 (And.intro q1 (And.intro q2 (And.intro q3 (And.intro q4 q5))))))))
                  clear r1 r2 r3 r4 r5 q1 q2 q3 q4 q5
                  go_wp2_with fail
                  go_roundw
                  case rel =>
                    obtain ⟨r1, r3, r4, r5, q1, q2, q3, q4, q5⟩ := HR.out
                    have hs := fun u => (Chg.refl (fun i => i = gx) wr).setCell ⟨gx, j, none⟩ u (fun _ => rfl)
                    exact ⟨⟨j + 1, by simp, hjn⟩, r1.chg (hs _) (fun i hi e => q2 (e ▸ hi)), .inr ⟨gx, rfl, q1.set j hjn _, q2, q3, q4, q5⟩, r3.chg (hs _) (fun e => q3 e.symm), r4.chg (hs _) (fun e => q4 e.symm), r5.trans (hs _) (fun _ _ h => h) (fun i hi e => by omega)⟩
                  case measure => simp; omega
                · have tj : decide (j < data.length) = false := decide_eq_false hjn
                  have hrg := ReadFile_fs r1 ⟨#[102]⟩ (by decide)
                  rw [show (⟨#[102]⟩ : ByteArray).data.toList = nm 0 from rfl, HF.out.2.2.2.1, HF.out.2.2.2.2.2] at hrg
                  have HRg := Lib.hid hrg
                  have HR := Lib.hid (And.intro r3 (And.intro r4 r5))
                  clear r1 r2 r3 r4 r5 hrg hj
                  go_wp2_with fail
                  refine HRg.out.mono ?_
                  rintro e w10 ⟨A10, c10, rfl, y1, y2, y3⟩
                  have H10 := Lib.hid (And.intro y1 y3)
                  clear y1 y2 y3
                  go_wp2_with fail
                  refine (alive_any _).mono ?_
                  rintro e w11 ⟨rfl, c11⟩
                  obtain ⟨y1, y3⟩ := H10.out
                  obtain ⟨r3, r4, r5⟩ := HR.out
                  have hY := y3.trans (U := fun _ => False) c11 (fun _ _ h => h) (fun _ _ h => h)
                  have hA := r3.chg hY (fun h => h)
                  have hB := r4.chg hY (fun h => h)
                  have hW := r5.trans (U := fun _ => False) hY (fun _ _ h => h) (fun _ _ h => h)
                  have hcv := conv_rd w11 A10 data.length c10 data rfl (Rd.of_own (own_chg y1 c11 (fun _ _ h => h)) rfl)
                  have hcd := conv_rd w11 (some ⟨g0, off, none⟩) m c data HM.out (HL.out.chg hW (fun _ _ h => h))
                  have a0 := hA.cell 0
                  have a1 := hA.cell 1
                  have a2 := hA.cell 2
                  have a3 := hA.cell 3
                  have a4 := hA.cell 4
                  have a5 := hA.cell 5
                  have a6 := hA.cell 6
                  have a7 := hA.cell 7
                  have b0 := hB.cell 0
                  have b1 := hB.cell 1
                  have b2 := hB.cell 2
                  have b3 := hB.cell 3
                  have b4 := hB.cell 4
                  have b5 := hB.cell 5
                  have b6 := hB.cell 6
                  have b7 := hB.cell 7
                  simp only [List.getElem?_toArray, List.getElem?_cons_zero, List.getElem?_cons_succ] at a0 a1 a2 a3 a4 a5 a6 a7 b0 b1 b2 b3 b4 b5 b6 b7
                  rw [HST.out.1] at a3
                  rw [HST.out.1] at b3
                  rw [HST.out.2] at a6
                  rw [HST.out.2] at b6
                  have hk1 : IntKind.i64.wrap ((k : Int) + 1) = k + 1 := by rw [IntKind.wrap_i64]; omega
                  have HW := Lib.hid hW
                  clear hA hB hW hY y1 y3 r3 r4 r5 c11
                  go_wp2_with fail
                  go_ret
                  exact ⟨rfl, HW.out⟩
end Go.Proofs.YtfkfeoocglcjgaaDoor
