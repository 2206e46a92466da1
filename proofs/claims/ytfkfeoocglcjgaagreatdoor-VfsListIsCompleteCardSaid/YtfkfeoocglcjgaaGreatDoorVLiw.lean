/- The law VfsListIsComplete, walked. -/
import Derived.Test.YtfkfeoocglcjgaaGreatDoorVLi
import Derived.Deep.DeepCutAuto
set_option linter.unusedVariables false
set_option linter.unusedSimpArgs false
namespace Go.Proofs.YtfkfeoocglcjgaaGreatDoor
open Go.RowKit

theorem rots_range (l : List UInt8) : ∀ x ∈ rots l, 0 ≤ x ∧ x ≤ 1000000000 := by
  intro x hx
  unfold rots at hx
  obtain ⟨b, _, rfl⟩ := List.mem_map.1 hx
  have := b.toNat_lt
  omega
theorem own_none {w : World} {e : TypeId} {n c : Nat} {A : Option Addr} {xs : List Value} (h : w.ownsRow 0 e 1 (.slice A n c) n xs) (hA : A = none) : n = 0 := by
  obtain ⟨A', c', e1, _, h2⟩ := own_form h
  injection e1 with e1 _ _
  exact (h2 (e1 ▸ hA)).1

theorem own_lt {w : World} {e : TypeId} {n j : Nat} {v : Value} {xs : List Value} (h : w.ownsRow 0 e 1 v n xs) (hj : v.ownBlock = some j) : j < w.heap.size := by
  rcases h.2 with ⟨rfl, rfl⟩ | ⟨g, cap, cur, rfl, h0, hb, h1⟩
  · simp [Value.ownBlock] at hj
  · have e := own_blk_eq hj
    subst e
    exact (Array.getElem?_eq_some_iff.1 hb).1

theorem Pair.other {w0 wr w' : World} {B1 B2 : Nat} {P Q : PFS} {O1 O2 : Nat → Prop} {S : Nat → Prop} (h : Pair w0 wr B1 B2 P Q O1 O2) (c : Chg S wr w') (hS : ∀ j, S j → w0.heap.size ≤ j ∧ ¬ O1 j ∧ ¬ O2 j) : Pair w0 w' B1 B2 P Q O1 O2 :=
  have hc := h.m1.chg.trans (U := fun _ => False) c (fun _ _ h => h) (fun j hj hs => by have := (hS j hs).1; omega)
  ⟨⟨h.m1.fs.chg c (fun k hk hs => (hS k hs).2.1 hk), hc, h.m1.ge⟩, ⟨h.m2.fs.chg c (fun k hk hs => (hS k hs).2.2 hk), hc, h.m2.ge⟩, h.dis⟩

/-- What the second loop holds. -/
structure Li2 (w0 wr : World) (B1 B2 : Nat) (r : List Int) (P Q : PFS) (O1 O2 : Nat → Prop) (DA : Option Addr) (n dc : Nat) (ds : List ByteArray) (j j2 : Nat) : Prop where
  pair : Pair w0 wr B1 B2 P Q O1 O2
  al : Alike P Q r j j2
  p1 : P.n ≤ 41
  p2 : Q.n ≤ 41
  dok : ∀ d ∈ ds, P.kindAt d.data.toList = some 0 ∧ d.size ≤ 20000
  ln : ds.length = n
  row : wr.ownsRow 0 9 1 (.slice DA n dc) n (ds.map .string)
  off : ∀ j, (Value.slice DA n dc).ownBlock = some j → w0.heap.size ≤ j ∧ ¬ O1 j ∧ ¬ O2 j
structure Li2Rel (w0 wr : World) (B1 B2 : Nat) (r : List Int) (P0 Q0 : PFS) (O1 O2 : Nat → Prop) (DA : Option Addr) (n dc : Nat) (ds : List ByteArray) (p : Value) : Prop where
  out : ∃ (j : Nat) (P Q : PFS), p = .int .i64 j ∧ j ≤ n ∧ Li2 w0 wr B1 B2 r P Q O1 O2 DA n dc ds j j

theorem Li2.keep {w0 wr w' : World} {B1 B2 : Nat} {r : List Int} {P Q : PFS} {O1 O2 : Nat → Prop} {DA : Option Addr} {n dc : Nat} {ds : List ByteArray} {j j2 : Nat} (h : Li2 w0 wr B1 B2 r P Q O1 O2 DA n dc ds j j2) (c : Chg (fun _ => False) wr w') : Li2 w0 w' B1 B2 r P Q O1 O2 DA n dc ds j j2 :=
  ⟨h.pair.keep c, h.al, h.p1, h.p2, h.dok, h.ln, own_chg h.row c (fun _ _ h => h), h.off⟩
theorem Li2.other {w0 wr w' : World} {B1 B2 : Nat} {r : List Int} {P Q : PFS} {O1 O2 : Nat → Prop} {DA : Option Addr} {n dc : Nat} {ds : List ByteArray} {j j2 : Nat} {S : Nat → Prop} (h : Li2 w0 wr B1 B2 r P Q O1 O2 DA n dc ds j j2) (c : Chg S wr w') (hS : ∀ j, S j → w0.heap.size ≤ j ∧ ¬ O1 j ∧ ¬ O2 j) (hD : ∀ j, (Value.slice DA n dc).ownBlock = some j → ¬ S j) : Li2 w0 w' B1 B2 r P Q O1 O2 DA n dc ds j j2 :=
  ⟨h.pair.other c hS, h.al, h.p1, h.p2, h.dok, h.ln, own_chg h.row c hD, h.off⟩
theorem Li2.l1 {w0 wr : World} {B1 B2 : Nat} {r : List Int} {P Q : PFS} {O1 O2 : Nat → Prop} {DA : Option Addr} {n dc : Nat} {ds : List ByteArray} {j j2 : Nat} (h : Li2 w0 wr B1 B2 r P Q O1 O2 DA n dc ds j j2) (hr : ∀ x ∈ r, 0 ≤ x ∧ x ≤ 1000000000) (hrl : r.length ≤ 1000000) (hj : j ≤ 1000) (d : ByteArray) (hd : d ∈ ds) :
    Calls Tryz.prog 13 #[.pointer (some ⟨B1, 0, none⟩), .string d] wr fun e w' => ∃ A' c' P', e = .returned (.tuple #[.slice A' (P.namesAt d.data.toList).length c', .int .i64 0]) ∧
      w'.ownsRow 0 9 1 (.slice A' (P.namesAt d.data.toList).length c') (P.namesAt d.data.toList).length ((turnL (rotNow r j) (P.namesAt d.data.toList)).map .string) ∧ (∀ k, (Value.slice A' (P.namesAt d.data.toList).length c').ownBlock = some k → wr.heap.size ≤ k) ∧
      Li2 w0 w' B1 B2 r P' Q O1 O2 DA n dc ds (j + 1) j2 ∧ (∀ p, P'.namesAt p = P.namesAt p) ∧ Next wr w' O1 O1 := by
  obtain ⟨hk, hs⟩ := h.dok d hd
  have eo : P.listOut d.data.toList = turnL (rotNow r j) (P.namesAt d.data.toList) := by unfold PFS.listOut; rw [if_pos hk, h.al.r1, h.al.l1]
  have ee : P.listErr d.data.toList = 0 := by unfold PFS.listErr; rw [hk]; rfl
  have el : P.listed d.data.toList = { P with lists := P.lists + 1 } := by unfold PFS.listed; rw [if_pos hk]
  have hK := List_fs h.pair.m1.fs d (by unfold maxLen; omega) (by have := h.p1; omega) (by rw [h.al.r1]; exact hr) (by rw [h.al.l1]; omega) (by rw [h.al.l1]; omega) (by rw [h.al.r1]; exact hrl)
  rw [eo, ee, el, turnL_length] at hK
  refine hK.mono ?_
  rintro e w' ⟨A', c', rfl, ho, hb, hf, hnx⟩
  refine ⟨A', c', _, rfl, ho, hb, ⟨h.pair.left hf hnx, ⟨⟨h.al.v.k, h.al.v.n⟩, ⟨h.al.d1.uniq, h.al.d1.nil⟩, h.al.d2, ⟨h.al.t.asc, h.al.t.all⟩, h.al.r1, h.al.r2, ?_, h.al.l2⟩, h.p1, h.p2, h.dok, h.ln, own_chg h.row hnx.chg (fun j hj => (h.off j hj).2.1), h.off⟩, fun _ => rfl, hnx⟩
  show P.lists + 1 = _
  rw [h.al.l1]; rfl
theorem Li2.l2 {w0 wr : World} {B1 B2 : Nat} {r : List Int} {P Q : PFS} {O1 O2 : Nat → Prop} {DA : Option Addr} {n dc : Nat} {ds : List ByteArray} {j j2 : Nat} (h : Li2 w0 wr B1 B2 r P Q O1 O2 DA n dc ds j j2) (hj : j2 ≤ 1000) (d : ByteArray) (hd : d ∈ ds) :
    Calls Tryz.prog 13 #[.pointer (some ⟨B2, 0, none⟩), .string d] wr fun e w' => ∃ A' c' Q', e = .returned (.tuple #[.slice A' (P.namesAt d.data.toList).length c', .int .i64 0]) ∧
      w'.ownsRow 0 9 1 (.slice A' (P.namesAt d.data.toList).length c') (P.namesAt d.data.toList).length ((P.namesAt d.data.toList).map .string) ∧ (∀ k, (Value.slice A' (P.namesAt d.data.toList).length c').ownBlock = some k → wr.heap.size ≤ k) ∧
      Li2 w0 w' B1 B2 r P Q' O1 O2 DA n dc ds j (j2 + 1) ∧ Next wr w' O2 O2 := by
  obtain ⟨hk', hs⟩ := h.dok d hd
  have hk : Q.kindAt d.data.toList = some 0 := by rw [← h.al.v.k]; exact hk'
  have eo : Q.listOut d.data.toList = P.namesAt d.data.toList := by unfold PFS.listOut; rw [if_pos hk, h.al.r2]; unfold rotNow; rw [if_pos rfl, turnL_zero, h.al.v.n]
  have ee : Q.listErr d.data.toList = 0 := by unfold PFS.listErr; rw [hk]; rfl
  have el : Q.listed d.data.toList = { Q with lists := Q.lists + 1 } := by unfold PFS.listed; rw [if_pos hk]
  have hK := List_fs h.pair.m2.fs d (by unfold maxLen; omega) (by have := h.p2; omega) (by rw [h.al.r2]; intro x hx; cases hx) (by rw [h.al.l2]; omega) (by rw [h.al.l2]; omega) (by rw [h.al.r2]; simp)
  rw [eo, ee, el] at hK
  refine hK.mono ?_
  rintro e w' ⟨A', c', rfl, ho, hb, hf, hnx⟩
  refine ⟨A', c', _, rfl, ho, hb, ⟨h.pair.right hf hnx, ⟨⟨h.al.v.k, h.al.v.n⟩, h.al.d1, ⟨h.al.d2.uniq, h.al.d2.nil⟩, h.al.t, h.al.r1, h.al.r2, h.al.l1, ?_⟩, h.p1, h.p2, h.dok, h.ln, own_chg h.row hnx.chg (fun j hj => (h.off j hj).2.2), h.off⟩, hnx⟩
  show Q.lists + 1 = _
  rw [h.al.l2]; rfl

/-- All that the round holds. -/
structure St (w0 wr : World) (B1 B2 : Nat) (P Q : PFS) (O1 O2 : Nat → Prop) (s : Value) (n : Nat) (ds : List ByteArray) (ab : Nat) (cs : Array Value) : Prop where
  pair : Pair w0 wr B1 B2 P Q O1 O2
  row : wr.ownsRow 0 9 1 s n (ds.map .string)
  off : ∀ j, s.ownBlock = some j → w0.heap.size ≤ j ∧ ¬ O1 j ∧ ¬ O2 j
  act : Blk wr ab cs 40
  a1 : ¬ O1 ab
  a2 : ¬ O2 ab
theorem St.keep {w0 wr w' : World} {B1 B2 : Nat} {P Q : PFS} {O1 O2 : Nat → Prop} {s : Value} {n : Nat} {ds : List ByteArray} {ab : Nat} {cs : Array Value} (h : St w0 wr B1 B2 P Q O1 O2 s n ds ab cs) (c : Chg (fun _ => False) wr w') : St w0 w' B1 B2 P Q O1 O2 s n ds ab cs :=
  ⟨h.pair.keep c, own_chg h.row c (fun _ _ h => h), h.off, h.act.chg c (fun h => h), h.a1, h.a2⟩
theorem St.left {w0 wr w' : World} {B1 B2 : Nat} {P P' Q : PFS} {O1 O1' O2 : Nat → Prop} {s : Value} {n : Nat} {ds : List ByteArray} {ab : Nat} {cs : Array Value} (h : St w0 wr B1 B2 P Q O1 O2 s n ds ab cs) (f : HasFS w' B1 P' O1') (k : Next wr w' O1 O1') : St w0 w' B1 B2 P' Q O1' O2 s n ds ab cs :=
  ⟨h.pair.left f k, own_chg h.row k.chg (fun j hj => (h.off j hj).2.1), fun j hj => ⟨(h.off j hj).1, fun ho => (k.own j ho).elim (h.off j hj).2.1 (fun hh => by have := own_lt h.row hj; omega), (h.off j hj).2.2⟩, h.act.chg k.chg h.a1,
    fun ho => (k.own ab ho).elim h.a1 (fun hh => by have := h.act.lt; omega), h.a2⟩
theorem St.right {w0 wr w' : World} {B1 B2 : Nat} {P Q Q' : PFS} {O1 O2 O2' : Nat → Prop} {s : Value} {n : Nat} {ds : List ByteArray} {ab : Nat} {cs : Array Value} (h : St w0 wr B1 B2 P Q O1 O2 s n ds ab cs) (f : HasFS w' B2 Q' O2') (k : Next wr w' O2 O2') : St w0 w' B1 B2 P Q' O1 O2' s n ds ab cs :=
  ⟨h.pair.right f k, own_chg h.row k.chg (fun j hj => (h.off j hj).2.2), fun j hj => ⟨(h.off j hj).1, (h.off j hj).2.1, fun ho => (k.own j ho).elim (h.off j hj).2.2 (fun hh => by have := own_lt h.row hj; omega)⟩, h.act.chg k.chg h.a2,
    h.a1, fun ho => (k.own ab ho).elim h.a2 (fun hh => by have := h.act.lt; omega)⟩
theorem St.do1 {w0 wr : World} {B1 B2 : Nat} {P Q : PFS} {O1 O2 : Nat → Prop} {s : Value} {n : Nat} {ds : List ByteArray} {ab : Nat} {cs : Array Value} (h : St w0 wr B1 B2 P Q O1 O2 s n ds ab cs) (a : ActD) (ha : ActOk w0 a) (hd : a.data.length ≤ 20000) (hn : P.n ≤ 100000) (hk : Keys w0) :
    Calls Tryz.prog 10 #[.pointer (some ⟨B1, 0, none⟩), a.val] wr fun e w' => e = .returned (.int .i64 (P.doErr a)) ∧ ∃ P' O', St w0 w' B1 B2 P' Q O' O2 s n ds ab cs ∧ DoStep P a P' := by
  have hoff : a.data ≠ [] → ∀ ad, a.A = some ad → ad.block < w0.heap.size := fun hne => rd_lt ha.rd hne
  refine (Do_fs h.pair.m1.fs a (ha.chg h.pair.m1.chg) h.pair.m1.ge hoff (by omega) hn (hk.chg h.pair.m1.chg (fun h => h))).mono ?_
  rintro e w' ⟨rfl, P', O', g1, g2, g3⟩
  exact ⟨rfl, P', O', h.left g1 g2, g3⟩
theorem St.do2 {w0 wr : World} {B1 B2 : Nat} {P Q : PFS} {O1 O2 : Nat → Prop} {s : Value} {n : Nat} {ds : List ByteArray} {ab : Nat} {cs : Array Value} (h : St w0 wr B1 B2 P Q O1 O2 s n ds ab cs) (a : ActD) (ha : ActOk w0 a) (hd : a.data.length ≤ 20000) (hn : Q.n ≤ 100000) (hk : Keys w0) :
    Calls Tryz.prog 10 #[.pointer (some ⟨B2, 0, none⟩), a.val] wr fun e w' => e = .returned (.int .i64 (Q.doErr a)) ∧ ∃ Q' O', St w0 w' B1 B2 P Q' O1 O' s n ds ab cs ∧ DoStep Q a Q' := by
  have hoff : a.data ≠ [] → ∀ ad, a.A = some ad → ad.block < w0.heap.size := fun hne => rd_lt ha.rd hne
  refine (Do_fs h.pair.m2.fs a (ha.chg h.pair.m2.chg) h.pair.m2.ge hoff (by omega) hn (hk.chg h.pair.m2.chg (fun h => h))).mono ?_
  rintro e w' ⟨rfl, P', O', g1, g2, g3⟩
  exact ⟨rfl, P', O', h.right g1 g2, g3⟩

theorem act_cells {W : World} {ab : Nat} {v0 v1 v2 v3 v4 : Value} (h : Blk W ab #[v0, v1, v2, v3, v4] 40) :
    W.cell? ⟨ab, 0, none⟩ = some v0 ∧ W.cell? ⟨ab, 1, none⟩ = some v1 ∧ W.cell? ⟨ab, 2, none⟩ = some v2 ∧ W.cell? ⟨ab, 3, none⟩ = some v3 ∧ W.cell? ⟨ab, 4, none⟩ = some v4 :=
  ⟨h.cell 0, h.cell 1, h.cell 2, h.cell 3, h.cell 4⟩

set_option maxRecDepth 100000 in
set_option maxHeartbeats 16000000 in
theorem list_law (RA : Option Addr) (rc : Nat) (rb : List UInt8) (A : Option Addr) (c : Nat) (l : List ActD) (w : World) (hr : Rd w RA (by8 rb)) (hrl : rb.length ≤ 9223372036854775807) (h : ActsAt w A l) (hl : l.length ≤ 9223372036854775807) (hk : Keys w) :
    Calls Tryz.prog 4 #[.slice RA rb.length rc, .slice A l.length c] w fun e w' => e = .returned (.bool true) ∧ Chg (fun _ => False) w w' := by
  obtain ⟨is, his, hzs0, hzs1, hzs2⟩ := info_parts infoStr
  have HA := Lib.hid h
  have HR := Lib.hid hr
  have HK := Lib.hid hk; clear hk hr
  have htl := TooLarge_any A c l w h hl
  have HT := Lib.hid htl; clear htl h
  cases htb : tooLarge l with
  | true =>
    have e1 : tlNum l = 1 := by unfold tlNum; rw [htb]; rfl
    have HT2 := HT.out; rw [e1] at HT2
    have HT := Lib.hid HT2; clear HT2 e1 htb
    go_enter Tryz.func4, Tryz.ntmps4
    go_wp2_with (first | (go_at_call 5; refine HT.out.mono ?_; rintro e w3 ⟨rfl, c3⟩) | (go_at_call 6; refine (alive_any _).mono ?_; rintro e wz ⟨rfl, cz⟩))
    go_ret
    exact ⟨rfl, c3.trans (U := fun _ => False) cz (fun _ _ h => h) (fun _ _ h => h)⟩
  | false =>
    have e1 : tlNum l = 0 := by unfold tlNum; rw [htb]; rfl
    have HT2 := HT.out; rw [e1] at HT2
    have HT := Lib.hid HT2
    have HAB := Lib.hid (act_bounds HA.out htb)
    clear HT2 e1 htb
    by_cases h50 : 50 < rb.length
    · have t1 : decide ((50 : Int) < rb.length) = true := decide_eq_true (by omega)
      have t2 : (50 : Int) < rb.length := by omega
      go_enter Tryz.func4, Tryz.ntmps4
      go_wp2_with (first | (go_at_call 5; refine HT.out.mono ?_; rintro e w3 ⟨rfl, c3⟩) | (go_at_call 6; refine (alive_any _).mono ?_; rintro e wz ⟨rfl, cz⟩))
      go_ret
      exact ⟨rfl, c3.trans (U := fun _ => False) cz (fun _ _ h => h) (fun _ _ h => h)⟩
    · have t1 : decide ((50 : Int) < rb.length) = false := decide_eq_false (by omega)
      have HO := Lib.hid (fun W hc => Options_any 3 4 RA rb.length rc rb W rfl (HR.out.chg (S := fun _ => False) hc (fun _ _ h => h)) (by omega) (by omega) (by omega) (by omega) (by omega))
      have HO2 := Lib.hid (fun W => Options_any 0 0 none 0 0 [] W rfl (.inl rfl) (by omega) (by omega) (by omega) (by omega) (by omega))
      have hO2 := HO2.out; simp only [Int.add_zero] at hO2
      have HO2 := Lib.hid hO2
      have hO1 := HO.out; simp only [show (1 : Int) + 3 = 4 from rfl, show (1 : Int) + 4 = 5 from rfl] at hO1
      have HO := Lib.hid hO1
      have hb50 : rb.length ≤ 50 := by omega
      clear hO2 hO1 h50
      go_enter Tryz.func4, Tryz.ntmps4
      go_wp2_with (first | (go_at_call 5; refine HT.out.mono ?_; rintro e w3 ⟨rfl, c3⟩; have HC3 := Lib.hid c3; clear c3) | (go_at_call 7; first | (refine (HO.out _ HC3.out).mono ?_; rintro e w4 ⟨A4, c4, rfl, o4, p4⟩; have H4 := Lib.hid (And.intro o4 p4); clear o4 p4)))
      have hnew := New_fs 4 5 A4 rb.length c4 (rots rb) w4 (rots_length rb) (by omega) (Rd.of_own H4.out.1 rfl) (fun e => own_none H4.out.1 e) (by unfold newErr; rw [if_neg]; rw [rots_neg]; simp)
      refine hnew.mono ?_
      rintro e w5 ⟨B1, rb1, O1, rfl, h1, hc1, hO1⟩
      have H5 := Lib.hid (And.intro (show Mine w w5 B1 (rootP rb1 4 5 (rots rb)) O1 from ⟨h1, (HC3.out.trans (U := fun _ => False) H4.out.2 (fun _ _ h => h) (fun _ _ h => h)).trans hc1 (fun _ _ h => h) (fun _ _ h => h), fun k hk => Nat.le_trans (HC3.out.trans (U := fun _ => False) H4.out.2 (fun _ _ h => h) (fun _ _ h => h)).size (hO1 k hk)⟩) trivial)
      clear hnew h1 hc1 hO1 H4 HC3
      go_wp2_with (go_at_call 7; refine (HO2.out _).mono ?_; rintro e w6 ⟨A6, c6, rfl, o6, p6⟩; have H6 := Lib.hid (And.intro o6 p6); clear o6 p6)
      have hnew := New_fs 1 1 A6 0 c6 [] w6 rfl (by omega) (.inl rfl) (fun _ => rfl) (by decide)
      refine hnew.mono ?_
      rintro e w7 ⟨B2, rb2, O2, rfl, h2, hc2, hO2⟩
      have hm6 := H5.out.1.keep H6.out.2
      have HP := Lib.hid (show Pair w w7 B1 B2 (rootP rb1 4 5 (rots rb)) (rootP rb2 1 1 []) O1 O2 from ⟨hm6.keep hc2, ⟨h2, hm6.chg.trans hc2 (fun _ _ h => h) (fun _ _ h => h), fun k hk => Nat.le_trans hm6.chg.size (hO2 k hk)⟩, fun k hk1 hk2 => by have := hm6.fs.lt hk1; have := hO2 k hk2; omega⟩)
      clear hnew h2 hc2 hO2 hm6 H5 H6 HO HO2
      go_wp2_with fail
      go_loopw [61, 9] (fun p s wr => LiRel w wr B1 B2 l (rots rb) p s) (fun p _ _ => l.length - (match p with | .int _ k => k.toNat | _ => 0))
      case atStart =>
        have hp := HP.out
        have hc := (Chg.refl (fun _ => False) w7).alloc (.cells #[.string ⟨#[]⟩] 9)
        refine ⟨0, _, _, O1, O2, 1, [⟨#[]⟩], rfl, Nat.zero_le _, hp.keep hc, Alike.root rb1 rb2 (rots rb), by simp [rootP], by simp [rootP], by omega, ⟨_, _, rfl, ?_, ?_⟩, rfl, ?_⟩
        · exact own_of_blk (n := 1) (cap := 1) (Blk.new w7 #[.string ⟨#[]⟩] 9) (by omega) (by unfold maxLen; omega) rfl rfl
        · intro j hj
          have e := own_blk_eq hj
          subst e
          exact ⟨hp.m1.chg.size, fun h => by have := hp.m1.fs.lt h; omega, fun h => by have := hp.m2.fs.lt h; omega⟩
        · intro d hd
          simp only [List.mem_singleton] at hd
          subst hd
          exact ⟨by rw [root_kind]; rfl, by decide⟩
      case round =>
        obtain ⟨k, P, Q, O1, O2, n, ds, rfl, hkl, hp, ha, hn1, hn2, hn, hd⟩ := hrel
        clear HP
        by_cases hkn : k < l.length
        · have hkb : IntKind.i64.wrap ((k : Int) + 1) = k + 1 := by rw [IntKind.wrap_i64]; omega
          have i0 : (0 : Int) ≤ k := by omega
          have i1 : (k : Int) < l.length := by omega
          have tk : decide (k < l.length) = true := by simpa using hkn
          obtain ⟨g, off, rfl, hc, hok⟩ := (HA.out.chg hp.m1.chg).at k hkn
          have c0 := hc 0 _ rfl
          rw [Nat.add_zero] at c0
          have c1 := hc 1 _ rfl
          have c2 := hc 2 _ rfl
          have c3 := hc 3 _ rfl
          have c4 := hc 4 _ rfl
          have h40 := HAB.out.1
          have hab := HAB.out.2 _ (List.getElem_mem hkn)
          have hok0 := HA.out.ok _ (List.getElem_mem hkn)
          obtain ⟨DA, dc, rfl, hrow, hoffs⟩ := hd.out
          have hact := Blk.new wr #[.int .i64 (l[k]).kind, .string (l[k]).path, .int .i64 (l[k]).mode, .slice (l[k]).A (l[k]).data.length (l[k]).cap, .string (l[k]).target] 40
          have hcb : Chg (fun _ => False) wr (wr.alloc (.cells #[.int .i64 (l[k]).kind, .string (l[k]).path, .int .i64 (l[k]).mode, .slice (l[k]).A (l[k]).data.length (l[k]).cap, .string (l[k]).target] 40)) := (Chg.refl _ _).alloc _
          have hst : St w (wr.alloc (.cells #[.int .i64 (l[k]).kind, .string (l[k]).path, .int .i64 (l[k]).mode, .slice (l[k]).A (l[k]).data.length (l[k]).cap, .string (l[k]).target] 40)) B1 B2 P Q O1 O2 (.slice DA n dc) n ds wr.heap.size #[.int .i64 (l[k]).kind, .string (l[k]).path, .int .i64 (l[k]).mode, .slice (l[k]).A (l[k]).data.length (l[k]).cap, .string (l[k]).target] :=
            ⟨hp.keep hcb, own_chg hrow hcb (fun _ _ h => h), hoffs, hact, fun h => by have := hp.m1.fs.lt h; omega, fun h => by have := hp.m2.fs.lt h; omega⟩
          have hiP := hp.m1.fs.inv
          have hiQ := hp.m2.fs.inv
          have herr := ha.v.err hiP hiQ l[k]
          have hS := Lib.hid hst
          have HG := Lib.hid (And.intro ha (And.intro hd.ln (And.intro hd.ok (And.intro hiP (And.intro hiQ (And.intro herr (And.intro hab hok0)))))))
          have HW := Lib.hid hp.m1.chg
          clear hst hcb hact hrow hoffs hd hp ha hiP hiQ hc hok herr hok0
          generalize l[k] = act at *
          obtain ⟨kind, apath, mode, CA, cap, data, target⟩ := act
          simp only [ActD.val] at c0 c1 c2 c3 c4
          go_wp2_with fail
          generalize wr.heap.size = ab at *
          generalize wr.alloc (.cells #[.int .i64 kind, .string apath, .int .i64 mode, .slice CA data.length cap, .string target] 40) = wa at *
          have hd1 := (hS.out.keep ((Chg.refl (fun _ => False) wa).drew)).do1 ⟨kind, apath, mode, CA, cap, data, target⟩ HG.out.2.2.2.2.2.2.2 HG.out.2.2.2.2.2.2.1.1 (by omega) HK.out
          have hd2 := fun (W : World) (P' : PFS) (O' : Nat → Prop) (st : St w W B1 B2 P' Q O' O2 (.slice DA n dc) n ds ab #[.int .i64 kind, .string apath, .int .i64 mode, .slice CA data.length cap, .string target]) => st.do2 ⟨kind, apath, mode, CA, cap, data, target⟩ HG.out.2.2.2.2.2.2.2 HG.out.2.2.2.2.2.2.1.1 (by omega) HK.out
          rw [← HG.out.2.2.2.2.2.1] at hd2
          have HD1 := Lib.hid hd1; have HD2 := Lib.hid hd2
          have z0 := act_cells hS.out.act
          clear hd1 hd2
          have HZ := Lib.hid z0
          simp only [ActD.val] at HD1 HD2
          generalize P.doErr ⟨kind, apath, mode, CA, cap, data, target⟩ = x at *
          obtain ⟨y0, y1, y2, y3, y4⟩ := z0
          go_region_held3 (fun W => W.cell? ⟨ab, 0, none⟩ = some (.int .i64 kind) ∧ W.cell? ⟨ab, 1, none⟩ = some (.string apath) ∧ W.cell? ⟨ab, 2, none⟩ = some (.int .i64 mode) ∧ W.cell? ⟨ab, 3, none⟩ = some (.slice CA data.length cap) ∧ W.cell? ⟨ab, 4, none⟩ = some (.string target))
            (first | exact Z6.out | exact Z5.out | exact ⟨y0, y1, y2, y3, y4⟩ | go_keep)
            (first | (go_at_call 10; first | (refine (HD2.out _ _ _ H5.out.1).mono ?_; rintro e w6 ⟨rfl, Q', O2', s6, t6⟩; have Z6 := Lib.hid (act_cells s6.act); have H6 := Lib.hid (And.intro s6 t6); clear s6 t6) | (refine HD1.out.mono ?_; rintro e w5 ⟨rfl, P', O1', s5, t5⟩; have Z5 := Lib.hid (act_cells s5.act); have H5 := Lib.hid (And.intro s5 t5); clear s5 t5)))
          obtain ⟨ha, hln, hdok, hiP, hiQ, _, hab, _⟩ := HG.out
          have ha' := ha.step hiP hiQ H5.out.2 H6.out.2 hab.2.1
          have hkds : ∀ d ∈ ds, P'.kindAt d.data.toList = some 0 ∧ d.size ≤ 20000 := fun d hd => ⟨dir_stays ha.d1 hiP H5.out.2 _ (hdok d hd).1, (hdok d hd).2⟩
          have hn1' : P'.n ≤ k + 1 + 1 := by have := H5.out.2.n; omega
          have hn2' : Q'.n ≤ k + 1 + 1 := by have := H6.out.2.n; omega
          have hfin : ∀ w' : World, Chg (fun _ => False) w6 w' → LiRel w w' B1 B2 l (rots rb) (.int .i64 ((k + 1 : Nat) : Int)) (.slice DA n dc) := fun w' hc =>
            ⟨⟨k + 1, P', Q', O1', O2', n, ds, rfl, hkn, (H6.out.1.keep hc).pair, ha', hn1', hn2', by omega, ⟨⟨DA, dc, rfl, (H6.out.1.keep hc).row, (H6.out.1.keep hc).off⟩, hln, hkds⟩⟩⟩
          have hfinA : ∀ (w' : World) (A' : Option Addr) (c' : Nat), Pair w w' B1 B2 P' Q' O1' O2' → w'.ownsRow 0 9 1 (.slice A' (n + 1) c') (n + 1) (ds.map .string ++ [.string apath]) → (∀ j, (Value.slice A' (n + 1) c').ownBlock = some j → w.heap.size ≤ j ∧ ¬ O1' j ∧ ¬ O2' j) → P'.kindAt apath.data.toList = some 0 → LiRel w w' B1 B2 l (rots rb) (.int .i64 ((k + 1 : Nat) : Int)) (.slice A' (n + 1) c') := fun w' A' c' hp ho hj hk0 =>
            ⟨⟨k + 1, P', Q', O1', O2', n + 1, ds ++ [apath], rfl, hkn, hp, ha', hn1', hn2', by omega, ⟨⟨A', c', rfl, by simpa using ho, hj⟩, by simp [hln], fun d hd => by
              rcases List.mem_append.1 hd with h | h
              · exact hkds d h
              · simp only [List.mem_singleton] at h; subst h; exact ⟨hk0, hab.2.1⟩⟩⟩⟩
          have hpm : apath.size ≤ maxLen := by have := hab.2.1; unfold maxLen; omega
          have hL := fun (W : World) (hc : Chg (fun _ => False) w6 W) => Lstat_fs ((H6.out.1.pair.m1.keep hc).fs) apath hpm
          have hiP' := H6.out.1.pair.m1.fs.inv
          have hds := dir_of_stat (p := apath.data.toList) hiP'
          have hfc : P'.findErr apath.data.toList = 0 ∨ P'.findErr apath.data.toList = 19 := by unfold PFS.findErr; split <;> simp
          have HL := Lib.hid hL; have HF := Lib.hid hfin; have HFA := Lib.hid hfinA
          have HDS := Lib.hid hds
          obtain ⟨x0, x1, x2, x3, x4⟩ := Z6.out
          have hcon := fun (W : World) (hc : Chg (fun _ => False) w6 W) => Contains_spec DA n dc ds apath W (Rd.of_own (H6.out.1.keep hc).row rfl) hln (by omega)
          have HC := Lib.hid hcon
          clear hL hfin hfinA hds hiP' ha ha' hkds hdok hiP hiQ hcon hn1' hn2'
          generalize P'.stat apath.data.toList = st8 at *
          generalize P'.findErr apath.data.toList = fe at *
          obtain ⟨s0, s1, s2, s3, s4, s5, s6, s7⟩ := st8
          simp only [Info8.val] at HL HDS
          have tx : (x != x) = false := by simp
          rcases hfc with rfl | rfl
          · by_cases hk0 : s0 = 0
            · subst hk0
              have HD := Lib.hid (HDS.out rfl rfl)
              cases hcs : Lib.containsS ds apath with
              | true =>
                have HC2 := HC.out; rw [hcs] at HC2; have HC := Lib.hid HC2; clear HC2 hcs HDS
                go_wp2_with (first | (go_at_call 16; refine (HL.out _ (Chg.refl _ _)).mono ?_; rintro e w7 ⟨rfl, c7⟩; have H7 := Lib.hid c7; have x1' := cell_keep c7 x1; have q0 := (Blk.new w7 #[.int .i64 0, .int .i64 s1, .int .i64 s2, .int .i64 s3, .int .i64 s4, .string s5, .int .i64 s6, .int .i64 s7] 52).cell 0; simp only [List.getElem?_toArray, List.getElem?_cons_zero] at q0; have x1'' := cell_keep ((Chg.refl (fun _ => False) w7).alloc (.cells #[.int .i64 0, .int .i64 s1, .int .i64 s2, .int .i64 s3, .int .i64 s4, .string s5, .int .i64 s6, .int .i64 s7] 52)) x1'; clear c7))
                refine (HC.out _ (H7.out.alloc _)).mono ?_
                rintro e w8 ⟨rfl, rfl⟩
                go_wp2_with fail
                go_roundw
                case rel => exact HF.out _ (H7.out.alloc _)
                case measure => simp; omega
              | false =>
                have HC2 := HC.out; rw [hcs] at HC2; have HC := Lib.hid HC2; clear HC2 hcs HDS
                go_wp2_with (first | (go_at_call 16; refine (HL.out _ (Chg.refl _ _)).mono ?_; rintro e w7 ⟨rfl, c7⟩; have H7 := Lib.hid c7; have x1' := cell_keep c7 x1; have q0 := (Blk.new w7 #[.int .i64 0, .int .i64 s1, .int .i64 s2, .int .i64 s3, .int .i64 s4, .string s5, .int .i64 s6, .int .i64 s7] 52).cell 0; simp only [List.getElem?_toArray, List.getElem?_cons_zero] at q0; have x1'' := cell_keep ((Chg.refl (fun _ => False) w7).alloc (.cells #[.int .i64 0, .int .i64 s1, .int .i64 s2, .int .i64 s3, .int .i64 s4, .string s5, .int .i64 s6, .int .i64 s7] 52)) x1'; clear c7))
                refine (HC.out _ (H7.out.alloc _)).mono ?_
                rintro e w8 ⟨rfl, rfl⟩
                generalize hw8 : w7.alloc (.cells #[.int .i64 0, .int .i64 s1, .int .i64 s2, .int .i64 s3, .int .i64 s4, .string s5, .int .i64 s6, .int .i64 s7] 52) = w8 at *
                have hc8 : Chg (fun _ => False) w6 w8 := by rw [← hw8]; exact H7.out.alloc _
                have hx := Blk.new w8 #[.string apath] 9
                have hc9 : Chg (fun _ => False) w6 (w8.alloc (.cells #[.string apath] 9)) := hc8.alloc _
                have hst := H6.out.1.keep hc9
                have hnews : ∀ j u, [Value.string apath][j]? = some u → (w8.alloc (.cells #[.string apath] 9)).cell? ((⟨w8.heap.size, 0, none⟩ : Addr).add j) = some u := by
                  intro j u hu
                  match j, hu with
                  | 0, hu => simp at hu; subst hu; exact hx.cell 0
                  | j + 1, hu => simp at hu
                have hone : ∀ u ∈ [Value.string apath], u.oneCell' = true := by intro u hu; simp at hu; subst hu; rfl
                have HNw := Lib.hid hnews; have HOn := Lib.hid hone; have HS9 := Lib.hid hst
                clear hnews hone hst hx hw8 HC HF
                go_wp2_with (first | (at_builtin; refine wpList_append_lies _ rfl (.tmp 93) (.tmp 96) 44 rfl 0 9 is (.string ⟨#[]⟩) 1 16 Tryz.underlying44 his hzs0 hzs1 hzs2 rfl (by decide) (.slice DA n dc) n (ds.map .string) rfl HS9.out.row ⟨w8.heap.size, 0, none⟩ 1 1 [.string apath] rfl rfl HNw.out HOn.out (by decide) ?b1 ?b2 (Nat.zero_le _) _ rfl ?_))
                case b1 => unfold maxLen; omega
                case b2 => omega
                intro kk cap' w9 hown hgrow hor hkk
                have hst := HS9.out
                have hG : Chg (fun j => (Value.slice DA n dc).ownBlock = some j) (w8.alloc (.cells #[.string apath] 9)) w9 := (Chg.of_grown hgrow).mono (fun j _ h => h.symm)
                have hkk' : w.heap.size ≤ kk ∧ ¬ O1' kk ∧ ¬ O2' kk := by
                  rcases hor with h | h
                  · exact hst.off kk h
                  · have hsz : (w8.alloc (.cells #[.string apath] 9)).heap.size = w8.heap.size + 1 := by simp
                    have hz := hst.pair.m1.chg.size
                    simp only [hsz] at h hz
                    exact ⟨by omega, fun h => by have := hst.pair.m1.fs.lt h; omega, fun h => by have := hst.pair.m2.fs.lt h; omega⟩
                have hrel := HFA.out w9 (some ⟨kk, 0, none⟩) cap' (hst.pair.other hG hst.off) hown (fun j hj => by have e := own_blk_eq hj; subst e; exact hkk') HD.out
                have HREL := Lib.hid hrel
                clear hst hG hkk' hrel hown hgrow hor hkk HFA HS9 HNw HOn
                go_wp2_with fail
                go_roundw
                case rel => exact HREL.out
                case measure => simp; omega
            · have tk0 : (s0 == 0) = false := by simpa using hk0
              clear HC HDS
              go_wp2_with (first | (go_at_call 16; refine (HL.out _ (Chg.refl _ _)).mono ?_; rintro e w7 ⟨rfl, c7⟩; have H7 := Lib.hid c7; have q0 := (Blk.new w7 #[.int .i64 s0, .int .i64 s1, .int .i64 s2, .int .i64 s3, .int .i64 s4, .string s5, .int .i64 s6, .int .i64 s7] 52).cell 0; simp only [List.getElem?_toArray, List.getElem?_cons_zero] at q0; clear c7))
              go_roundw
              case rel => exact HF.out _ (H7.out.alloc _)
              case measure => simp; omega
          · clear HC HDS
            go_wp2_with (first | (go_at_call 16; refine (HL.out _ (Chg.refl _ _)).mono ?_; rintro e w7 ⟨rfl, c7⟩; have H7 := Lib.hid c7; clear c7))
            go_roundw
            case rel => exact HF.out _ (H7.out.alloc _)
            case measure => simp; omega
        · have tk : decide (k < l.length) = false := decide_eq_false hkn
          have h41 : n ≤ 41 ∧ P.n ≤ 41 ∧ Q.n ≤ 41 := by have := HAB.out.1; omega
          obtain ⟨DA, dc, rfl, hrow, hoffs⟩ := hd.out
          have hln := hd.ln
          have H0 := Lib.hid (show Li2 w wr B1 B2 (rots rb) P Q O1 O2 DA n dc ds 0 0 from ⟨hp, ha, h41.2.1, h41.2.2, hd.ok, hln, hrow, hoffs⟩)
          have hn41 := h41.1
          clear hp ha hd hn1 hn2 hn h41 hrow hoffs HT HA HAB
          go_wp2_with fail
          go_loopw [101] (fun p wr => Li2Rel w wr B1 B2 (rots rb) P Q O1 O2 DA n dc ds p) (fun p _ => n - (match p with | .int _ k => k.toNat | _ => 0))
          case atStart => exact ⟨⟨0, P, Q, rfl, Nat.zero_le _, H0.out⟩⟩
          case round =>
            clear H0
            obtain ⟨⟨j, P, Q, rfl, hjn, hs⟩⟩ := hrel
            by_cases hj : j < n
            · have hjb : IntKind.i64.wrap ((j : Int) + 1) = j + 1 := by rw [IntKind.wrap_i64]; omega
              have i0 : (0 : Int) ≤ j := by omega
              have i1 : (j : Int) < n := by omega
              have tj : decide (j < n) = true := decide_eq_true hj
              have hjl : j < ds.length := by rw [hln]; exact hj
              obtain ⟨db, rfl, hdb, hdc⟩ := own_cells hs.row (by omega)
              have q0 := (hdc j hjl).1
              have hdm : ds[j] ∈ ds := List.getElem_mem hjl
              have hL1 := hs.l1 (rots_range rb) (by rw [rots_length]; omega) (by omega) ds[j] hdm
              have HL1 := Lib.hid hL1
              have HDM := Lib.hid hdm
              have HP0 := Lib.hid hs
              clear hL1 hs hdm hdc
              generalize ds[j] = d at *
              go_wp2_with fail
              refine HL1.out.mono ?_
              rintro e w5 ⟨XA, xc, P5, rfl, x1, x2, x3, x4, x5⟩
              have hL2 := x3.l2 (by omega) d HDM.out
              rw [x4] at hL2
              have HL2 := Lib.hid hL2
              have H5 := Lib.hid (And.intro x1 (And.intro x2 x4))
              clear x1 x2 x3 x4 x5 hL2 HL1
              go_wp2_with fail
              refine HL2.out.mono ?_
              rintro e w6 ⟨YA, yc, Q6, rfl, y1, y2, y3, y4⟩
              have hX := own_chg H5.out.1 y4.chg (fun k hk ho => by have := HP0.out.pair.m2.fs.lt ho; have := H5.out.2.1 k hk; omega)
              have hasc : Asc (P.namesAt d.data.toList) := HP0.out.al.t.asc _
              have hall : ∀ x ∈ P.namesAt d.data.toList, (P5.kindAt (joinB d.data.toList x.data.toList)).isSome = true ∧ Lib.indexByte x.data.toList 47 = -1 ∧ x.size ≤ 20000 := fun x hx => y3.al.t.all _ x (by rw [H5.out.2.2]; exact hx)
              have hds := (y3.dok d HDM.out).2
              have hlen : (P.namesAt d.data.toList).length ≤ 1000000 := by
                have h0 := HP0.out.p1
                have hh := HP0.out.pair.m1.fs.inv.nm
                unfold PFS.namesAt
                split
                · simp
                · split
                  · simp
                  · next i hi => have := hh _ i hi; omega
              have hperm := turnL_perm (rotNow (rots rb) j) (P.namesAt d.data.toList)
              have hYr := Rd.of_own y1 rfl
              have HM := Lib.hid (And.intro hX (And.intro hYr (And.intro y3 (And.intro hasc (And.intro hall (And.intro hds hperm))))))
              clear hX hYr y1 y2 y3 y4 hasc hall hds hperm H5 HL2
              generalize turnL (rotNow (rots rb) j) (P.namesAt d.data.toList) = xs at *
              generalize P.namesAt d.data.toList = N at *
              have hxl : xs.length = N.length := HM.out.2.2.2.2.2.2.length_eq
              by_cases hN0 : N.length = 0
              · rw [hN0] at *
                cases XA with
                | none =>
                  go_wp2_with fail
                  refine (Tryz.slices_Sort_string_none _ 0 _).mono ?_
                  rintro e w8 ⟨rfl, rfl⟩
                  have hEq := fun W => Tryz.slices_Equal_string_empty (some ⟨w6.heap.size, 0, none⟩) YA 0 0 yc W (by omega)
                  have hIs := fun W => IsSorted_asc YA yc [] W (.inl rfl) (by simp) List.Pairwise.nil
                  rw [show decide ((0 : Nat) = 0) = true from rfl] at hEq
                  simp only [List.length_nil] at hIs
                  go_wp2_with (first | (go_at_call 15; refine (hEq _).mono ?_; rintro e w9 ⟨rfl, rfl⟩) | (go_at_call 19; refine (hIs _).mono ?_; rintro e w10 ⟨rfl, c10⟩; have HC10 := Lib.hid c10; clear c10))
                  go_loopw [141] (fun p wq => p = .int .i64 0 ∧ wq = w10) (fun _ _ => 0)
                  case atStart => exact ⟨rfl, rfl⟩
                  case round =>
                    obtain ⟨rfl, rfl⟩ := hrel
                    go_wp2_with fail
                    go_roundw
                    case rel => exact ⟨⟨j + 1, P5, Q6, rfl, hj, HM.out.2.2.1.keep (((Chg.refl (fun _ => False) w6).alloc (.cells #[] 9)).trans (U := fun _ => False) HC10.out (fun _ _ h => h) (fun _ _ h => h))⟩⟩
                    case measure => simp; omega
                | some ad =>
                  go_wp2_with fail
                  refine (Tryz.slices_Sort_string_none _ 0 _).mono ?_
                  rintro e w8 ⟨rfl, rfl⟩
                  have hEq := fun W => Tryz.slices_Equal_string_empty (some ⟨w6.heap.size, 0, none⟩) YA 0 0 yc W (by omega)
                  have hIs := fun W => IsSorted_asc YA yc [] W (.inl rfl) (by simp) List.Pairwise.nil
                  rw [show decide ((0 : Nat) = 0) = true from rfl] at hEq
                  simp only [List.length_nil] at hIs
                  go_wp2_with (first | (go_at_call 15; refine (hEq _).mono ?_; rintro e w9 ⟨rfl, rfl⟩) | (go_at_call 19; refine (hIs _).mono ?_; rintro e w10 ⟨rfl, c10⟩; have HC10 := Lib.hid c10; clear c10))
                  go_loopw [141] (fun p wq => p = .int .i64 0 ∧ wq = w10) (fun _ _ => 0)
                  case atStart => exact ⟨rfl, rfl⟩
                  case round =>
                    obtain ⟨rfl, rfl⟩ := hrel
                    go_wp2_with fail
                    go_roundw
                    case rel => exact ⟨⟨j + 1, P5, Q6, rfl, hj, HM.out.2.2.1.keep (((Chg.refl (fun _ => False) w6).alloc (.cells #[] 9)).trans (U := fun _ => False) HC10.out (fun _ _ h => h) (fun _ _ h => h))⟩⟩
                    case measure => simp; omega
              · obtain ⟨g, rfl, hg, hgc⟩ := own_cells HM.out.1 (by omega)
                have hnews : ∀ i u, (xs.map Value.string)[i]? = some u → (w6.alloc (.cells #[] 9)).cell? ((⟨g, 0, none⟩ : Addr).add i) = some u := by
                  intro i u hu
                  rw [show ((⟨g, 0, none⟩ : Addr).add i) = ⟨g, i, none⟩ by unfold Addr.add; split <;> simp_all]
                  have hi : i < xs.length := by have := (List.getElem?_eq_some_iff.1 hu).1; simpa using this
                  have e : (xs.map Value.string)[i]? = some (.string xs[i]) := by simp [hi]
                  rw [e] at hu; cases hu
                  exact cell_keep ((Chg.refl _ w6).alloc _) (hgc i hi).1
                have hone : ∀ u ∈ xs.map Value.string, u.oneCell' = true := by
                  intro u hu; obtain ⟨b, _, rfl⟩ := List.mem_map.1 hu; rfl
                have HNw := Lib.hid hnews; have HOn := Lib.hid hone
                have HLn := Lib.hid (show (xs.map Value.string).length = N.length * 1 by simp [hxl])
                clear hnews hone hg hgc
                go_wp2_with (first | (at_builtin; refine wpList_append_lies _ rfl (.tmp 117) (.tmp 118) 44 rfl 0 9 is (.string ⟨#[]⟩) 1 16 Tryz.underlying44 his hzs0 hzs1 hzs2 rfl (by decide) (.slice (some ⟨w6.heap.size, 0, none⟩) 0 0) 0 [] rfl (World.ownsRow_lit w6 #[] 0 (Nat.zero_le _) (Nat.zero_le _) rfl) ⟨g, 0, none⟩ N.length xc (xs.map .string) rfl HLn.out HNw.out HOn.out (by omega) ?b1 ?b2 (Nat.zero_le _) _ rfl ?_))
                case b1 => unfold maxLen; omega
                case b2 => omega
                intro kk cap' w7 hown hgrow hor hkk
                have hc7 : Chg (fun _ => False) w6 w7 := ((Chg.refl (fun _ => False) w6).alloc (.cells #[] 9)).trans (Chg.of_grown hgrow) (fun _ _ h => h) (fun j hj e => by have := own_blk_eq e.symm; omega)
                have hkk6 : w6.heap.size ≤ kk := by
                  rcases hor with h | h
                  · have := own_blk_eq h; omega
                  · (try simp at h); omega
                obtain ⟨_, hYr, hli, hasc, hall, hds, hperm⟩ := HM.out
                have hli7 := hli.keep hc7
                have hso := Sort_spec (some ⟨kk, 0, none⟩) N.length cap' xs N w7 hown hxl hlen hperm hasc
                have hY7 := hYr.chg hc7 (fun _ _ h => h)
                have hYo : Off YA (fun k => ∃ o, (some ⟨kk, 0, none⟩ : Option Addr) = some ⟨k, o, none⟩) := by
                  rintro ad rfl ⟨o, e⟩
                  cases e
                  rcases hYr with h | ⟨g', off', e', h⟩
                  · have : N = [] := by simpa using h
                    rw [this] at hN0; exact hN0 rfl
                  · have h0 : 0 < N.length := by omega
                    have h2 : g' < w6.heap.size := World.block_lt_of_cell? w6 _ (h 0 (.string N[0]) (by simp [h0]))
                    cases e'
                    have h3 : w6.heap.size ≤ g' := hkk6
                    omega
                have HSo := Lib.hid hso
                have HLI6 := Lib.hid hli
                have HT := Lib.hid (And.intro hli7 (And.intro hY7 (And.intro hYo (And.intro hasc (And.intro hall (And.intro hds hkk6))))))
                clear hso hli7 hY7 hYo hasc hall hds hkk6 hYr hli hperm hown hgrow hor hkk HM HNw HOn HLn
                go_wp2_with (go_at_call 18; refine HSo.out.mono ?_; rintro e w8 ⟨rfl, s1, s2⟩; have H8 := Lib.hid (And.intro s1 s2); clear s1 s2)
                have hli8 : Li2 w w8 B1 B2 (rots rb) P5 Q6 O1 O2 (some ⟨db, 0, none⟩) n dc ds (j + 1) (j + 1) := by
                  obtain ⟨hli7, _, _, _, _, _, hkk6⟩ := HT.out
                  have hli6 := HLI6.out
                  refine hli7.other H8.out.2 (fun i hi => ?_) (fun i hi hS => ?_)
                  · obtain ⟨o, e⟩ := hi
                    cases e
                    exact ⟨Nat.le_trans hli6.pair.m1.chg.size hkk6, fun ho => by have := hli6.pair.m1.fs.lt ho; omega, fun ho => by have := hli6.pair.m2.fs.lt ho; omega⟩
                  · obtain ⟨o, e⟩ := hS
                    cases e
                    have := own_lt hli6.row hi
                    omega
                have hY8 := HT.out.2.1.chg H8.out.2 HT.out.2.2.1
                have hEq := Equal_same (some ⟨kk, 0, none⟩) YA N.length cap' yc N w8 H8.out.1 hY8 rfl hlen
                have hIs := fun (W : World) (hc : Chg (fun _ => False) w8 W) => IsSorted_asc YA yc N W (hY8.chg hc (fun _ _ h => h)) hlen HT.out.2.2.2.1
                have HEq := Lib.hid hEq; have HIs := Lib.hid hIs; have HL8 := Lib.hid hli8
                clear hEq hIs hli8 hY8
                go_wp2_with (first | (go_at_call 15; refine HEq.out.mono ?_; rintro e w9 ⟨rfl, q9, rfl⟩) | (go_at_call 19; refine (HIs.out _ ((Chg.refl _ _).drewN _)).mono ?_; rintro e w10 ⟨rfl, c10⟩; have HC10 := Lib.hid c10; clear c10))
                have hw10 : Chg (fun _ => False) w8 w10 := ((Chg.refl (fun _ => False) w8).drewN q9).trans HC10.out (fun _ _ h => h) (fun _ _ h => h)
                have hX10 := H8.out.1.chg hw10 (fun _ _ h => h)
                have hL10 := HL8.out.keep hw10
                have HW := Lib.hid hX10; have HL10 := Lib.hid hL10
                clear hw10 hX10 hL10
                go_loopw [141] (fun p wq => (∃ m : Nat, p = .int .i64 m ∧ m ≤ N.length) ∧ Chg (fun _ => False) w10 wq) (fun p _ => N.length - (match p with | .int _ k => k.toNat | _ => 0))
                case atStart => exact ⟨⟨0, rfl, Nat.zero_le _⟩, Chg.refl _ _⟩
                case round =>
                  obtain ⟨⟨m, rfl, hm⟩, hcq⟩ := hrel
                  by_cases hmn : m < N.length
                  · have hmb : IntKind.i64.wrap ((m : Int) + 1) = m + 1 := by rw [IntKind.wrap_i64]; omega
                    have m0 : (0 : Int) ≤ m := by omega
                    have m1 : (m : Int) < N.length := by omega
                    have tm : decide (m < N.length) = true := decide_eq_true hmn
                    obtain ⟨g0, off0, e0, hc⟩ := rd_cell (HW.out.chg hcq (fun _ _ h => h)) m hmn
                    cases e0
                    have q1 := hc m hmn
                    rw [Nat.zero_add] at q1
                    have hasc := HT.out.2.2.2.1
                    obtain ⟨hx1, hx2, hx3⟩ := HT.out.2.2.2.2.1 N[m] (List.getElem_mem hmn)
                    have hds := HT.out.2.2.2.2.2.1
                    have hJ := fun W => Join_spec d N[m] W hds hx3
                    have hjs : (joinS d N[m]).size ≤ maxLen := by
                      have e : (joinS d N[m]).size = (joinB d.data.toList (N[m]).data.toList).length := by rw [← joinS_list]; simp
                      rw [e]; unfold joinB maxLen; split
                      · simp; omega
                      · simp; omega
                    have hfe : P5.findErr (joinS d N[m]).data.toList = 0 := by
                      rw [joinS_list]
                      cases hk : P5.kindAt (joinB d.data.toList (N[m]).data.toList) with
                      | none => rw [hk] at hx1; cases hx1
                      | some v => exact (stat_of_kind hk).2
                    have hL := fun (W : World) (hc : Chg (fun _ => False) w10 W) => Lstat_fs ((HL10.out.pair.m1.keep hc).fs) (joinS d N[m]) hjs
                    rw [hfe] at hL
                    have hCo := fun (W : World) => Tryz.strings_Contains_one N[m] 47 W
                    rw [show decide (0 ≤ Lib.indexByte (N[m]).data.toList 47) = false by rw [hx2]; rfl] at hCo
                    have hprev : 0 < m → (∀ W, Chg (fun _ => False) wr W → True) ∧ True := fun _ => ⟨fun _ _ => trivial, trivial⟩
                    have HJ := Lib.hid hJ; have HL := Lib.hid hL; have HCo := Lib.hid hCo; have HQ := Lib.hid hcq
                    clear hJ hL hCo hprev hjs hfe hx1 hx2 hx3 hds hcq
                    generalize P5.stat (joinS d N[m]).data.toList = st8 at *
                    obtain ⟨s0, s1, s2, s3, s4, s5, s6, s7⟩ := st8
                    simp only [Info8.val] at HL
                    by_cases hm0 : m = 0
                    · subst hm0
                      go_wp2_with (first | (go_at_call 20; refine (HJ.out _).mono ?_; rintro e v1 ⟨rfl, rfl⟩) | (go_at_call 16; refine (HL.out _ HQ.out).mono ?_; rintro e v2 ⟨rfl, d2⟩; have HD2 := Lib.hid d2; clear d2) | (go_at_call 21; refine (HCo.out _).mono ?_; rintro e v3 ⟨rfl, rfl⟩))
                      exact ⟨⟨⟨1, rfl, by omega⟩, (HQ.out.trans (U := fun _ => False) HD2.out (fun _ _ h => h) (fun _ _ h => h)).alloc _⟩, by simp; omega⟩
                    · obtain ⟨m', rfl⟩ : ∃ m', m = m' + 1 := ⟨m - 1, by omega⟩
                      have hm' : m' < N.length := by omega
                      have q0 := hc m' hm'
                      rw [Nat.zero_add] at q0
                      have hlt : (N[m']).toList < (N[m' + 1]).toList := List.pairwise_iff_getElem.1 hasc m' (m' + 1) hm' hmn (by omega)
                      have hne : ((N[m']).toList == (N[m' + 1]).toList) = false := by
                        rw [beq_eq_false_iff_ne]; intro e; rw [e] at hlt; exact List.lt_irrefl _ hlt
                      have tp : decide ((0 : Int) < (m' : Int) + 1) = true := decide_eq_true (by omega)
                      have hw1 : IntKind.i64.wrap ((m' : Int) + 1 - 1) = m' := by rw [IntKind.wrap_i64]; omega
                      have n0 : (0 : Int) ≤ m' := by omega
                      have n1 : (m' : Int) < N.length := by omega
                      simp only [Int.natCast_add, Int.natCast_one] at hmb m0 m1
                      clear hasc hlt hc
                      go_wp2_with (first | (go_at_call 20; refine (HJ.out _).mono ?_; rintro e v1 ⟨rfl, rfl⟩) | (go_at_call 16; refine (HL.out _ HQ.out).mono ?_; rintro e v2 ⟨rfl, d2⟩; have HD2 := Lib.hid d2; have qv := cell_keep ((Chg.refl (fun _ => False) v2).alloc (.cells #[.int .i64 s0, .int .i64 s1, .int .i64 s2, .int .i64 s3, .int .i64 s4, .string s5, .int .i64 s6, .int .i64 s7] 52)) (cell_keep d2 q0); clear d2) | (go_at_call 21; refine (HCo.out _).mono ?_; rintro e v3 ⟨rfl, rfl⟩))
                      exact ⟨⟨⟨m' + 1 + 1, by simp, by omega⟩, (HQ.out.trans (U := fun _ => False) HD2.out (fun _ _ h => h) (fun _ _ h => h)).alloc _⟩, by simp; omega⟩
                  · have tm : decide (m < N.length) = false := decide_eq_false hmn
                    have HE := Lib.hid (HL10.out.keep hcq)
                    go_wp2_with fail
                    go_roundw
                    case rel => exact ⟨⟨j + 1, P5, Q6, rfl, hj, HE.out⟩⟩
                    case measure => simp; omega
            · have tj : decide (j < n) = false := decide_eq_false hj
              have HS := Lib.hid hs.pair.m1.chg
              clear hs hjn
              go_wp2_with (go_at_call 6; refine (alive_any _).mono ?_; rintro e wz ⟨rfl, cz⟩)
              go_ret
              exact ⟨rfl, HS.out.trans (U := fun _ => False) cz (fun _ _ h => h) (fun _ _ h => h)⟩
end Go.Proofs.YtfkfeoocglcjgaaGreatDoor
