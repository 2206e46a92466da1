/- The law's walk. -/
import Derived.Test.YtgbpoehhikiieaaEnv
set_option linter.unusedVariables false
set_option linter.unusedSimpArgs false
namespace Go.Proofs.Ytgbpoehhikiieaa
open Go.RowKit

structure ActD where
  kind : Int
  A : Option Addr
  c : Nat
  b : List UInt8
  n : Int

structure ActAt (w : World) (g o : Nat) (a : ActD) : Prop where
  k : w.cell? ⟨g, o, none⟩ = some (.int .i64 a.kind)
  b : w.cell? ⟨g, o + 1, none⟩ = some (.slice a.A a.b.length a.c)
  n : w.cell? ⟨g, o + 2, none⟩ = some (.int .i64 a.n)
  rd : Rd w a.A (by8 a.b)
  cap : a.b.length ≤ a.c

def ActsAt (w : World) (LA : Option Addr) (acts : List ActD) : Prop := acts = [] ∨ ∃ g o, LA = some ⟨g, o, none⟩ ∧ ∀ j a, acts[j]? = some a → ActAt w g (o + j * 3) a

set_option maxHeartbeats 400000 in
theorem law_big (CA LA : Option Addr) (n cc m lc : Nat) (f : Int) (w : World) (h : m > 50 ∨ n > 300) :
    Calls Try.prog 3 #[.agg #[.slice CA n cc, .int .i64 f], .slice LA m lc] w fun e w' => e = .returned (.bool true) ∧ Chg (fun _ => False) w w' := by
  have hal := fun W => alive_any W
  have HA := Lib.hid hal; clear hal
  by_cases hm : m > 50
  · have hmi : (m : Int) > 50 := by omega
    have hd : decide ((m : Int) > 50) = true := by simp; omega
    go_enter Try.func3, Try.ntmps3
    go_wp2_with (go_at_call 4; refine (HA.out _).mono ?_; rintro e w1 ⟨rfl, h1⟩)
    go_ret
    exact ⟨rfl, (((Chg.refl _ w).alloc _).trans h1 (fun _ _ h => h) (fun _ _ h => h))⟩
  · have hn : n > 300 := by omega
    have hd : decide (50 < (m : Int)) = false := by simp; omega
    have hd2 : decide (300 < (n : Int)) = true := by simp; omega
    go_enter Try.func3, Try.ntmps3
    go_wp2_with (go_at_call 4; refine (HA.out _).mono ?_; rintro e w1 ⟨rfl, h1⟩)
    go_ret
    exact ⟨rfl, (((Chg.refl _ w).alloc _).trans h1 (fun _ _ h => h) (fun _ _ h => h))⟩

theorem act_lt {w : World} {g o : Nat} {a : ActD} (h : ActAt w g o a) {ad : Addr} (e : a.A = some ad) (hn : a.b ≠ []) : ad.block < w.heap.size := by
  rcases h.rd with h1 | ⟨g2, o2, h1, h2⟩
  · have := by8_length a.b; rw [h1] at this; exact absurd (List.eq_nil_of_length_eq_zero this.symm) hn
  · rw [e] at h1; injection h1 with h1; subst h1
    have hpos : 0 < a.b.length := by cases hh : a.b with | nil => exact absurd hh hn | cons x t => simp
    exact World.block_lt_of_cell? w _ (h2 0 _ (List.getElem?_eq_getElem (by rw [by8_length]; exact hpos)))

/-- The loop's relation. -/
structure LawLoop (w : World) (n : Nat) (sb tb wb mb : Nat) (CA CA' : Option Addr) (cc cc' : Nat) (iv : Value) (wr : World) : Prop where
  out : ∃ (j : Nat) (v v' : Value) (st : SinkSt) (err : Int), iv = .int .i64 j ∧ j ≤ n ∧ Both w sb tb wb mb CA CA' cc cc' v v' st err wr ∧ st.content.length ≤ 6000 * j

set_option maxHeartbeats 40000000 in
set_option maxRecDepth 100000 in
theorem law_any (CA LA : Option Addr) (cc lc : Nat) (chunks : List Int) (f : Int) (acts : List ActD) (w : World) (hc : Rd w CA (i64s chunks)) (hCA : CA = none → cc = 0 ∧ chunks.length = 0)
    (hcl : chunks.length ≤ 300) (hwf : ∀ x ∈ chunks, -9223372036854775808 ≤ x ∧ x ≤ 9223372036854775807) (hf : f ≤ 9223372036854775807) (ha : ActsAt w LA acts) (hal : acts.length ≤ 50) :
    Calls Try.prog 3 #[.agg #[.slice CA chunks.length cc, .int .i64 f], .slice LA acts.length lc] w fun e w' => e = .returned (.bool true) ∧ Chg (fun _ => False) w w' := by
  have hd : decide (50 < (acts.length : Int)) = false := by simp; omega
  have hd2 : decide (300 < (chunks.length : Int)) = false := by simp; omega
  have hal2 := fun W => alive_any W
  have HAl := Lib.hid hal2; clear hal2
  have hnew := fun W (hW : Chg (fun _ => False) w W) => sinkNew CA chunks.length cc chunks f W (hc.chg hW (fun _ _ h => h)) rfl hcl (fun e => (hCA e).2)
  have hrnew := fun W (hW : Chg (fun _ => False) w W) => refNew CA chunks.length cc chunks f W (hc.chg hW (fun _ _ h => h)) rfl hcl hCA
  have HN := Lib.hid hnew
  have HR := Lib.hid hrnew
  have HActs := Lib.hid ha
  clear hnew hrnew hc hCA ha
  have hok : SinkOk ⟨chunks, f, [], 0⟩ := ⟨hcl, hwf, hf, by simp, fun h => by simpa using h⟩
  have HOk := Lib.hid hok; clear hok hwf
  go_enter Try.func3, Try.ntmps3
  go_wp2_with fail
  go_region_held3 (fun W => W.cell? ⟨w.heap.size, 0, none⟩ = some (.slice CA chunks.length cc) ∧ W.cell? ⟨w.heap.size, 1, none⟩ = some (.int .i64 f))
    (first | go_keep | exact ⟨cell_keep u2 (cell_keep t2 (by simp)), cell_keep u2 (cell_keep t2 (by simp))⟩ | exact ⟨cell_keep t2 (by simp), cell_keep t2 (by simp)⟩)
    (first | (go_at_call 5; refine (HN.out _ ((Chg.refl _ _).alloc _).drew).mono ?_; rintro e w1 ⟨sb, CA1, cc1, rfl, t1, t2, t3, t4⟩) | (go_at_call 6; refine (HR.out _ (((Chg.refl (fun _ => False) w).alloc _).drew.trans t2 (fun _ _ h => h) (fun _ _ h => h))).mono ?_; rintro e w2 ⟨tb, CA2, cc2, rfl, u1, u2, u3, u4⟩))
  have hc1 : Chg (fun _ => False) w w1 := ((Chg.refl (fun _ => False) w).alloc _).trans t2.of_drew (fun _ _ h => h) (fun _ _ h => h)
  have hc2 : Chg (fun _ => False) w w2 := hc1.trans u2 (fun _ _ h => h) (fun _ _ h => h)
  simp only [World.size_drew, World.size_alloc] at t3 t4
  have ts := t1.keep u2
  have hz1 := hc1.size
  have hz2 := u2.size
  have tl := t1.blk.lt
  have tcl := t1.clt
  have H1 := Lib.hid (And.intro ts (And.intro u1 (And.intro t4 (And.intro u4 (And.intro tcl hc2)))))
  have hne : sb ≠ tb := by omega
  clear ts t1 t2 t4 u1 u2 u4 tcl hc1 hc2 HN HR
  go_wp2_with (go_at_call 7; refine (wrNew sb _).mono ?_; rintro e w3 ⟨rfl, x1, x2⟩; have HX := Lib.hid (And.intro x1 x2); clear x1 x2)
  have hB : Both w sb tb w2.heap.size w3.heap.size CA1 CA2 cc1 cc2 (.slice none 0 0) (.slice none 0 0) ⟨chunks, f, [], 0⟩ 0 (w3.alloc (.cells #[.pointer (some ⟨tb, 0, none⟩), .int .i64 0, .int .i64 0] 35)) := by
    obtain ⟨ts, u1, t4, u4, tcl, hc2⟩ := H1.out
    obtain ⟨x1, x2⟩ := HX.out
    have hal : Chg (fun _ => False) w3 (w3.alloc (.cells #[.pointer (some ⟨tb, 0, none⟩), .int .i64 0, .int .i64 0] 35)) := (Chg.refl _ _).alloc _
    have hc3 := hc2.trans (U := fun _ => False) x2 (fun _ _ h => h) (fun _ _ h => h)
    have h2 := u1.blk.lt
    have h3 := x1.lt
    have h4 := x2.size
    have hcl2 := u1.clt
    have hc1e := u1.cne
    have hs1 := ts.blk.lt
    refine ⟨(ts.keep x2).keep hal, (u1.keep x2).keep hal, x1.chg hal (fun h => h), Blk.new w3 _ _, HOk.out, ⟨by omega, by omega, by omega, by omega⟩, hc3.alloc _, (fun k hk => by cases hk), (fun k hk => by cases hk), ?_, ?_⟩
    · intro ad e
      have a := t4 ad e
      have b := tcl ad e
      have c1 := ts.cne ad e
      refine ⟨by omega, fun h => c1 (.inl h), by omega, by omega, by omega, fun h => (by cases h), fun h => (by cases h), by simp; omega⟩
    · intro ad e
      have a := u4 ad e
      have b := hcl2 ad e
      have c1 := hc1e ad e
      refine ⟨by omega, by omega, fun h => c1 (.inl h), by omega, by omega, fun h => (by cases h), fun h => (by cases h), by simp; omega⟩
  have HB := Lib.hid hB; clear hB H1 HX
  clear t3 u3 hz1 hz2 tl hne
  generalize w3.alloc (.cells #[.pointer (some ⟨tb, 0, none⟩), .int .i64 0, .int .i64 0] 35) = wl at *
  generalize w2.heap.size = wb at *
  generalize w3.heap.size = mb at *
  go_loopw [40] (fun iv wr => LawLoop w acts.length sb tb wb mb CA1 CA2 cc1 cc2 iv wr) (fun iv _ => acts.length - (intOf iv).toNat)
  case atStart => exact ⟨⟨0, _, _, _, 0, rfl, by omega, HB.out, by simp⟩⟩
  case round =>
    obtain ⟨j, v, v', st, err, rfl, hj, hB, hst⟩ := hrel.out
    clear hrel HB
    by_cases hlt : j < acts.length
    · obtain ⟨a, hja⟩ : ∃ a, acts[j]? = some a := ⟨acts[j], by simp [hlt]⟩
      obtain ⟨g, o, rfl, hat⟩ : ∃ g o, LA = some ⟨g, o, none⟩ ∧ ActAt w g (o + j * 3) a := by
        rcases HActs.out with h | ⟨g, o, h1, h2⟩
        · subst h; simp at hlt
        · exact ⟨g, o, h1, h2 j a hja⟩
      have hgl := World.block_lt_of_cell? w _ hat.k
      have q0 := cell_keep hB.chg hat.k
      have q1 := cell_keep hB.chg hat.b
      have q2 := cell_keep hB.chg hat.n
      have hszw := hB.chg.size
      have HA := Lib.hid hat; have HBo := Lib.hid hB
      clear hat hB hja
      have HAl2 := Lib.hid (fun (ad : Addr) (e : a.A = some ad) (hn : a.b ≠ []) => act_lt HA.out e hn)
      by_cases hb2 : 2000 < a.b.length
      · have hb3 : decide (2000 < (a.b.length : Int)) = true := by simp; omega
        go_wp2_with fail
        go_roundw
        case rel => exact ⟨⟨j + 1, v, v', st, err, by go_num, by omega, HBo.out.keep ((Chg.refl _ _).alloc _), by omega⟩⟩
        case measure => simp [intOf]; omega
      · have hb3 : decide (2000 < (a.b.length : Int)) = false := by simp; omega
        by_cases h9 : 9 < a.n
        · have hn9 : decide (9 < a.n) = true := by simpa using h9
          by_cases h1024 : a.n ≤ 1024
          · have hn10 : decide (a.n ≤ 1024) = true := by simpa using h1024
            go_wp2_with fail
            go_roundw
            case rel => exact ⟨⟨j + 1, v, v', st, err, by go_num, by omega, HBo.out.keep ((Chg.refl _ _).alloc _), by omega⟩⟩
            case measure => simp [intOf]; omega
          · have hn10 : decide (a.n ≤ 1024) = false := by simpa using h1024
            by_cases hk : a.kind = 0
            · have hk0 : (a.kind == 0) = true := by simpa using hk
              clear hk
              have HX := Lib.hid (Blk.new wr #[.int .i64 a.kind, .slice a.A a.b.length a.c, .int .i64 a.n] 38)
              have HBx := Lib.hid (HBo.out.keep ((Chg.refl (fun _ => False) wr).alloc (.cells #[.int .i64 a.kind, .slice a.A a.b.length a.c, .int .i64 a.n] 38)))
              have HRd := Lib.hid (HA.out.rd.chg (HBx.out.chg) (fun _ _ h => h))
              have hgt := hgl
              go_wp2_with fail
              generalize wr.alloc (.cells #[.int .i64 a.kind, .slice a.A a.b.length a.c, .int .i64 a.n] 38) = wx at *
              generalize wr.heap.size = ab at *
              clear q0 q1 q2
              have hcall := (HBx.out.keep ((Chg.refl (fun _ => False) wx).drew)).callW (A := a.A) (c := a.c) (l := a.b) HRd.out (by omega) HA.out.cap HAl2.out
              have HC := Lib.hid hcall; clear hcall
              have z1 := HX.out.cell 1
              simp only [List.getElem?_toArray, List.getElem?_cons_zero, List.getElem?_cons_succ] at z1
              go_region_held3 (fun W => W.cell? ⟨ab, 1, none⟩ = some (.slice a.A a.b.length a.c))
                (first | go_keep | exact (z4 : _) | exact (z3 : _))
                (first | (go_at_call 8; refine HC.out.mono ?_; rintro e w3 ⟨rfl, v1, g1⟩; have z3 := (HBx.out.abMid HX.out g1.chg.of_drew).cell 1; have HG1 := Lib.hid g1; simp only [List.getElem?_toArray, List.getElem?_cons_zero, List.getElem?_cons_succ] at z3) | (go_at_call 9; refine (HG1.out.callM (HBx.out.keep ((Chg.refl (fun _ => False) wx).drew)) HRd.out (by omega) HA.out.cap HAl2.out).mono ?_; rintro e w4 ⟨rfl, v2, g2, g3⟩; have HB4 := Lib.hid g2; have z4 := (HG1.out.abFin (HBx.out.abMid HX.out HG1.out.chg.of_drew) g3).cell 1; simp only [List.getElem?_toArray, List.getElem?_cons_zero, List.getElem?_cons_succ] at z4; clear g2 g3))
              obtain ⟨u1, u2, st1, err1, hB5, hl5⟩ : ∃ u1 u2 st1 err1, Both w sb tb wb mb CA1 CA2 cc1 cc2 u1 u2 st1 err1 w4 ∧ st1.content.length ≤ st.content.length + 5000 := ⟨_, _, _, _, HB4.out, wlen_lst _ _ _ _ (by omega)⟩
              clear HB4
              have HB4 := Lib.hid hB5; clear hB5
              obtain ⟨VA, vc, hv2, _, _⟩ := own_form HB4.out.t.row
              have e1 := HB4.out.m.cell 1
              have e2 := HB4.out.t.blk.cell 0
              simp only [List.getElem?_toArray, List.getElem?_cons_zero, List.getElem?_cons_succ, hv2] at e1 e2
              have hrow := HB4.out.t.row
              rw [hv2] at hrow
              have HRow := Lib.hid hrow
              have HCv := Lib.hid (conv_law w4.drew VA _ vc _ (by exact hrow))
              clear hrow hv2
              have hcon : st1.content.length ≤ 100000000 := by omega
              go_wp2_with fail
              refine wp_region_noPanic ?_
              refine wp_region_held_drew (S := (fun W => W.cell? ⟨mb, 1, none⟩ = some (.int .i64 (st1.content.length : Int)) ∧ W.cell? ⟨tb, 0, none⟩ = some (.slice VA st1.content.length vc) ∧ (convert 36 9 (.slice VA st1.content.length vc)).run Try.prog W = .ok (.string (strB st1.content)) W)) (by kernel_rfl) ⟨e1, e2, HCv.out⟩ (fun hHeld => ?_)
              refine wpAnyH_take (i := 0) (oi := { dst := some 87, op := Op.move (Operand.tmp 11), type := 39, pos := "law.go:76", after := #[], guard := none }) (v := ?_) rfl (by kernel_rfl) (by kernel_rfl) (by kernel_rfl) (fun _ _ _ h => h) (Or.inl ⟨by rfl, ?_⟩) (by assumption) ?_
              rotate_left
              · intro w hSw; (try dsimp only at hSw); go_simp <;> (try with_reducible rfl)
              try simp only [Act.put, List.setIfInBounds_toArray, List.set_cons_zero, List.set_cons_succ]
              refine wpAnyH_take (i := 1) (oi := { dst := some 88, op := Op.move (Operand.tmp 12), type := 3, pos := "law.go:76", after := #[], guard := none }) (v := ?_) rfl (by kernel_rfl) (by kernel_rfl) (by kernel_rfl) (fun _ _ _ h => h) (Or.inl ⟨by rfl, ?_⟩) (by assumption) ?_
              rotate_left
              · intro w hSw; (try dsimp only at hSw); go_simp <;> (try with_reducible rfl)
              try simp only [Act.put, List.setIfInBounds_toArray, List.set_cons_zero, List.set_cons_succ]
              refine wpAnyH_take (i := 2) (oi := { dst := some 89, op := Op.binOp BinOp.neq 3 (Operand.tmp 87) (Operand.tmp 88) 3, type := 4, pos := "law.go:76", after := #[{ on := 0, ground := Ground.data }, { on := 1, ground := Ground.data }], guard := none }) (v := ?_) rfl (by kernel_rfl) (by kernel_rfl) (by kernel_rfl) (fun _ _ _ h => h) (Or.inl ⟨by rfl, ?_⟩) (by assumption) ?_
              rotate_left
              · intro w hSw; (try dsimp only at hSw); go_simp <;> (try with_reducible rfl)
              try simp only [Act.put, List.setIfInBounds_toArray, List.set_cons_zero, List.set_cons_succ]
              refine wpAnyH_take (i := 3) (oi := { dst := some 90, op := Op.move (Operand.tmp 89), type := 4, pos := "law.go:76", after := #[{ on := 2, ground := Ground.data }], guard := none }) (v := ?_) rfl (by kernel_rfl) (by kernel_rfl) (by kernel_rfl) (fun _ _ _ h => h) (Or.inl ⟨by rfl, ?_⟩) (by assumption) ?_
              rotate_left
              · intro w hSw; (try dsimp only at hSw); go_simp <;> (try with_reducible rfl)
              try simp only [Act.put, List.setIfInBounds_toArray, List.set_cons_zero, List.set_cons_succ]
              refine wpAnyH_take (i := 4) (oi := { dst := some 91, op := Op.move (Operand.tmp 7), type := 31, pos := "law.go:76", after := #[{ on := 3, ground := Ground.guard }], guard := some (3, false) }) (v := ?_) rfl (by kernel_rfl) (by kernel_rfl) (by kernel_rfl) (fun _ _ _ h => h) (Or.inl ⟨by rfl, ?_⟩) (by assumption) ?_
              rotate_left
              · intro w hSw; (try dsimp only at hSw); go_simp <;> (try with_reducible rfl)
              try simp only [Act.put, List.setIfInBounds_toArray, List.set_cons_zero, List.set_cons_succ]
              refine wpAnyH_take (i := 6) (oi := { dst := some 93, op := Op.move (Operand.tmp 8), type := 33, pos := "law.go:76", after := #[{ on := 3, ground := Ground.guard }], guard := some (3, false) }) (v := ?_) rfl (by kernel_rfl) (by kernel_rfl) (by kernel_rfl) (fun _ _ _ h => h) (Or.inl ⟨by rfl, ?_⟩) (by assumption) ?_
              rotate_left
              · intro w hSw; (try dsimp only at hSw); go_simp <;> (try with_reducible rfl)
              try simp only [Act.put, List.setIfInBounds_toArray, List.set_cons_zero, List.set_cons_succ]
              refine wpAnyH_take (i := 7) (oi := { dst := some 94, op := Op.nilCheck (Operand.tmp 93), type := 0, pos := "law.go:76", after := #[{ on := 6, ground := Ground.data }, { on := 3, ground := Ground.guard }], guard := some (3, false) }) (v := ?_) rfl (by kernel_rfl) (by kernel_rfl) (by kernel_rfl) (fun _ _ _ h => h) (Or.inl ⟨by rfl, ?_⟩) (by assumption) ?_
              rotate_left
              · intro w hSw; (try dsimp only at hSw); go_simp <;> (try with_reducible rfl)
              try simp only [Act.put, List.setIfInBounds_toArray, List.set_cons_zero, List.set_cons_succ]
              refine wpAnyH_take (i := 8) (oi := { dst := some 95, op := Op.fieldAddr 35 (Operand.tmp 94) 1, type := 0, pos := "law.go:76", after := #[{ on := 7, ground := Ground.data }, { on := 3, ground := Ground.guard }], guard := some (3, false) }) (v := ?_) rfl (by kernel_rfl) (by kernel_rfl) (by kernel_rfl) (fun _ _ _ h => h) (Or.inl ⟨by rfl, ?_⟩) (by assumption) ?_
              rotate_left
              · intro w hSw; (try dsimp only at hSw); go_simp <;> (try with_reducible rfl)
              try simp only [Act.put, List.setIfInBounds_toArray, List.set_cons_zero, List.set_cons_succ]
              refine wpAnyH_take (i := 9) (oi := { dst := some 96, op := Op.load 2 (Operand.tmp 95), type := 2, pos := "law.go:76", after := #[{ on := 8, ground := Ground.data }, { on := 3, ground := Ground.guard }], guard := some (3, false) }) (v := ?_) rfl (by kernel_rfl) (by kernel_rfl) (by kernel_rfl) (fun _ _ _ h => h) (Or.inl ⟨by rfl, ?_⟩) (by assumption) ?_
              rotate_left
              · intro w hSw; (try dsimp only at hSw); go_simp <;> (try with_reducible rfl)
              try simp only [Act.put, List.setIfInBounds_toArray, List.set_cons_zero, List.set_cons_succ]
              refine wpAnyH_ready (rs := [5]) (by kernel_rfl) (by simp) ?_
              refine AllReadyH.cons (o := { dst := some 92, op := Op.call { callee := Callee.value (Operand.func 14), args := #[Operand.tmp 91], argTypes := #[31] }, type := 2, pos := "law.go:76", after := #[{ on := 4, ground := Ground.data }, { on := 3, ground := Ground.chain }, { on := 3, ground := Ground.guard }], guard := some (3, false) }) rfl (fun K hK => ?_) ?_
              rotate_left
              · exact AllReadyH.nil
              go_simp
              refine (wrOffset wb st1.content.length _ _ _ (by first | exact HB4.out.w | exact Blk.drew HB4.out.w)).mono ?_
              rintro e w6 ⟨rfl, rfl⟩
              go_wp2_with fail
              refine hK.out _ _ ?_ (fun hHeld => ?_)
              · exact ⟨e1, e2, HCv.out⟩
              clear hK K
              try simp only [Act.put, List.setIfInBounds_toArray, List.set_cons_zero, List.set_cons_succ]
              refine wpAnyH_take (i := 10) (oi := { dst := some 97, op := Op.binOp BinOp.neq 2 (Operand.tmp 92) (Operand.tmp 96) 2, type := 4, pos := "law.go:76", after := #[{ on := 5, ground := Ground.data }, { on := 9, ground := Ground.data }, { on := 3, ground := Ground.guard }], guard := some (3, false) }) (v := ?_) rfl (by kernel_rfl) (by kernel_rfl) (by kernel_rfl) (fun _ _ _ h => h) (Or.inl ⟨by rfl, ?_⟩) (by assumption) ?_
              rotate_left
              · intro w hSw; (try dsimp only at hSw); go_simp <;> (try with_reducible rfl)
              try simp only [Act.put, List.setIfInBounds_toArray, List.set_cons_zero, List.set_cons_succ]
              refine wpAnyH_take (i := 11) (oi := { dst := some 98, op := Op.pick (Operand.tmp 90) (Operand.const (Value.bool true)) (Operand.tmp 97), type := 4, pos := "law.go:76", after := #[{ on := 3, ground := Ground.data }, { on := 10, ground := Ground.data }], guard := none }) (v := ?_) rfl (by kernel_rfl) (by kernel_rfl) (by kernel_rfl) (fun _ _ _ h => h) (Or.inl ⟨by rfl, ?_⟩) (by assumption) ?_
              rotate_left
              · intro w hSw; (try dsimp only at hSw); go_simp <;> (try with_reducible rfl)
              try simp only [Act.put, List.setIfInBounds_toArray, List.set_cons_zero, List.set_cons_succ]
              refine wpAnyH_take (i := 12) (oi := { dst := some 99, op := Op.move (Operand.tmp 98), type := 4, pos := "law.go:76", after := #[{ on := 11, ground := Ground.data }, { on := 5, ground := Ground.chain }], guard := none }) (v := ?_) rfl (by kernel_rfl) (by kernel_rfl) (by kernel_rfl) (fun _ _ _ h => h) (Or.inl ⟨by rfl, ?_⟩) (by assumption) ?_
              rotate_left
              · intro w hSw; (try dsimp only at hSw); go_simp <;> (try with_reducible rfl)
              try simp only [Act.put, List.setIfInBounds_toArray, List.set_cons_zero, List.set_cons_succ]
              refine wpAnyH_take (i := 13) (oi := { dst := some 100, op := Op.move (Operand.tmp 5), type := 27, pos := "law.go:76", after := #[{ on := 12, ground := Ground.guard }], guard := some (12, false) }) (v := ?_) rfl (by kernel_rfl) (by kernel_rfl) (by kernel_rfl) (fun _ _ _ h => h) (Or.inl ⟨by rfl, ?_⟩) (by assumption) ?_
              rotate_left
              · intro w hSw; (try dsimp only at hSw); go_simp <;> (try with_reducible rfl)
              try simp only [Act.put, List.setIfInBounds_toArray, List.set_cons_zero, List.set_cons_succ]
              refine wpAnyH_take (i := 16) (oi := { dst := some 103, op := Op.move (Operand.tmp 6), type := 29, pos := "law.go:76", after := #[{ on := 12, ground := Ground.guard }], guard := some (12, false) }) (v := ?_) rfl (by kernel_rfl) (by kernel_rfl) (by kernel_rfl) (fun _ _ _ h => h) (Or.inl ⟨by rfl, ?_⟩) (by assumption) ?_
              rotate_left
              · intro w hSw; (try dsimp only at hSw); go_simp <;> (try with_reducible rfl)
              try simp only [Act.put, List.setIfInBounds_toArray, List.set_cons_zero, List.set_cons_succ]
              refine wpAnyH_take (i := 17) (oi := { dst := some 104, op := Op.nilCheck (Operand.tmp 103), type := 0, pos := "law.go:76", after := #[{ on := 16, ground := Ground.data }, { on := 12, ground := Ground.guard }], guard := some (12, false) }) (v := ?_) rfl (by kernel_rfl) (by kernel_rfl) (by kernel_rfl) (fun _ _ _ h => h) (Or.inl ⟨by rfl, ?_⟩) (by assumption) ?_
              rotate_left
              · intro w hSw; (try dsimp only at hSw); go_simp <;> (try with_reducible rfl)
              try simp only [Act.put, List.setIfInBounds_toArray, List.set_cons_zero, List.set_cons_succ]
              refine wpAnyH_take (i := 18) (oi := { dst := some 105, op := Op.fieldAddr 49 (Operand.tmp 104) 0, type := 0, pos := "law.go:76", after := #[{ on := 17, ground := Ground.data }, { on := 12, ground := Ground.guard }], guard := some (12, false) }) (v := ?_) rfl (by kernel_rfl) (by kernel_rfl) (by kernel_rfl) (fun _ _ _ h => h) (Or.inl ⟨by rfl, ?_⟩) (by assumption) ?_
              rotate_left
              · intro w hSw; (try dsimp only at hSw); go_simp <;> (try with_reducible rfl)
              try simp only [Act.put, List.setIfInBounds_toArray, List.set_cons_zero, List.set_cons_succ]
              refine wpAnyH_take (i := 19) (oi := { dst := some 106, op := Op.load 36 (Operand.tmp 105), type := 36, pos := "law.go:76", after := #[{ on := 18, ground := Ground.data }, { on := 12, ground := Ground.guard }], guard := some (12, false) }) (v := ?_) rfl (by kernel_rfl) (by kernel_rfl) (by kernel_rfl) (fun _ _ _ h => h) (Or.inl ⟨by rfl, ?_⟩) (by assumption) ?_
              rotate_left
              · intro w hSw; (try dsimp only at hSw); go_simp <;> (try with_reducible rfl)
              try simp only [Act.put, List.setIfInBounds_toArray, List.set_cons_zero, List.set_cons_succ]
              refine wpAnyH_take (i := 20) (oi := { dst := some 107, op := Op.convert 36 9 (Operand.tmp 106), type := 9, pos := "law.go:76", after := #[{ on := 19, ground := Ground.data }, { on := 12, ground := Ground.guard }], guard := some (12, false) }) (v := ?_) rfl (by kernel_rfl) (by kernel_rfl) (by kernel_rfl) (fun _ _ _ h => h) (Or.inl ⟨by rfl, ?_⟩) (by assumption) ?_
              rotate_left
              · intro w hSw; (try dsimp only at hSw); go_simp <;> (try with_reducible rfl)
              try simp only [Act.put, List.setIfInBounds_toArray, List.set_cons_zero, List.set_cons_succ]
              refine wpAnyH_ready (rs := [14]) (by kernel_rfl) (by simp) ?_
              refine AllReadyH.cons (o := { dst := some 101, op := Op.call { callee := Callee.value (Operand.func 15), args := #[Operand.tmp 100], argTypes := #[27] }, type := 36, pos := "law.go:76", after := #[{ on := 13, ground := Ground.data }, { on := 12, ground := Ground.chain }, { on := 12, ground := Ground.guard }], guard := some (12, false) }) rfl (fun K hK => ?_) ?_
              rotate_left
              · exact AllReadyH.nil
              go_simp
              refine (sinkBytes sb u1 CA1 cc1 st1 _ (by first | exact HB4.out.s.drewN 1 | exact HB4.out.s) hcon).mono ?_
              rintro e w5 ⟨BA, bc, rfl, y1, y2⟩
              have hcv5 := conv_law w5 BA _ bc _ y1
              have Y2 := Lib.hid y2.of_drew
              clear y1 y2
              go_wp2_with fail
              refine hK.out _ _ ?_ (fun hHeld => ?_)
              · exact ⟨cell_keep Y2.out e1, cell_keep Y2.out e2, conv_law w5 VA _ vc _ (own_chg HRow.out Y2.out (fun _ _ h => h))⟩
              clear hK K
              try simp only [Act.put, List.setIfInBounds_toArray, List.set_cons_zero, List.set_cons_succ]
              refine wpAnyH_ready (rs := [15]) (by kernel_rfl) (by simp) ?_
              refine AllReadyH.cons (o := { dst := some 102, op := Op.convert 36 9 (Operand.tmp 101), type := 9, pos := "law.go:76", after := #[{ on := 14, ground := Ground.data }, { on := 12, ground := Ground.guard }], guard := some (12, false) }) rfl (fun K hK => ?_) ?_
              rotate_left
              · exact AllReadyH.nil
              go_simp
              refine hK.out _ _ ?_ (fun hHeld => ?_)
              · exact ⟨cell_keep Y2.out e1, cell_keep Y2.out e2, conv_law w5 VA _ vc _ (own_chg HRow.out Y2.out (fun _ _ h => h))⟩
              clear hK K
              try simp only [Act.put, List.setIfInBounds_toArray, List.set_cons_zero, List.set_cons_succ]
              refine wpAnyH_take (i := 21) (oi := { dst := some 108, op := Op.binOp BinOp.neq 9 (Operand.tmp 102) (Operand.tmp 107) 9, type := 4, pos := "law.go:76", after := #[{ on := 15, ground := Ground.data }, { on := 20, ground := Ground.data }, { on := 12, ground := Ground.guard }], guard := some (12, false) }) (v := ?_) rfl (by kernel_rfl) (by kernel_rfl) (by kernel_rfl) (fun _ _ _ h => h) (Or.inl ⟨by rfl, ?_⟩) (by assumption) ?_
              rotate_left
              · intro w hSw; (try dsimp only at hSw); go_simp <;> (try with_reducible rfl)
              try simp only [Act.put, List.setIfInBounds_toArray, List.set_cons_zero, List.set_cons_succ]
              refine wpAnyH_take (i := 22) (oi := { dst := some 109, op := Op.pick (Operand.tmp 99) (Operand.const (Value.bool true)) (Operand.tmp 108), type := 4, pos := "law.go:76", after := #[{ on := 12, ground := Ground.data }, { on := 21, ground := Ground.data }], guard := none }) (v := ?_) rfl (by kernel_rfl) (by kernel_rfl) (by kernel_rfl) (fun _ _ _ h => h) (Or.inl ⟨by rfl, ?_⟩) (by assumption) ?_
              rotate_left
              · intro w hSw; (try dsimp only at hSw); go_simp <;> (try with_reducible rfl)
              try simp only [Act.put, List.setIfInBounds_toArray, List.set_cons_zero, List.set_cons_succ]
              refine wpAnyH_done (by kernel_rfl) ?_ _
              refine NoPanic.normal ?_
              go_wp2_with fail
              go_roundw
              case rel => exact ⟨⟨j + 1, u1, u2, st1, err1, by go_num, by omega, HB4.out.keep Y2.out, by omega⟩⟩
              case measure => simp [intOf]; omega
            · have hk0 : (a.kind == 0) = false := by simpa using hk
              clear hk
              by_cases hk : a.kind = 1
              · have hk1 : (a.kind == 1) = true := by simpa using hk
                clear hk
                have HX := Lib.hid (Blk.new wr #[.int .i64 a.kind, .slice a.A a.b.length a.c, .int .i64 a.n] 38)
                have HBx := Lib.hid (HBo.out.keep ((Chg.refl (fun _ => False) wr).alloc (.cells #[.int .i64 a.kind, .slice a.A a.b.length a.c, .int .i64 a.n] 38)))
                have HRd := Lib.hid (HA.out.rd.chg (HBx.out.chg) (fun _ _ h => h))
                have hgt := hgl
                go_wp2_with fail
                generalize wr.alloc (.cells #[.int .i64 a.kind, .slice a.A a.b.length a.c, .int .i64 a.n] 38) = wx at *
                generalize wr.heap.size = ab at *
                clear q0 q1 q2
                refine (HBx.out.callP (by omega)).mono ?_
                rintro e w3 ⟨rfl, v1, g1⟩
                have HG1 := Lib.hid g1; clear g1
                go_wp2_with fail
                refine (HG1.out.callPM HBx.out (by omega)).mono ?_
                rintro e w4 ⟨rfl, v2, g2, g3⟩
                have HB4 := Lib.hid g2; clear g2 g3 HG1
                obtain ⟨u1, u2, st1, err1, hB5, hl5⟩ : ∃ u1 u2 st1 err1, Both w sb tb wb mb CA1 CA2 cc1 cc2 u1 u2 st1 err1 w4 ∧ st1.content.length ≤ st.content.length + 5000 := ⟨_, _, _, _, HB4.out, wlen_rep _ _ _ _ (padLen_le _)⟩
                clear HB4
                have HB4 := Lib.hid hB5; clear hB5
                obtain ⟨VA, vc, hv2, _, _⟩ := own_form HB4.out.t.row
                have e1 := HB4.out.m.cell 1
                have e2 := HB4.out.t.blk.cell 0
                simp only [List.getElem?_toArray, List.getElem?_cons_zero, List.getElem?_cons_succ, hv2] at e1 e2
                have hrow := HB4.out.t.row
                rw [hv2] at hrow
                have HRow := Lib.hid hrow
                have HCv := Lib.hid (conv_law w4.drew VA _ vc _ (by exact hrow))
                clear hrow hv2
                have hcon : st1.content.length ≤ 100000000 := by omega
                go_wp2_with fail
                refine wp_region_noPanic ?_
                refine wp_region_held_drew (S := (fun W => W.cell? ⟨mb, 1, none⟩ = some (.int .i64 (st1.content.length : Int)) ∧ W.cell? ⟨tb, 0, none⟩ = some (.slice VA st1.content.length vc) ∧ (convert 36 9 (.slice VA st1.content.length vc)).run Try.prog W = .ok (.string (strB st1.content)) W)) (by kernel_rfl) ⟨e1, e2, HCv.out⟩ (fun hHeld => ?_)
                refine wpAnyH_take (i := 0) (oi := { dst := some 87, op := Op.move (Operand.tmp 11), type := 39, pos := "law.go:76", after := #[], guard := none }) (v := ?_) rfl (by kernel_rfl) (by kernel_rfl) (by kernel_rfl) (fun _ _ _ h => h) (Or.inl ⟨by rfl, ?_⟩) (by assumption) ?_
                rotate_left
                · intro w hSw; (try dsimp only at hSw); go_simp <;> (try with_reducible rfl)
                try simp only [Act.put, List.setIfInBounds_toArray, List.set_cons_zero, List.set_cons_succ]
                refine wpAnyH_take (i := 1) (oi := { dst := some 88, op := Op.move (Operand.tmp 12), type := 3, pos := "law.go:76", after := #[], guard := none }) (v := ?_) rfl (by kernel_rfl) (by kernel_rfl) (by kernel_rfl) (fun _ _ _ h => h) (Or.inl ⟨by rfl, ?_⟩) (by assumption) ?_
                rotate_left
                · intro w hSw; (try dsimp only at hSw); go_simp <;> (try with_reducible rfl)
                try simp only [Act.put, List.setIfInBounds_toArray, List.set_cons_zero, List.set_cons_succ]
                refine wpAnyH_take (i := 2) (oi := { dst := some 89, op := Op.binOp BinOp.neq 3 (Operand.tmp 87) (Operand.tmp 88) 3, type := 4, pos := "law.go:76", after := #[{ on := 0, ground := Ground.data }, { on := 1, ground := Ground.data }], guard := none }) (v := ?_) rfl (by kernel_rfl) (by kernel_rfl) (by kernel_rfl) (fun _ _ _ h => h) (Or.inl ⟨by rfl, ?_⟩) (by assumption) ?_
                rotate_left
                · intro w hSw; (try dsimp only at hSw); go_simp <;> (try with_reducible rfl)
                try simp only [Act.put, List.setIfInBounds_toArray, List.set_cons_zero, List.set_cons_succ]
                refine wpAnyH_take (i := 3) (oi := { dst := some 90, op := Op.move (Operand.tmp 89), type := 4, pos := "law.go:76", after := #[{ on := 2, ground := Ground.data }], guard := none }) (v := ?_) rfl (by kernel_rfl) (by kernel_rfl) (by kernel_rfl) (fun _ _ _ h => h) (Or.inl ⟨by rfl, ?_⟩) (by assumption) ?_
                rotate_left
                · intro w hSw; (try dsimp only at hSw); go_simp <;> (try with_reducible rfl)
                try simp only [Act.put, List.setIfInBounds_toArray, List.set_cons_zero, List.set_cons_succ]
                refine wpAnyH_take (i := 4) (oi := { dst := some 91, op := Op.move (Operand.tmp 7), type := 31, pos := "law.go:76", after := #[{ on := 3, ground := Ground.guard }], guard := some (3, false) }) (v := ?_) rfl (by kernel_rfl) (by kernel_rfl) (by kernel_rfl) (fun _ _ _ h => h) (Or.inl ⟨by rfl, ?_⟩) (by assumption) ?_
                rotate_left
                · intro w hSw; (try dsimp only at hSw); go_simp <;> (try with_reducible rfl)
                try simp only [Act.put, List.setIfInBounds_toArray, List.set_cons_zero, List.set_cons_succ]
                refine wpAnyH_take (i := 6) (oi := { dst := some 93, op := Op.move (Operand.tmp 8), type := 33, pos := "law.go:76", after := #[{ on := 3, ground := Ground.guard }], guard := some (3, false) }) (v := ?_) rfl (by kernel_rfl) (by kernel_rfl) (by kernel_rfl) (fun _ _ _ h => h) (Or.inl ⟨by rfl, ?_⟩) (by assumption) ?_
                rotate_left
                · intro w hSw; (try dsimp only at hSw); go_simp <;> (try with_reducible rfl)
                try simp only [Act.put, List.setIfInBounds_toArray, List.set_cons_zero, List.set_cons_succ]
                refine wpAnyH_take (i := 7) (oi := { dst := some 94, op := Op.nilCheck (Operand.tmp 93), type := 0, pos := "law.go:76", after := #[{ on := 6, ground := Ground.data }, { on := 3, ground := Ground.guard }], guard := some (3, false) }) (v := ?_) rfl (by kernel_rfl) (by kernel_rfl) (by kernel_rfl) (fun _ _ _ h => h) (Or.inl ⟨by rfl, ?_⟩) (by assumption) ?_
                rotate_left
                · intro w hSw; (try dsimp only at hSw); go_simp <;> (try with_reducible rfl)
                try simp only [Act.put, List.setIfInBounds_toArray, List.set_cons_zero, List.set_cons_succ]
                refine wpAnyH_take (i := 8) (oi := { dst := some 95, op := Op.fieldAddr 35 (Operand.tmp 94) 1, type := 0, pos := "law.go:76", after := #[{ on := 7, ground := Ground.data }, { on := 3, ground := Ground.guard }], guard := some (3, false) }) (v := ?_) rfl (by kernel_rfl) (by kernel_rfl) (by kernel_rfl) (fun _ _ _ h => h) (Or.inl ⟨by rfl, ?_⟩) (by assumption) ?_
                rotate_left
                · intro w hSw; (try dsimp only at hSw); go_simp <;> (try with_reducible rfl)
                try simp only [Act.put, List.setIfInBounds_toArray, List.set_cons_zero, List.set_cons_succ]
                refine wpAnyH_take (i := 9) (oi := { dst := some 96, op := Op.load 2 (Operand.tmp 95), type := 2, pos := "law.go:76", after := #[{ on := 8, ground := Ground.data }, { on := 3, ground := Ground.guard }], guard := some (3, false) }) (v := ?_) rfl (by kernel_rfl) (by kernel_rfl) (by kernel_rfl) (fun _ _ _ h => h) (Or.inl ⟨by rfl, ?_⟩) (by assumption) ?_
                rotate_left
                · intro w hSw; (try dsimp only at hSw); go_simp <;> (try with_reducible rfl)
                try simp only [Act.put, List.setIfInBounds_toArray, List.set_cons_zero, List.set_cons_succ]
                refine wpAnyH_ready (rs := [5]) (by kernel_rfl) (by simp) ?_
                refine AllReadyH.cons (o := { dst := some 92, op := Op.call { callee := Callee.value (Operand.func 14), args := #[Operand.tmp 91], argTypes := #[31] }, type := 2, pos := "law.go:76", after := #[{ on := 4, ground := Ground.data }, { on := 3, ground := Ground.chain }, { on := 3, ground := Ground.guard }], guard := some (3, false) }) rfl (fun K hK => ?_) ?_
                rotate_left
                · exact AllReadyH.nil
                go_simp
                refine (wrOffset wb st1.content.length _ _ _ (by first | exact HB4.out.w | exact Blk.drew HB4.out.w)).mono ?_
                rintro e w6 ⟨rfl, rfl⟩
                go_wp2_with fail
                refine hK.out _ _ ?_ (fun hHeld => ?_)
                · exact ⟨e1, e2, HCv.out⟩
                clear hK K
                try simp only [Act.put, List.setIfInBounds_toArray, List.set_cons_zero, List.set_cons_succ]
                refine wpAnyH_take (i := 10) (oi := { dst := some 97, op := Op.binOp BinOp.neq 2 (Operand.tmp 92) (Operand.tmp 96) 2, type := 4, pos := "law.go:76", after := #[{ on := 5, ground := Ground.data }, { on := 9, ground := Ground.data }, { on := 3, ground := Ground.guard }], guard := some (3, false) }) (v := ?_) rfl (by kernel_rfl) (by kernel_rfl) (by kernel_rfl) (fun _ _ _ h => h) (Or.inl ⟨by rfl, ?_⟩) (by assumption) ?_
                rotate_left
                · intro w hSw; (try dsimp only at hSw); go_simp <;> (try with_reducible rfl)
                try simp only [Act.put, List.setIfInBounds_toArray, List.set_cons_zero, List.set_cons_succ]
                refine wpAnyH_take (i := 11) (oi := { dst := some 98, op := Op.pick (Operand.tmp 90) (Operand.const (Value.bool true)) (Operand.tmp 97), type := 4, pos := "law.go:76", after := #[{ on := 3, ground := Ground.data }, { on := 10, ground := Ground.data }], guard := none }) (v := ?_) rfl (by kernel_rfl) (by kernel_rfl) (by kernel_rfl) (fun _ _ _ h => h) (Or.inl ⟨by rfl, ?_⟩) (by assumption) ?_
                rotate_left
                · intro w hSw; (try dsimp only at hSw); go_simp <;> (try with_reducible rfl)
                try simp only [Act.put, List.setIfInBounds_toArray, List.set_cons_zero, List.set_cons_succ]
                refine wpAnyH_take (i := 12) (oi := { dst := some 99, op := Op.move (Operand.tmp 98), type := 4, pos := "law.go:76", after := #[{ on := 11, ground := Ground.data }, { on := 5, ground := Ground.chain }], guard := none }) (v := ?_) rfl (by kernel_rfl) (by kernel_rfl) (by kernel_rfl) (fun _ _ _ h => h) (Or.inl ⟨by rfl, ?_⟩) (by assumption) ?_
                rotate_left
                · intro w hSw; (try dsimp only at hSw); go_simp <;> (try with_reducible rfl)
                try simp only [Act.put, List.setIfInBounds_toArray, List.set_cons_zero, List.set_cons_succ]
                refine wpAnyH_take (i := 13) (oi := { dst := some 100, op := Op.move (Operand.tmp 5), type := 27, pos := "law.go:76", after := #[{ on := 12, ground := Ground.guard }], guard := some (12, false) }) (v := ?_) rfl (by kernel_rfl) (by kernel_rfl) (by kernel_rfl) (fun _ _ _ h => h) (Or.inl ⟨by rfl, ?_⟩) (by assumption) ?_
                rotate_left
                · intro w hSw; (try dsimp only at hSw); go_simp <;> (try with_reducible rfl)
                try simp only [Act.put, List.setIfInBounds_toArray, List.set_cons_zero, List.set_cons_succ]
                refine wpAnyH_take (i := 16) (oi := { dst := some 103, op := Op.move (Operand.tmp 6), type := 29, pos := "law.go:76", after := #[{ on := 12, ground := Ground.guard }], guard := some (12, false) }) (v := ?_) rfl (by kernel_rfl) (by kernel_rfl) (by kernel_rfl) (fun _ _ _ h => h) (Or.inl ⟨by rfl, ?_⟩) (by assumption) ?_
                rotate_left
                · intro w hSw; (try dsimp only at hSw); go_simp <;> (try with_reducible rfl)
                try simp only [Act.put, List.setIfInBounds_toArray, List.set_cons_zero, List.set_cons_succ]
                refine wpAnyH_take (i := 17) (oi := { dst := some 104, op := Op.nilCheck (Operand.tmp 103), type := 0, pos := "law.go:76", after := #[{ on := 16, ground := Ground.data }, { on := 12, ground := Ground.guard }], guard := some (12, false) }) (v := ?_) rfl (by kernel_rfl) (by kernel_rfl) (by kernel_rfl) (fun _ _ _ h => h) (Or.inl ⟨by rfl, ?_⟩) (by assumption) ?_
                rotate_left
                · intro w hSw; (try dsimp only at hSw); go_simp <;> (try with_reducible rfl)
                try simp only [Act.put, List.setIfInBounds_toArray, List.set_cons_zero, List.set_cons_succ]
                refine wpAnyH_take (i := 18) (oi := { dst := some 105, op := Op.fieldAddr 49 (Operand.tmp 104) 0, type := 0, pos := "law.go:76", after := #[{ on := 17, ground := Ground.data }, { on := 12, ground := Ground.guard }], guard := some (12, false) }) (v := ?_) rfl (by kernel_rfl) (by kernel_rfl) (by kernel_rfl) (fun _ _ _ h => h) (Or.inl ⟨by rfl, ?_⟩) (by assumption) ?_
                rotate_left
                · intro w hSw; (try dsimp only at hSw); go_simp <;> (try with_reducible rfl)
                try simp only [Act.put, List.setIfInBounds_toArray, List.set_cons_zero, List.set_cons_succ]
                refine wpAnyH_take (i := 19) (oi := { dst := some 106, op := Op.load 36 (Operand.tmp 105), type := 36, pos := "law.go:76", after := #[{ on := 18, ground := Ground.data }, { on := 12, ground := Ground.guard }], guard := some (12, false) }) (v := ?_) rfl (by kernel_rfl) (by kernel_rfl) (by kernel_rfl) (fun _ _ _ h => h) (Or.inl ⟨by rfl, ?_⟩) (by assumption) ?_
                rotate_left
                · intro w hSw; (try dsimp only at hSw); go_simp <;> (try with_reducible rfl)
                try simp only [Act.put, List.setIfInBounds_toArray, List.set_cons_zero, List.set_cons_succ]
                refine wpAnyH_take (i := 20) (oi := { dst := some 107, op := Op.convert 36 9 (Operand.tmp 106), type := 9, pos := "law.go:76", after := #[{ on := 19, ground := Ground.data }, { on := 12, ground := Ground.guard }], guard := some (12, false) }) (v := ?_) rfl (by kernel_rfl) (by kernel_rfl) (by kernel_rfl) (fun _ _ _ h => h) (Or.inl ⟨by rfl, ?_⟩) (by assumption) ?_
                rotate_left
                · intro w hSw; (try dsimp only at hSw); go_simp <;> (try with_reducible rfl)
                try simp only [Act.put, List.setIfInBounds_toArray, List.set_cons_zero, List.set_cons_succ]
                refine wpAnyH_ready (rs := [14]) (by kernel_rfl) (by simp) ?_
                refine AllReadyH.cons (o := { dst := some 101, op := Op.call { callee := Callee.value (Operand.func 15), args := #[Operand.tmp 100], argTypes := #[27] }, type := 36, pos := "law.go:76", after := #[{ on := 13, ground := Ground.data }, { on := 12, ground := Ground.chain }, { on := 12, ground := Ground.guard }], guard := some (12, false) }) rfl (fun K hK => ?_) ?_
                rotate_left
                · exact AllReadyH.nil
                go_simp
                refine (sinkBytes sb u1 CA1 cc1 st1 _ (by first | exact HB4.out.s.drewN 1 | exact HB4.out.s) hcon).mono ?_
                rintro e w5 ⟨BA, bc, rfl, y1, y2⟩
                have hcv5 := conv_law w5 BA _ bc _ y1
                have Y2 := Lib.hid y2.of_drew
                clear y1 y2
                go_wp2_with fail
                refine hK.out _ _ ?_ (fun hHeld => ?_)
                · exact ⟨cell_keep Y2.out e1, cell_keep Y2.out e2, conv_law w5 VA _ vc _ (own_chg HRow.out Y2.out (fun _ _ h => h))⟩
                clear hK K
                try simp only [Act.put, List.setIfInBounds_toArray, List.set_cons_zero, List.set_cons_succ]
                refine wpAnyH_ready (rs := [15]) (by kernel_rfl) (by simp) ?_
                refine AllReadyH.cons (o := { dst := some 102, op := Op.convert 36 9 (Operand.tmp 101), type := 9, pos := "law.go:76", after := #[{ on := 14, ground := Ground.data }, { on := 12, ground := Ground.guard }], guard := some (12, false) }) rfl (fun K hK => ?_) ?_
                rotate_left
                · exact AllReadyH.nil
                go_simp
                refine hK.out _ _ ?_ (fun hHeld => ?_)
                · exact ⟨cell_keep Y2.out e1, cell_keep Y2.out e2, conv_law w5 VA _ vc _ (own_chg HRow.out Y2.out (fun _ _ h => h))⟩
                clear hK K
                try simp only [Act.put, List.setIfInBounds_toArray, List.set_cons_zero, List.set_cons_succ]
                refine wpAnyH_take (i := 21) (oi := { dst := some 108, op := Op.binOp BinOp.neq 9 (Operand.tmp 102) (Operand.tmp 107) 9, type := 4, pos := "law.go:76", after := #[{ on := 15, ground := Ground.data }, { on := 20, ground := Ground.data }, { on := 12, ground := Ground.guard }], guard := some (12, false) }) (v := ?_) rfl (by kernel_rfl) (by kernel_rfl) (by kernel_rfl) (fun _ _ _ h => h) (Or.inl ⟨by rfl, ?_⟩) (by assumption) ?_
                rotate_left
                · intro w hSw; (try dsimp only at hSw); go_simp <;> (try with_reducible rfl)
                try simp only [Act.put, List.setIfInBounds_toArray, List.set_cons_zero, List.set_cons_succ]
                refine wpAnyH_take (i := 22) (oi := { dst := some 109, op := Op.pick (Operand.tmp 99) (Operand.const (Value.bool true)) (Operand.tmp 108), type := 4, pos := "law.go:76", after := #[{ on := 12, ground := Ground.data }, { on := 21, ground := Ground.data }], guard := none }) (v := ?_) rfl (by kernel_rfl) (by kernel_rfl) (by kernel_rfl) (fun _ _ _ h => h) (Or.inl ⟨by rfl, ?_⟩) (by assumption) ?_
                rotate_left
                · intro w hSw; (try dsimp only at hSw); go_simp <;> (try with_reducible rfl)
                try simp only [Act.put, List.setIfInBounds_toArray, List.set_cons_zero, List.set_cons_succ]
                refine wpAnyH_done (by kernel_rfl) ?_ _
                refine NoPanic.normal ?_
                go_wp2_with fail
                go_roundw
                case rel => exact ⟨⟨j + 1, u1, u2, st1, err1, by go_num, by omega, HB4.out.keep Y2.out, by omega⟩⟩
                case measure => simp [intOf]; omega
              · have hk1 : (a.kind == 1) = false := by simpa using hk
                clear hk
                have hzn : a.n < 0 ∨ a.n > 1024 := by omega
                have HX := Lib.hid (Blk.new wr #[.int .i64 a.kind, .slice a.A a.b.length a.c, .int .i64 a.n] 38)
                have HBx := Lib.hid (HBo.out.keep ((Chg.refl (fun _ => False) wr).alloc (.cells #[.int .i64 a.kind, .slice a.A a.b.length a.c, .int .i64 a.n] 38)))
                have HRd := Lib.hid (HA.out.rd.chg (HBx.out.chg) (fun _ _ h => h))
                have hgt := hgl
                go_wp2_with fail
                generalize wr.alloc (.cells #[.int .i64 a.kind, .slice a.A a.b.length a.c, .int .i64 a.n] 38) = wx at *
                generalize wr.heap.size = ab at *
                clear q0 q1 q2
                have z1 := HX.out.cell 2
                simp only [List.getElem?_toArray, List.getElem?_cons_zero, List.getElem?_cons_succ] at z1
                go_region_held3 (fun W => W.cell? ⟨ab, 2, none⟩ = some (.int .i64 a.n))
                  (first | go_keep | exact z1)
                  (first | (go_at_call 12; refine (wrZeros_no wb a.n _ hzn).mono ?_; rintro e w3 ⟨rfl, rfl⟩) | (go_at_call 13; refine (mrZeros_no mb a.n _ hzn).mono ?_; rintro e w3 ⟨rfl, rfl⟩))
                have HB4 := Lib.hid (HBx.out.keep ((Chg.refl (fun _ => False) wx).drew))
                generalize wx.drew = w4 at *
                obtain ⟨u1, u2, st1, err1, hB5, hl5⟩ : ∃ u1 u2 st1 err1, Both w sb tb wb mb CA1 CA2 cc1 cc2 u1 u2 st1 err1 w4 ∧ st1.content.length ≤ st.content.length + 5000 := ⟨_, _, _, _, HB4.out, (by omega)⟩
                clear HB4
                have HB4 := Lib.hid hB5; clear hB5
                obtain ⟨VA, vc, hv2, _, _⟩ := own_form HB4.out.t.row
                have e1 := HB4.out.m.cell 1
                have e2 := HB4.out.t.blk.cell 0
                simp only [List.getElem?_toArray, List.getElem?_cons_zero, List.getElem?_cons_succ, hv2] at e1 e2
                have hrow := HB4.out.t.row
                rw [hv2] at hrow
                have HRow := Lib.hid hrow
                have HCv := Lib.hid (conv_law w4.drew VA _ vc _ (by exact hrow))
                clear hrow hv2
                have hcon : st1.content.length ≤ 100000000 := by omega
                go_wp2_with fail
                refine wp_region_noPanic ?_
                refine wp_region_held_drew (S := (fun W => W.cell? ⟨mb, 1, none⟩ = some (.int .i64 (st1.content.length : Int)) ∧ W.cell? ⟨tb, 0, none⟩ = some (.slice VA st1.content.length vc) ∧ (convert 36 9 (.slice VA st1.content.length vc)).run Try.prog W = .ok (.string (strB st1.content)) W)) (by kernel_rfl) ⟨e1, e2, HCv.out⟩ (fun hHeld => ?_)
                refine wpAnyH_take (i := 0) (oi := { dst := some 87, op := Op.move (Operand.tmp 11), type := 39, pos := "law.go:76", after := #[], guard := none }) (v := ?_) rfl (by kernel_rfl) (by kernel_rfl) (by kernel_rfl) (fun _ _ _ h => h) (Or.inl ⟨by rfl, ?_⟩) (by assumption) ?_
                rotate_left
                · intro w hSw; (try dsimp only at hSw); go_simp <;> (try with_reducible rfl)
                try simp only [Act.put, List.setIfInBounds_toArray, List.set_cons_zero, List.set_cons_succ]
                refine wpAnyH_take (i := 1) (oi := { dst := some 88, op := Op.move (Operand.tmp 12), type := 3, pos := "law.go:76", after := #[], guard := none }) (v := ?_) rfl (by kernel_rfl) (by kernel_rfl) (by kernel_rfl) (fun _ _ _ h => h) (Or.inl ⟨by rfl, ?_⟩) (by assumption) ?_
                rotate_left
                · intro w hSw; (try dsimp only at hSw); go_simp <;> (try with_reducible rfl)
                try simp only [Act.put, List.setIfInBounds_toArray, List.set_cons_zero, List.set_cons_succ]
                refine wpAnyH_take (i := 2) (oi := { dst := some 89, op := Op.binOp BinOp.neq 3 (Operand.tmp 87) (Operand.tmp 88) 3, type := 4, pos := "law.go:76", after := #[{ on := 0, ground := Ground.data }, { on := 1, ground := Ground.data }], guard := none }) (v := ?_) rfl (by kernel_rfl) (by kernel_rfl) (by kernel_rfl) (fun _ _ _ h => h) (Or.inl ⟨by rfl, ?_⟩) (by assumption) ?_
                rotate_left
                · intro w hSw; (try dsimp only at hSw); go_simp <;> (try with_reducible rfl)
                try simp only [Act.put, List.setIfInBounds_toArray, List.set_cons_zero, List.set_cons_succ]
                refine wpAnyH_take (i := 3) (oi := { dst := some 90, op := Op.move (Operand.tmp 89), type := 4, pos := "law.go:76", after := #[{ on := 2, ground := Ground.data }], guard := none }) (v := ?_) rfl (by kernel_rfl) (by kernel_rfl) (by kernel_rfl) (fun _ _ _ h => h) (Or.inl ⟨by rfl, ?_⟩) (by assumption) ?_
                rotate_left
                · intro w hSw; (try dsimp only at hSw); go_simp <;> (try with_reducible rfl)
                try simp only [Act.put, List.setIfInBounds_toArray, List.set_cons_zero, List.set_cons_succ]
                refine wpAnyH_take (i := 4) (oi := { dst := some 91, op := Op.move (Operand.tmp 7), type := 31, pos := "law.go:76", after := #[{ on := 3, ground := Ground.guard }], guard := some (3, false) }) (v := ?_) rfl (by kernel_rfl) (by kernel_rfl) (by kernel_rfl) (fun _ _ _ h => h) (Or.inl ⟨by rfl, ?_⟩) (by assumption) ?_
                rotate_left
                · intro w hSw; (try dsimp only at hSw); go_simp <;> (try with_reducible rfl)
                try simp only [Act.put, List.setIfInBounds_toArray, List.set_cons_zero, List.set_cons_succ]
                refine wpAnyH_take (i := 6) (oi := { dst := some 93, op := Op.move (Operand.tmp 8), type := 33, pos := "law.go:76", after := #[{ on := 3, ground := Ground.guard }], guard := some (3, false) }) (v := ?_) rfl (by kernel_rfl) (by kernel_rfl) (by kernel_rfl) (fun _ _ _ h => h) (Or.inl ⟨by rfl, ?_⟩) (by assumption) ?_
                rotate_left
                · intro w hSw; (try dsimp only at hSw); go_simp <;> (try with_reducible rfl)
                try simp only [Act.put, List.setIfInBounds_toArray, List.set_cons_zero, List.set_cons_succ]
                refine wpAnyH_take (i := 7) (oi := { dst := some 94, op := Op.nilCheck (Operand.tmp 93), type := 0, pos := "law.go:76", after := #[{ on := 6, ground := Ground.data }, { on := 3, ground := Ground.guard }], guard := some (3, false) }) (v := ?_) rfl (by kernel_rfl) (by kernel_rfl) (by kernel_rfl) (fun _ _ _ h => h) (Or.inl ⟨by rfl, ?_⟩) (by assumption) ?_
                rotate_left
                · intro w hSw; (try dsimp only at hSw); go_simp <;> (try with_reducible rfl)
                try simp only [Act.put, List.setIfInBounds_toArray, List.set_cons_zero, List.set_cons_succ]
                refine wpAnyH_take (i := 8) (oi := { dst := some 95, op := Op.fieldAddr 35 (Operand.tmp 94) 1, type := 0, pos := "law.go:76", after := #[{ on := 7, ground := Ground.data }, { on := 3, ground := Ground.guard }], guard := some (3, false) }) (v := ?_) rfl (by kernel_rfl) (by kernel_rfl) (by kernel_rfl) (fun _ _ _ h => h) (Or.inl ⟨by rfl, ?_⟩) (by assumption) ?_
                rotate_left
                · intro w hSw; (try dsimp only at hSw); go_simp <;> (try with_reducible rfl)
                try simp only [Act.put, List.setIfInBounds_toArray, List.set_cons_zero, List.set_cons_succ]
                refine wpAnyH_take (i := 9) (oi := { dst := some 96, op := Op.load 2 (Operand.tmp 95), type := 2, pos := "law.go:76", after := #[{ on := 8, ground := Ground.data }, { on := 3, ground := Ground.guard }], guard := some (3, false) }) (v := ?_) rfl (by kernel_rfl) (by kernel_rfl) (by kernel_rfl) (fun _ _ _ h => h) (Or.inl ⟨by rfl, ?_⟩) (by assumption) ?_
                rotate_left
                · intro w hSw; (try dsimp only at hSw); go_simp <;> (try with_reducible rfl)
                try simp only [Act.put, List.setIfInBounds_toArray, List.set_cons_zero, List.set_cons_succ]
                refine wpAnyH_ready (rs := [5]) (by kernel_rfl) (by simp) ?_
                refine AllReadyH.cons (o := { dst := some 92, op := Op.call { callee := Callee.value (Operand.func 14), args := #[Operand.tmp 91], argTypes := #[31] }, type := 2, pos := "law.go:76", after := #[{ on := 4, ground := Ground.data }, { on := 3, ground := Ground.chain }, { on := 3, ground := Ground.guard }], guard := some (3, false) }) rfl (fun K hK => ?_) ?_
                rotate_left
                · exact AllReadyH.nil
                go_simp
                refine (wrOffset wb st1.content.length _ _ _ (by first | exact HB4.out.w | exact Blk.drew HB4.out.w)).mono ?_
                rintro e w6 ⟨rfl, rfl⟩
                go_wp2_with fail
                refine hK.out _ _ ?_ (fun hHeld => ?_)
                · exact ⟨e1, e2, HCv.out⟩
                clear hK K
                try simp only [Act.put, List.setIfInBounds_toArray, List.set_cons_zero, List.set_cons_succ]
                refine wpAnyH_take (i := 10) (oi := { dst := some 97, op := Op.binOp BinOp.neq 2 (Operand.tmp 92) (Operand.tmp 96) 2, type := 4, pos := "law.go:76", after := #[{ on := 5, ground := Ground.data }, { on := 9, ground := Ground.data }, { on := 3, ground := Ground.guard }], guard := some (3, false) }) (v := ?_) rfl (by kernel_rfl) (by kernel_rfl) (by kernel_rfl) (fun _ _ _ h => h) (Or.inl ⟨by rfl, ?_⟩) (by assumption) ?_
                rotate_left
                · intro w hSw; (try dsimp only at hSw); go_simp <;> (try with_reducible rfl)
                try simp only [Act.put, List.setIfInBounds_toArray, List.set_cons_zero, List.set_cons_succ]
                refine wpAnyH_take (i := 11) (oi := { dst := some 98, op := Op.pick (Operand.tmp 90) (Operand.const (Value.bool true)) (Operand.tmp 97), type := 4, pos := "law.go:76", after := #[{ on := 3, ground := Ground.data }, { on := 10, ground := Ground.data }], guard := none }) (v := ?_) rfl (by kernel_rfl) (by kernel_rfl) (by kernel_rfl) (fun _ _ _ h => h) (Or.inl ⟨by rfl, ?_⟩) (by assumption) ?_
                rotate_left
                · intro w hSw; (try dsimp only at hSw); go_simp <;> (try with_reducible rfl)
                try simp only [Act.put, List.setIfInBounds_toArray, List.set_cons_zero, List.set_cons_succ]
                refine wpAnyH_take (i := 12) (oi := { dst := some 99, op := Op.move (Operand.tmp 98), type := 4, pos := "law.go:76", after := #[{ on := 11, ground := Ground.data }, { on := 5, ground := Ground.chain }], guard := none }) (v := ?_) rfl (by kernel_rfl) (by kernel_rfl) (by kernel_rfl) (fun _ _ _ h => h) (Or.inl ⟨by rfl, ?_⟩) (by assumption) ?_
                rotate_left
                · intro w hSw; (try dsimp only at hSw); go_simp <;> (try with_reducible rfl)
                try simp only [Act.put, List.setIfInBounds_toArray, List.set_cons_zero, List.set_cons_succ]
                refine wpAnyH_take (i := 13) (oi := { dst := some 100, op := Op.move (Operand.tmp 5), type := 27, pos := "law.go:76", after := #[{ on := 12, ground := Ground.guard }], guard := some (12, false) }) (v := ?_) rfl (by kernel_rfl) (by kernel_rfl) (by kernel_rfl) (fun _ _ _ h => h) (Or.inl ⟨by rfl, ?_⟩) (by assumption) ?_
                rotate_left
                · intro w hSw; (try dsimp only at hSw); go_simp <;> (try with_reducible rfl)
                try simp only [Act.put, List.setIfInBounds_toArray, List.set_cons_zero, List.set_cons_succ]
                refine wpAnyH_take (i := 16) (oi := { dst := some 103, op := Op.move (Operand.tmp 6), type := 29, pos := "law.go:76", after := #[{ on := 12, ground := Ground.guard }], guard := some (12, false) }) (v := ?_) rfl (by kernel_rfl) (by kernel_rfl) (by kernel_rfl) (fun _ _ _ h => h) (Or.inl ⟨by rfl, ?_⟩) (by assumption) ?_
                rotate_left
                · intro w hSw; (try dsimp only at hSw); go_simp <;> (try with_reducible rfl)
                try simp only [Act.put, List.setIfInBounds_toArray, List.set_cons_zero, List.set_cons_succ]
                refine wpAnyH_take (i := 17) (oi := { dst := some 104, op := Op.nilCheck (Operand.tmp 103), type := 0, pos := "law.go:76", after := #[{ on := 16, ground := Ground.data }, { on := 12, ground := Ground.guard }], guard := some (12, false) }) (v := ?_) rfl (by kernel_rfl) (by kernel_rfl) (by kernel_rfl) (fun _ _ _ h => h) (Or.inl ⟨by rfl, ?_⟩) (by assumption) ?_
                rotate_left
                · intro w hSw; (try dsimp only at hSw); go_simp <;> (try with_reducible rfl)
                try simp only [Act.put, List.setIfInBounds_toArray, List.set_cons_zero, List.set_cons_succ]
                refine wpAnyH_take (i := 18) (oi := { dst := some 105, op := Op.fieldAddr 49 (Operand.tmp 104) 0, type := 0, pos := "law.go:76", after := #[{ on := 17, ground := Ground.data }, { on := 12, ground := Ground.guard }], guard := some (12, false) }) (v := ?_) rfl (by kernel_rfl) (by kernel_rfl) (by kernel_rfl) (fun _ _ _ h => h) (Or.inl ⟨by rfl, ?_⟩) (by assumption) ?_
                rotate_left
                · intro w hSw; (try dsimp only at hSw); go_simp <;> (try with_reducible rfl)
                try simp only [Act.put, List.setIfInBounds_toArray, List.set_cons_zero, List.set_cons_succ]
                refine wpAnyH_take (i := 19) (oi := { dst := some 106, op := Op.load 36 (Operand.tmp 105), type := 36, pos := "law.go:76", after := #[{ on := 18, ground := Ground.data }, { on := 12, ground := Ground.guard }], guard := some (12, false) }) (v := ?_) rfl (by kernel_rfl) (by kernel_rfl) (by kernel_rfl) (fun _ _ _ h => h) (Or.inl ⟨by rfl, ?_⟩) (by assumption) ?_
                rotate_left
                · intro w hSw; (try dsimp only at hSw); go_simp <;> (try with_reducible rfl)
                try simp only [Act.put, List.setIfInBounds_toArray, List.set_cons_zero, List.set_cons_succ]
                refine wpAnyH_take (i := 20) (oi := { dst := some 107, op := Op.convert 36 9 (Operand.tmp 106), type := 9, pos := "law.go:76", after := #[{ on := 19, ground := Ground.data }, { on := 12, ground := Ground.guard }], guard := some (12, false) }) (v := ?_) rfl (by kernel_rfl) (by kernel_rfl) (by kernel_rfl) (fun _ _ _ h => h) (Or.inl ⟨by rfl, ?_⟩) (by assumption) ?_
                rotate_left
                · intro w hSw; (try dsimp only at hSw); go_simp <;> (try with_reducible rfl)
                try simp only [Act.put, List.setIfInBounds_toArray, List.set_cons_zero, List.set_cons_succ]
                refine wpAnyH_ready (rs := [14]) (by kernel_rfl) (by simp) ?_
                refine AllReadyH.cons (o := { dst := some 101, op := Op.call { callee := Callee.value (Operand.func 15), args := #[Operand.tmp 100], argTypes := #[27] }, type := 36, pos := "law.go:76", after := #[{ on := 13, ground := Ground.data }, { on := 12, ground := Ground.chain }, { on := 12, ground := Ground.guard }], guard := some (12, false) }) rfl (fun K hK => ?_) ?_
                rotate_left
                · exact AllReadyH.nil
                go_simp
                refine (sinkBytes sb u1 CA1 cc1 st1 _ (by first | exact HB4.out.s.drewN 1 | exact HB4.out.s) hcon).mono ?_
                rintro e w5 ⟨BA, bc, rfl, y1, y2⟩
                have hcv5 := conv_law w5 BA _ bc _ y1
                have Y2 := Lib.hid y2.of_drew
                clear y1 y2
                go_wp2_with fail
                refine hK.out _ _ ?_ (fun hHeld => ?_)
                · exact ⟨cell_keep Y2.out e1, cell_keep Y2.out e2, conv_law w5 VA _ vc _ (own_chg HRow.out Y2.out (fun _ _ h => h))⟩
                clear hK K
                try simp only [Act.put, List.setIfInBounds_toArray, List.set_cons_zero, List.set_cons_succ]
                refine wpAnyH_ready (rs := [15]) (by kernel_rfl) (by simp) ?_
                refine AllReadyH.cons (o := { dst := some 102, op := Op.convert 36 9 (Operand.tmp 101), type := 9, pos := "law.go:76", after := #[{ on := 14, ground := Ground.data }, { on := 12, ground := Ground.guard }], guard := some (12, false) }) rfl (fun K hK => ?_) ?_
                rotate_left
                · exact AllReadyH.nil
                go_simp
                refine hK.out _ _ ?_ (fun hHeld => ?_)
                · exact ⟨cell_keep Y2.out e1, cell_keep Y2.out e2, conv_law w5 VA _ vc _ (own_chg HRow.out Y2.out (fun _ _ h => h))⟩
                clear hK K
                try simp only [Act.put, List.setIfInBounds_toArray, List.set_cons_zero, List.set_cons_succ]
                refine wpAnyH_take (i := 21) (oi := { dst := some 108, op := Op.binOp BinOp.neq 9 (Operand.tmp 102) (Operand.tmp 107) 9, type := 4, pos := "law.go:76", after := #[{ on := 15, ground := Ground.data }, { on := 20, ground := Ground.data }, { on := 12, ground := Ground.guard }], guard := some (12, false) }) (v := ?_) rfl (by kernel_rfl) (by kernel_rfl) (by kernel_rfl) (fun _ _ _ h => h) (Or.inl ⟨by rfl, ?_⟩) (by assumption) ?_
                rotate_left
                · intro w hSw; (try dsimp only at hSw); go_simp <;> (try with_reducible rfl)
                try simp only [Act.put, List.setIfInBounds_toArray, List.set_cons_zero, List.set_cons_succ]
                refine wpAnyH_take (i := 22) (oi := { dst := some 109, op := Op.pick (Operand.tmp 99) (Operand.const (Value.bool true)) (Operand.tmp 108), type := 4, pos := "law.go:76", after := #[{ on := 12, ground := Ground.data }, { on := 21, ground := Ground.data }], guard := none }) (v := ?_) rfl (by kernel_rfl) (by kernel_rfl) (by kernel_rfl) (fun _ _ _ h => h) (Or.inl ⟨by rfl, ?_⟩) (by assumption) ?_
                rotate_left
                · intro w hSw; (try dsimp only at hSw); go_simp <;> (try with_reducible rfl)
                try simp only [Act.put, List.setIfInBounds_toArray, List.set_cons_zero, List.set_cons_succ]
                refine wpAnyH_done (by kernel_rfl) ?_ _
                refine NoPanic.normal ?_
                go_wp2_with fail
                go_roundw
                case rel => exact ⟨⟨j + 1, u1, u2, st1, err1, by go_num, by omega, HB4.out.keep Y2.out, by omega⟩⟩
                case measure => simp [intOf]; omega
        · have hn9 : decide (9 < a.n) = false := by simpa using h9
          by_cases hk : a.kind = 0
          · have hk0 : (a.kind == 0) = true := by simpa using hk
            clear hk
            have HX := Lib.hid (Blk.new wr #[.int .i64 a.kind, .slice a.A a.b.length a.c, .int .i64 a.n] 38)
            have HBx := Lib.hid (HBo.out.keep ((Chg.refl (fun _ => False) wr).alloc (.cells #[.int .i64 a.kind, .slice a.A a.b.length a.c, .int .i64 a.n] 38)))
            have HRd := Lib.hid (HA.out.rd.chg (HBx.out.chg) (fun _ _ h => h))
            have hgt := hgl
            go_wp2_with fail
            generalize wr.alloc (.cells #[.int .i64 a.kind, .slice a.A a.b.length a.c, .int .i64 a.n] 38) = wx at *
            generalize wr.heap.size = ab at *
            clear q0 q1 q2
            have hcall := (HBx.out.keep ((Chg.refl (fun _ => False) wx).drew)).callW (A := a.A) (c := a.c) (l := a.b) HRd.out (by omega) HA.out.cap HAl2.out
            have HC := Lib.hid hcall; clear hcall
            have z1 := HX.out.cell 1
            simp only [List.getElem?_toArray, List.getElem?_cons_zero, List.getElem?_cons_succ] at z1
            go_region_held3 (fun W => W.cell? ⟨ab, 1, none⟩ = some (.slice a.A a.b.length a.c))
              (first | go_keep | exact (z4 : _) | exact (z3 : _))
              (first | (go_at_call 8; refine HC.out.mono ?_; rintro e w3 ⟨rfl, v1, g1⟩; have z3 := (HBx.out.abMid HX.out g1.chg.of_drew).cell 1; have HG1 := Lib.hid g1; simp only [List.getElem?_toArray, List.getElem?_cons_zero, List.getElem?_cons_succ] at z3) | (go_at_call 9; refine (HG1.out.callM (HBx.out.keep ((Chg.refl (fun _ => False) wx).drew)) HRd.out (by omega) HA.out.cap HAl2.out).mono ?_; rintro e w4 ⟨rfl, v2, g2, g3⟩; have HB4 := Lib.hid g2; have z4 := (HG1.out.abFin (HBx.out.abMid HX.out HG1.out.chg.of_drew) g3).cell 1; simp only [List.getElem?_toArray, List.getElem?_cons_zero, List.getElem?_cons_succ] at z4; clear g2 g3))
            obtain ⟨u1, u2, st1, err1, hB5, hl5⟩ : ∃ u1 u2 st1 err1, Both w sb tb wb mb CA1 CA2 cc1 cc2 u1 u2 st1 err1 w4 ∧ st1.content.length ≤ st.content.length + 5000 := ⟨_, _, _, _, HB4.out, wlen_lst _ _ _ _ (by omega)⟩
            clear HB4
            have HB4 := Lib.hid hB5; clear hB5
            obtain ⟨VA, vc, hv2, _, _⟩ := own_form HB4.out.t.row
            have e1 := HB4.out.m.cell 1
            have e2 := HB4.out.t.blk.cell 0
            simp only [List.getElem?_toArray, List.getElem?_cons_zero, List.getElem?_cons_succ, hv2] at e1 e2
            have hrow := HB4.out.t.row
            rw [hv2] at hrow
            have HRow := Lib.hid hrow
            have HCv := Lib.hid (conv_law w4.drew VA _ vc _ (by exact hrow))
            clear hrow hv2
            have hcon : st1.content.length ≤ 100000000 := by omega
            go_wp2_with fail
            refine wp_region_noPanic ?_
            refine wp_region_held_drew (S := (fun W => W.cell? ⟨mb, 1, none⟩ = some (.int .i64 (st1.content.length : Int)) ∧ W.cell? ⟨tb, 0, none⟩ = some (.slice VA st1.content.length vc) ∧ (convert 36 9 (.slice VA st1.content.length vc)).run Try.prog W = .ok (.string (strB st1.content)) W)) (by kernel_rfl) ⟨e1, e2, HCv.out⟩ (fun hHeld => ?_)
            refine wpAnyH_take (i := 0) (oi := { dst := some 87, op := Op.move (Operand.tmp 11), type := 39, pos := "law.go:76", after := #[], guard := none }) (v := ?_) rfl (by kernel_rfl) (by kernel_rfl) (by kernel_rfl) (fun _ _ _ h => h) (Or.inl ⟨by rfl, ?_⟩) (by assumption) ?_
            rotate_left
            · intro w hSw; (try dsimp only at hSw); go_simp <;> (try with_reducible rfl)
            try simp only [Act.put, List.setIfInBounds_toArray, List.set_cons_zero, List.set_cons_succ]
            refine wpAnyH_take (i := 1) (oi := { dst := some 88, op := Op.move (Operand.tmp 12), type := 3, pos := "law.go:76", after := #[], guard := none }) (v := ?_) rfl (by kernel_rfl) (by kernel_rfl) (by kernel_rfl) (fun _ _ _ h => h) (Or.inl ⟨by rfl, ?_⟩) (by assumption) ?_
            rotate_left
            · intro w hSw; (try dsimp only at hSw); go_simp <;> (try with_reducible rfl)
            try simp only [Act.put, List.setIfInBounds_toArray, List.set_cons_zero, List.set_cons_succ]
            refine wpAnyH_take (i := 2) (oi := { dst := some 89, op := Op.binOp BinOp.neq 3 (Operand.tmp 87) (Operand.tmp 88) 3, type := 4, pos := "law.go:76", after := #[{ on := 0, ground := Ground.data }, { on := 1, ground := Ground.data }], guard := none }) (v := ?_) rfl (by kernel_rfl) (by kernel_rfl) (by kernel_rfl) (fun _ _ _ h => h) (Or.inl ⟨by rfl, ?_⟩) (by assumption) ?_
            rotate_left
            · intro w hSw; (try dsimp only at hSw); go_simp <;> (try with_reducible rfl)
            try simp only [Act.put, List.setIfInBounds_toArray, List.set_cons_zero, List.set_cons_succ]
            refine wpAnyH_take (i := 3) (oi := { dst := some 90, op := Op.move (Operand.tmp 89), type := 4, pos := "law.go:76", after := #[{ on := 2, ground := Ground.data }], guard := none }) (v := ?_) rfl (by kernel_rfl) (by kernel_rfl) (by kernel_rfl) (fun _ _ _ h => h) (Or.inl ⟨by rfl, ?_⟩) (by assumption) ?_
            rotate_left
            · intro w hSw; (try dsimp only at hSw); go_simp <;> (try with_reducible rfl)
            try simp only [Act.put, List.setIfInBounds_toArray, List.set_cons_zero, List.set_cons_succ]
            refine wpAnyH_take (i := 4) (oi := { dst := some 91, op := Op.move (Operand.tmp 7), type := 31, pos := "law.go:76", after := #[{ on := 3, ground := Ground.guard }], guard := some (3, false) }) (v := ?_) rfl (by kernel_rfl) (by kernel_rfl) (by kernel_rfl) (fun _ _ _ h => h) (Or.inl ⟨by rfl, ?_⟩) (by assumption) ?_
            rotate_left
            · intro w hSw; (try dsimp only at hSw); go_simp <;> (try with_reducible rfl)
            try simp only [Act.put, List.setIfInBounds_toArray, List.set_cons_zero, List.set_cons_succ]
            refine wpAnyH_take (i := 6) (oi := { dst := some 93, op := Op.move (Operand.tmp 8), type := 33, pos := "law.go:76", after := #[{ on := 3, ground := Ground.guard }], guard := some (3, false) }) (v := ?_) rfl (by kernel_rfl) (by kernel_rfl) (by kernel_rfl) (fun _ _ _ h => h) (Or.inl ⟨by rfl, ?_⟩) (by assumption) ?_
            rotate_left
            · intro w hSw; (try dsimp only at hSw); go_simp <;> (try with_reducible rfl)
            try simp only [Act.put, List.setIfInBounds_toArray, List.set_cons_zero, List.set_cons_succ]
            refine wpAnyH_take (i := 7) (oi := { dst := some 94, op := Op.nilCheck (Operand.tmp 93), type := 0, pos := "law.go:76", after := #[{ on := 6, ground := Ground.data }, { on := 3, ground := Ground.guard }], guard := some (3, false) }) (v := ?_) rfl (by kernel_rfl) (by kernel_rfl) (by kernel_rfl) (fun _ _ _ h => h) (Or.inl ⟨by rfl, ?_⟩) (by assumption) ?_
            rotate_left
            · intro w hSw; (try dsimp only at hSw); go_simp <;> (try with_reducible rfl)
            try simp only [Act.put, List.setIfInBounds_toArray, List.set_cons_zero, List.set_cons_succ]
            refine wpAnyH_take (i := 8) (oi := { dst := some 95, op := Op.fieldAddr 35 (Operand.tmp 94) 1, type := 0, pos := "law.go:76", after := #[{ on := 7, ground := Ground.data }, { on := 3, ground := Ground.guard }], guard := some (3, false) }) (v := ?_) rfl (by kernel_rfl) (by kernel_rfl) (by kernel_rfl) (fun _ _ _ h => h) (Or.inl ⟨by rfl, ?_⟩) (by assumption) ?_
            rotate_left
            · intro w hSw; (try dsimp only at hSw); go_simp <;> (try with_reducible rfl)
            try simp only [Act.put, List.setIfInBounds_toArray, List.set_cons_zero, List.set_cons_succ]
            refine wpAnyH_take (i := 9) (oi := { dst := some 96, op := Op.load 2 (Operand.tmp 95), type := 2, pos := "law.go:76", after := #[{ on := 8, ground := Ground.data }, { on := 3, ground := Ground.guard }], guard := some (3, false) }) (v := ?_) rfl (by kernel_rfl) (by kernel_rfl) (by kernel_rfl) (fun _ _ _ h => h) (Or.inl ⟨by rfl, ?_⟩) (by assumption) ?_
            rotate_left
            · intro w hSw; (try dsimp only at hSw); go_simp <;> (try with_reducible rfl)
            try simp only [Act.put, List.setIfInBounds_toArray, List.set_cons_zero, List.set_cons_succ]
            refine wpAnyH_ready (rs := [5]) (by kernel_rfl) (by simp) ?_
            refine AllReadyH.cons (o := { dst := some 92, op := Op.call { callee := Callee.value (Operand.func 14), args := #[Operand.tmp 91], argTypes := #[31] }, type := 2, pos := "law.go:76", after := #[{ on := 4, ground := Ground.data }, { on := 3, ground := Ground.chain }, { on := 3, ground := Ground.guard }], guard := some (3, false) }) rfl (fun K hK => ?_) ?_
            rotate_left
            · exact AllReadyH.nil
            go_simp
            refine (wrOffset wb st1.content.length _ _ _ (by first | exact HB4.out.w | exact Blk.drew HB4.out.w)).mono ?_
            rintro e w6 ⟨rfl, rfl⟩
            go_wp2_with fail
            refine hK.out _ _ ?_ (fun hHeld => ?_)
            · exact ⟨e1, e2, HCv.out⟩
            clear hK K
            try simp only [Act.put, List.setIfInBounds_toArray, List.set_cons_zero, List.set_cons_succ]
            refine wpAnyH_take (i := 10) (oi := { dst := some 97, op := Op.binOp BinOp.neq 2 (Operand.tmp 92) (Operand.tmp 96) 2, type := 4, pos := "law.go:76", after := #[{ on := 5, ground := Ground.data }, { on := 9, ground := Ground.data }, { on := 3, ground := Ground.guard }], guard := some (3, false) }) (v := ?_) rfl (by kernel_rfl) (by kernel_rfl) (by kernel_rfl) (fun _ _ _ h => h) (Or.inl ⟨by rfl, ?_⟩) (by assumption) ?_
            rotate_left
            · intro w hSw; (try dsimp only at hSw); go_simp <;> (try with_reducible rfl)
            try simp only [Act.put, List.setIfInBounds_toArray, List.set_cons_zero, List.set_cons_succ]
            refine wpAnyH_take (i := 11) (oi := { dst := some 98, op := Op.pick (Operand.tmp 90) (Operand.const (Value.bool true)) (Operand.tmp 97), type := 4, pos := "law.go:76", after := #[{ on := 3, ground := Ground.data }, { on := 10, ground := Ground.data }], guard := none }) (v := ?_) rfl (by kernel_rfl) (by kernel_rfl) (by kernel_rfl) (fun _ _ _ h => h) (Or.inl ⟨by rfl, ?_⟩) (by assumption) ?_
            rotate_left
            · intro w hSw; (try dsimp only at hSw); go_simp <;> (try with_reducible rfl)
            try simp only [Act.put, List.setIfInBounds_toArray, List.set_cons_zero, List.set_cons_succ]
            refine wpAnyH_take (i := 12) (oi := { dst := some 99, op := Op.move (Operand.tmp 98), type := 4, pos := "law.go:76", after := #[{ on := 11, ground := Ground.data }, { on := 5, ground := Ground.chain }], guard := none }) (v := ?_) rfl (by kernel_rfl) (by kernel_rfl) (by kernel_rfl) (fun _ _ _ h => h) (Or.inl ⟨by rfl, ?_⟩) (by assumption) ?_
            rotate_left
            · intro w hSw; (try dsimp only at hSw); go_simp <;> (try with_reducible rfl)
            try simp only [Act.put, List.setIfInBounds_toArray, List.set_cons_zero, List.set_cons_succ]
            refine wpAnyH_take (i := 13) (oi := { dst := some 100, op := Op.move (Operand.tmp 5), type := 27, pos := "law.go:76", after := #[{ on := 12, ground := Ground.guard }], guard := some (12, false) }) (v := ?_) rfl (by kernel_rfl) (by kernel_rfl) (by kernel_rfl) (fun _ _ _ h => h) (Or.inl ⟨by rfl, ?_⟩) (by assumption) ?_
            rotate_left
            · intro w hSw; (try dsimp only at hSw); go_simp <;> (try with_reducible rfl)
            try simp only [Act.put, List.setIfInBounds_toArray, List.set_cons_zero, List.set_cons_succ]
            refine wpAnyH_take (i := 16) (oi := { dst := some 103, op := Op.move (Operand.tmp 6), type := 29, pos := "law.go:76", after := #[{ on := 12, ground := Ground.guard }], guard := some (12, false) }) (v := ?_) rfl (by kernel_rfl) (by kernel_rfl) (by kernel_rfl) (fun _ _ _ h => h) (Or.inl ⟨by rfl, ?_⟩) (by assumption) ?_
            rotate_left
            · intro w hSw; (try dsimp only at hSw); go_simp <;> (try with_reducible rfl)
            try simp only [Act.put, List.setIfInBounds_toArray, List.set_cons_zero, List.set_cons_succ]
            refine wpAnyH_take (i := 17) (oi := { dst := some 104, op := Op.nilCheck (Operand.tmp 103), type := 0, pos := "law.go:76", after := #[{ on := 16, ground := Ground.data }, { on := 12, ground := Ground.guard }], guard := some (12, false) }) (v := ?_) rfl (by kernel_rfl) (by kernel_rfl) (by kernel_rfl) (fun _ _ _ h => h) (Or.inl ⟨by rfl, ?_⟩) (by assumption) ?_
            rotate_left
            · intro w hSw; (try dsimp only at hSw); go_simp <;> (try with_reducible rfl)
            try simp only [Act.put, List.setIfInBounds_toArray, List.set_cons_zero, List.set_cons_succ]
            refine wpAnyH_take (i := 18) (oi := { dst := some 105, op := Op.fieldAddr 49 (Operand.tmp 104) 0, type := 0, pos := "law.go:76", after := #[{ on := 17, ground := Ground.data }, { on := 12, ground := Ground.guard }], guard := some (12, false) }) (v := ?_) rfl (by kernel_rfl) (by kernel_rfl) (by kernel_rfl) (fun _ _ _ h => h) (Or.inl ⟨by rfl, ?_⟩) (by assumption) ?_
            rotate_left
            · intro w hSw; (try dsimp only at hSw); go_simp <;> (try with_reducible rfl)
            try simp only [Act.put, List.setIfInBounds_toArray, List.set_cons_zero, List.set_cons_succ]
            refine wpAnyH_take (i := 19) (oi := { dst := some 106, op := Op.load 36 (Operand.tmp 105), type := 36, pos := "law.go:76", after := #[{ on := 18, ground := Ground.data }, { on := 12, ground := Ground.guard }], guard := some (12, false) }) (v := ?_) rfl (by kernel_rfl) (by kernel_rfl) (by kernel_rfl) (fun _ _ _ h => h) (Or.inl ⟨by rfl, ?_⟩) (by assumption) ?_
            rotate_left
            · intro w hSw; (try dsimp only at hSw); go_simp <;> (try with_reducible rfl)
            try simp only [Act.put, List.setIfInBounds_toArray, List.set_cons_zero, List.set_cons_succ]
            refine wpAnyH_take (i := 20) (oi := { dst := some 107, op := Op.convert 36 9 (Operand.tmp 106), type := 9, pos := "law.go:76", after := #[{ on := 19, ground := Ground.data }, { on := 12, ground := Ground.guard }], guard := some (12, false) }) (v := ?_) rfl (by kernel_rfl) (by kernel_rfl) (by kernel_rfl) (fun _ _ _ h => h) (Or.inl ⟨by rfl, ?_⟩) (by assumption) ?_
            rotate_left
            · intro w hSw; (try dsimp only at hSw); go_simp <;> (try with_reducible rfl)
            try simp only [Act.put, List.setIfInBounds_toArray, List.set_cons_zero, List.set_cons_succ]
            refine wpAnyH_ready (rs := [14]) (by kernel_rfl) (by simp) ?_
            refine AllReadyH.cons (o := { dst := some 101, op := Op.call { callee := Callee.value (Operand.func 15), args := #[Operand.tmp 100], argTypes := #[27] }, type := 36, pos := "law.go:76", after := #[{ on := 13, ground := Ground.data }, { on := 12, ground := Ground.chain }, { on := 12, ground := Ground.guard }], guard := some (12, false) }) rfl (fun K hK => ?_) ?_
            rotate_left
            · exact AllReadyH.nil
            go_simp
            refine (sinkBytes sb u1 CA1 cc1 st1 _ (by first | exact HB4.out.s.drewN 1 | exact HB4.out.s) hcon).mono ?_
            rintro e w5 ⟨BA, bc, rfl, y1, y2⟩
            have hcv5 := conv_law w5 BA _ bc _ y1
            have Y2 := Lib.hid y2.of_drew
            clear y1 y2
            go_wp2_with fail
            refine hK.out _ _ ?_ (fun hHeld => ?_)
            · exact ⟨cell_keep Y2.out e1, cell_keep Y2.out e2, conv_law w5 VA _ vc _ (own_chg HRow.out Y2.out (fun _ _ h => h))⟩
            clear hK K
            try simp only [Act.put, List.setIfInBounds_toArray, List.set_cons_zero, List.set_cons_succ]
            refine wpAnyH_ready (rs := [15]) (by kernel_rfl) (by simp) ?_
            refine AllReadyH.cons (o := { dst := some 102, op := Op.convert 36 9 (Operand.tmp 101), type := 9, pos := "law.go:76", after := #[{ on := 14, ground := Ground.data }, { on := 12, ground := Ground.guard }], guard := some (12, false) }) rfl (fun K hK => ?_) ?_
            rotate_left
            · exact AllReadyH.nil
            go_simp
            refine hK.out _ _ ?_ (fun hHeld => ?_)
            · exact ⟨cell_keep Y2.out e1, cell_keep Y2.out e2, conv_law w5 VA _ vc _ (own_chg HRow.out Y2.out (fun _ _ h => h))⟩
            clear hK K
            try simp only [Act.put, List.setIfInBounds_toArray, List.set_cons_zero, List.set_cons_succ]
            refine wpAnyH_take (i := 21) (oi := { dst := some 108, op := Op.binOp BinOp.neq 9 (Operand.tmp 102) (Operand.tmp 107) 9, type := 4, pos := "law.go:76", after := #[{ on := 15, ground := Ground.data }, { on := 20, ground := Ground.data }, { on := 12, ground := Ground.guard }], guard := some (12, false) }) (v := ?_) rfl (by kernel_rfl) (by kernel_rfl) (by kernel_rfl) (fun _ _ _ h => h) (Or.inl ⟨by rfl, ?_⟩) (by assumption) ?_
            rotate_left
            · intro w hSw; (try dsimp only at hSw); go_simp <;> (try with_reducible rfl)
            try simp only [Act.put, List.setIfInBounds_toArray, List.set_cons_zero, List.set_cons_succ]
            refine wpAnyH_take (i := 22) (oi := { dst := some 109, op := Op.pick (Operand.tmp 99) (Operand.const (Value.bool true)) (Operand.tmp 108), type := 4, pos := "law.go:76", after := #[{ on := 12, ground := Ground.data }, { on := 21, ground := Ground.data }], guard := none }) (v := ?_) rfl (by kernel_rfl) (by kernel_rfl) (by kernel_rfl) (fun _ _ _ h => h) (Or.inl ⟨by rfl, ?_⟩) (by assumption) ?_
            rotate_left
            · intro w hSw; (try dsimp only at hSw); go_simp <;> (try with_reducible rfl)
            try simp only [Act.put, List.setIfInBounds_toArray, List.set_cons_zero, List.set_cons_succ]
            refine wpAnyH_done (by kernel_rfl) ?_ _
            refine NoPanic.normal ?_
            go_wp2_with fail
            go_roundw
            case rel => exact ⟨⟨j + 1, u1, u2, st1, err1, by go_num, by omega, HB4.out.keep Y2.out, by omega⟩⟩
            case measure => simp [intOf]; omega
          · have hk0 : (a.kind == 0) = false := by simpa using hk
            clear hk
            by_cases hk : a.kind = 1
            · have hk1 : (a.kind == 1) = true := by simpa using hk
              clear hk
              have HX := Lib.hid (Blk.new wr #[.int .i64 a.kind, .slice a.A a.b.length a.c, .int .i64 a.n] 38)
              have HBx := Lib.hid (HBo.out.keep ((Chg.refl (fun _ => False) wr).alloc (.cells #[.int .i64 a.kind, .slice a.A a.b.length a.c, .int .i64 a.n] 38)))
              have HRd := Lib.hid (HA.out.rd.chg (HBx.out.chg) (fun _ _ h => h))
              have hgt := hgl
              go_wp2_with fail
              generalize wr.alloc (.cells #[.int .i64 a.kind, .slice a.A a.b.length a.c, .int .i64 a.n] 38) = wx at *
              generalize wr.heap.size = ab at *
              clear q0 q1 q2
              refine (HBx.out.callP (by omega)).mono ?_
              rintro e w3 ⟨rfl, v1, g1⟩
              have HG1 := Lib.hid g1; clear g1
              go_wp2_with fail
              refine (HG1.out.callPM HBx.out (by omega)).mono ?_
              rintro e w4 ⟨rfl, v2, g2, g3⟩
              have HB4 := Lib.hid g2; clear g2 g3 HG1
              obtain ⟨u1, u2, st1, err1, hB5, hl5⟩ : ∃ u1 u2 st1 err1, Both w sb tb wb mb CA1 CA2 cc1 cc2 u1 u2 st1 err1 w4 ∧ st1.content.length ≤ st.content.length + 5000 := ⟨_, _, _, _, HB4.out, wlen_rep _ _ _ _ (padLen_le _)⟩
              clear HB4
              have HB4 := Lib.hid hB5; clear hB5
              obtain ⟨VA, vc, hv2, _, _⟩ := own_form HB4.out.t.row
              have e1 := HB4.out.m.cell 1
              have e2 := HB4.out.t.blk.cell 0
              simp only [List.getElem?_toArray, List.getElem?_cons_zero, List.getElem?_cons_succ, hv2] at e1 e2
              have hrow := HB4.out.t.row
              rw [hv2] at hrow
              have HRow := Lib.hid hrow
              have HCv := Lib.hid (conv_law w4.drew VA _ vc _ (by exact hrow))
              clear hrow hv2
              have hcon : st1.content.length ≤ 100000000 := by omega
              go_wp2_with fail
              refine wp_region_noPanic ?_
              refine wp_region_held_drew (S := (fun W => W.cell? ⟨mb, 1, none⟩ = some (.int .i64 (st1.content.length : Int)) ∧ W.cell? ⟨tb, 0, none⟩ = some (.slice VA st1.content.length vc) ∧ (convert 36 9 (.slice VA st1.content.length vc)).run Try.prog W = .ok (.string (strB st1.content)) W)) (by kernel_rfl) ⟨e1, e2, HCv.out⟩ (fun hHeld => ?_)
              refine wpAnyH_take (i := 0) (oi := { dst := some 87, op := Op.move (Operand.tmp 11), type := 39, pos := "law.go:76", after := #[], guard := none }) (v := ?_) rfl (by kernel_rfl) (by kernel_rfl) (by kernel_rfl) (fun _ _ _ h => h) (Or.inl ⟨by rfl, ?_⟩) (by assumption) ?_
              rotate_left
              · intro w hSw; (try dsimp only at hSw); go_simp <;> (try with_reducible rfl)
              try simp only [Act.put, List.setIfInBounds_toArray, List.set_cons_zero, List.set_cons_succ]
              refine wpAnyH_take (i := 1) (oi := { dst := some 88, op := Op.move (Operand.tmp 12), type := 3, pos := "law.go:76", after := #[], guard := none }) (v := ?_) rfl (by kernel_rfl) (by kernel_rfl) (by kernel_rfl) (fun _ _ _ h => h) (Or.inl ⟨by rfl, ?_⟩) (by assumption) ?_
              rotate_left
              · intro w hSw; (try dsimp only at hSw); go_simp <;> (try with_reducible rfl)
              try simp only [Act.put, List.setIfInBounds_toArray, List.set_cons_zero, List.set_cons_succ]
              refine wpAnyH_take (i := 2) (oi := { dst := some 89, op := Op.binOp BinOp.neq 3 (Operand.tmp 87) (Operand.tmp 88) 3, type := 4, pos := "law.go:76", after := #[{ on := 0, ground := Ground.data }, { on := 1, ground := Ground.data }], guard := none }) (v := ?_) rfl (by kernel_rfl) (by kernel_rfl) (by kernel_rfl) (fun _ _ _ h => h) (Or.inl ⟨by rfl, ?_⟩) (by assumption) ?_
              rotate_left
              · intro w hSw; (try dsimp only at hSw); go_simp <;> (try with_reducible rfl)
              try simp only [Act.put, List.setIfInBounds_toArray, List.set_cons_zero, List.set_cons_succ]
              refine wpAnyH_take (i := 3) (oi := { dst := some 90, op := Op.move (Operand.tmp 89), type := 4, pos := "law.go:76", after := #[{ on := 2, ground := Ground.data }], guard := none }) (v := ?_) rfl (by kernel_rfl) (by kernel_rfl) (by kernel_rfl) (fun _ _ _ h => h) (Or.inl ⟨by rfl, ?_⟩) (by assumption) ?_
              rotate_left
              · intro w hSw; (try dsimp only at hSw); go_simp <;> (try with_reducible rfl)
              try simp only [Act.put, List.setIfInBounds_toArray, List.set_cons_zero, List.set_cons_succ]
              refine wpAnyH_take (i := 4) (oi := { dst := some 91, op := Op.move (Operand.tmp 7), type := 31, pos := "law.go:76", after := #[{ on := 3, ground := Ground.guard }], guard := some (3, false) }) (v := ?_) rfl (by kernel_rfl) (by kernel_rfl) (by kernel_rfl) (fun _ _ _ h => h) (Or.inl ⟨by rfl, ?_⟩) (by assumption) ?_
              rotate_left
              · intro w hSw; (try dsimp only at hSw); go_simp <;> (try with_reducible rfl)
              try simp only [Act.put, List.setIfInBounds_toArray, List.set_cons_zero, List.set_cons_succ]
              refine wpAnyH_take (i := 6) (oi := { dst := some 93, op := Op.move (Operand.tmp 8), type := 33, pos := "law.go:76", after := #[{ on := 3, ground := Ground.guard }], guard := some (3, false) }) (v := ?_) rfl (by kernel_rfl) (by kernel_rfl) (by kernel_rfl) (fun _ _ _ h => h) (Or.inl ⟨by rfl, ?_⟩) (by assumption) ?_
              rotate_left
              · intro w hSw; (try dsimp only at hSw); go_simp <;> (try with_reducible rfl)
              try simp only [Act.put, List.setIfInBounds_toArray, List.set_cons_zero, List.set_cons_succ]
              refine wpAnyH_take (i := 7) (oi := { dst := some 94, op := Op.nilCheck (Operand.tmp 93), type := 0, pos := "law.go:76", after := #[{ on := 6, ground := Ground.data }, { on := 3, ground := Ground.guard }], guard := some (3, false) }) (v := ?_) rfl (by kernel_rfl) (by kernel_rfl) (by kernel_rfl) (fun _ _ _ h => h) (Or.inl ⟨by rfl, ?_⟩) (by assumption) ?_
              rotate_left
              · intro w hSw; (try dsimp only at hSw); go_simp <;> (try with_reducible rfl)
              try simp only [Act.put, List.setIfInBounds_toArray, List.set_cons_zero, List.set_cons_succ]
              refine wpAnyH_take (i := 8) (oi := { dst := some 95, op := Op.fieldAddr 35 (Operand.tmp 94) 1, type := 0, pos := "law.go:76", after := #[{ on := 7, ground := Ground.data }, { on := 3, ground := Ground.guard }], guard := some (3, false) }) (v := ?_) rfl (by kernel_rfl) (by kernel_rfl) (by kernel_rfl) (fun _ _ _ h => h) (Or.inl ⟨by rfl, ?_⟩) (by assumption) ?_
              rotate_left
              · intro w hSw; (try dsimp only at hSw); go_simp <;> (try with_reducible rfl)
              try simp only [Act.put, List.setIfInBounds_toArray, List.set_cons_zero, List.set_cons_succ]
              refine wpAnyH_take (i := 9) (oi := { dst := some 96, op := Op.load 2 (Operand.tmp 95), type := 2, pos := "law.go:76", after := #[{ on := 8, ground := Ground.data }, { on := 3, ground := Ground.guard }], guard := some (3, false) }) (v := ?_) rfl (by kernel_rfl) (by kernel_rfl) (by kernel_rfl) (fun _ _ _ h => h) (Or.inl ⟨by rfl, ?_⟩) (by assumption) ?_
              rotate_left
              · intro w hSw; (try dsimp only at hSw); go_simp <;> (try with_reducible rfl)
              try simp only [Act.put, List.setIfInBounds_toArray, List.set_cons_zero, List.set_cons_succ]
              refine wpAnyH_ready (rs := [5]) (by kernel_rfl) (by simp) ?_
              refine AllReadyH.cons (o := { dst := some 92, op := Op.call { callee := Callee.value (Operand.func 14), args := #[Operand.tmp 91], argTypes := #[31] }, type := 2, pos := "law.go:76", after := #[{ on := 4, ground := Ground.data }, { on := 3, ground := Ground.chain }, { on := 3, ground := Ground.guard }], guard := some (3, false) }) rfl (fun K hK => ?_) ?_
              rotate_left
              · exact AllReadyH.nil
              go_simp
              refine (wrOffset wb st1.content.length _ _ _ (by first | exact HB4.out.w | exact Blk.drew HB4.out.w)).mono ?_
              rintro e w6 ⟨rfl, rfl⟩
              go_wp2_with fail
              refine hK.out _ _ ?_ (fun hHeld => ?_)
              · exact ⟨e1, e2, HCv.out⟩
              clear hK K
              try simp only [Act.put, List.setIfInBounds_toArray, List.set_cons_zero, List.set_cons_succ]
              refine wpAnyH_take (i := 10) (oi := { dst := some 97, op := Op.binOp BinOp.neq 2 (Operand.tmp 92) (Operand.tmp 96) 2, type := 4, pos := "law.go:76", after := #[{ on := 5, ground := Ground.data }, { on := 9, ground := Ground.data }, { on := 3, ground := Ground.guard }], guard := some (3, false) }) (v := ?_) rfl (by kernel_rfl) (by kernel_rfl) (by kernel_rfl) (fun _ _ _ h => h) (Or.inl ⟨by rfl, ?_⟩) (by assumption) ?_
              rotate_left
              · intro w hSw; (try dsimp only at hSw); go_simp <;> (try with_reducible rfl)
              try simp only [Act.put, List.setIfInBounds_toArray, List.set_cons_zero, List.set_cons_succ]
              refine wpAnyH_take (i := 11) (oi := { dst := some 98, op := Op.pick (Operand.tmp 90) (Operand.const (Value.bool true)) (Operand.tmp 97), type := 4, pos := "law.go:76", after := #[{ on := 3, ground := Ground.data }, { on := 10, ground := Ground.data }], guard := none }) (v := ?_) rfl (by kernel_rfl) (by kernel_rfl) (by kernel_rfl) (fun _ _ _ h => h) (Or.inl ⟨by rfl, ?_⟩) (by assumption) ?_
              rotate_left
              · intro w hSw; (try dsimp only at hSw); go_simp <;> (try with_reducible rfl)
              try simp only [Act.put, List.setIfInBounds_toArray, List.set_cons_zero, List.set_cons_succ]
              refine wpAnyH_take (i := 12) (oi := { dst := some 99, op := Op.move (Operand.tmp 98), type := 4, pos := "law.go:76", after := #[{ on := 11, ground := Ground.data }, { on := 5, ground := Ground.chain }], guard := none }) (v := ?_) rfl (by kernel_rfl) (by kernel_rfl) (by kernel_rfl) (fun _ _ _ h => h) (Or.inl ⟨by rfl, ?_⟩) (by assumption) ?_
              rotate_left
              · intro w hSw; (try dsimp only at hSw); go_simp <;> (try with_reducible rfl)
              try simp only [Act.put, List.setIfInBounds_toArray, List.set_cons_zero, List.set_cons_succ]
              refine wpAnyH_take (i := 13) (oi := { dst := some 100, op := Op.move (Operand.tmp 5), type := 27, pos := "law.go:76", after := #[{ on := 12, ground := Ground.guard }], guard := some (12, false) }) (v := ?_) rfl (by kernel_rfl) (by kernel_rfl) (by kernel_rfl) (fun _ _ _ h => h) (Or.inl ⟨by rfl, ?_⟩) (by assumption) ?_
              rotate_left
              · intro w hSw; (try dsimp only at hSw); go_simp <;> (try with_reducible rfl)
              try simp only [Act.put, List.setIfInBounds_toArray, List.set_cons_zero, List.set_cons_succ]
              refine wpAnyH_take (i := 16) (oi := { dst := some 103, op := Op.move (Operand.tmp 6), type := 29, pos := "law.go:76", after := #[{ on := 12, ground := Ground.guard }], guard := some (12, false) }) (v := ?_) rfl (by kernel_rfl) (by kernel_rfl) (by kernel_rfl) (fun _ _ _ h => h) (Or.inl ⟨by rfl, ?_⟩) (by assumption) ?_
              rotate_left
              · intro w hSw; (try dsimp only at hSw); go_simp <;> (try with_reducible rfl)
              try simp only [Act.put, List.setIfInBounds_toArray, List.set_cons_zero, List.set_cons_succ]
              refine wpAnyH_take (i := 17) (oi := { dst := some 104, op := Op.nilCheck (Operand.tmp 103), type := 0, pos := "law.go:76", after := #[{ on := 16, ground := Ground.data }, { on := 12, ground := Ground.guard }], guard := some (12, false) }) (v := ?_) rfl (by kernel_rfl) (by kernel_rfl) (by kernel_rfl) (fun _ _ _ h => h) (Or.inl ⟨by rfl, ?_⟩) (by assumption) ?_
              rotate_left
              · intro w hSw; (try dsimp only at hSw); go_simp <;> (try with_reducible rfl)
              try simp only [Act.put, List.setIfInBounds_toArray, List.set_cons_zero, List.set_cons_succ]
              refine wpAnyH_take (i := 18) (oi := { dst := some 105, op := Op.fieldAddr 49 (Operand.tmp 104) 0, type := 0, pos := "law.go:76", after := #[{ on := 17, ground := Ground.data }, { on := 12, ground := Ground.guard }], guard := some (12, false) }) (v := ?_) rfl (by kernel_rfl) (by kernel_rfl) (by kernel_rfl) (fun _ _ _ h => h) (Or.inl ⟨by rfl, ?_⟩) (by assumption) ?_
              rotate_left
              · intro w hSw; (try dsimp only at hSw); go_simp <;> (try with_reducible rfl)
              try simp only [Act.put, List.setIfInBounds_toArray, List.set_cons_zero, List.set_cons_succ]
              refine wpAnyH_take (i := 19) (oi := { dst := some 106, op := Op.load 36 (Operand.tmp 105), type := 36, pos := "law.go:76", after := #[{ on := 18, ground := Ground.data }, { on := 12, ground := Ground.guard }], guard := some (12, false) }) (v := ?_) rfl (by kernel_rfl) (by kernel_rfl) (by kernel_rfl) (fun _ _ _ h => h) (Or.inl ⟨by rfl, ?_⟩) (by assumption) ?_
              rotate_left
              · intro w hSw; (try dsimp only at hSw); go_simp <;> (try with_reducible rfl)
              try simp only [Act.put, List.setIfInBounds_toArray, List.set_cons_zero, List.set_cons_succ]
              refine wpAnyH_take (i := 20) (oi := { dst := some 107, op := Op.convert 36 9 (Operand.tmp 106), type := 9, pos := "law.go:76", after := #[{ on := 19, ground := Ground.data }, { on := 12, ground := Ground.guard }], guard := some (12, false) }) (v := ?_) rfl (by kernel_rfl) (by kernel_rfl) (by kernel_rfl) (fun _ _ _ h => h) (Or.inl ⟨by rfl, ?_⟩) (by assumption) ?_
              rotate_left
              · intro w hSw; (try dsimp only at hSw); go_simp <;> (try with_reducible rfl)
              try simp only [Act.put, List.setIfInBounds_toArray, List.set_cons_zero, List.set_cons_succ]
              refine wpAnyH_ready (rs := [14]) (by kernel_rfl) (by simp) ?_
              refine AllReadyH.cons (o := { dst := some 101, op := Op.call { callee := Callee.value (Operand.func 15), args := #[Operand.tmp 100], argTypes := #[27] }, type := 36, pos := "law.go:76", after := #[{ on := 13, ground := Ground.data }, { on := 12, ground := Ground.chain }, { on := 12, ground := Ground.guard }], guard := some (12, false) }) rfl (fun K hK => ?_) ?_
              rotate_left
              · exact AllReadyH.nil
              go_simp
              refine (sinkBytes sb u1 CA1 cc1 st1 _ (by first | exact HB4.out.s.drewN 1 | exact HB4.out.s) hcon).mono ?_
              rintro e w5 ⟨BA, bc, rfl, y1, y2⟩
              have hcv5 := conv_law w5 BA _ bc _ y1
              have Y2 := Lib.hid y2.of_drew
              clear y1 y2
              go_wp2_with fail
              refine hK.out _ _ ?_ (fun hHeld => ?_)
              · exact ⟨cell_keep Y2.out e1, cell_keep Y2.out e2, conv_law w5 VA _ vc _ (own_chg HRow.out Y2.out (fun _ _ h => h))⟩
              clear hK K
              try simp only [Act.put, List.setIfInBounds_toArray, List.set_cons_zero, List.set_cons_succ]
              refine wpAnyH_ready (rs := [15]) (by kernel_rfl) (by simp) ?_
              refine AllReadyH.cons (o := { dst := some 102, op := Op.convert 36 9 (Operand.tmp 101), type := 9, pos := "law.go:76", after := #[{ on := 14, ground := Ground.data }, { on := 12, ground := Ground.guard }], guard := some (12, false) }) rfl (fun K hK => ?_) ?_
              rotate_left
              · exact AllReadyH.nil
              go_simp
              refine hK.out _ _ ?_ (fun hHeld => ?_)
              · exact ⟨cell_keep Y2.out e1, cell_keep Y2.out e2, conv_law w5 VA _ vc _ (own_chg HRow.out Y2.out (fun _ _ h => h))⟩
              clear hK K
              try simp only [Act.put, List.setIfInBounds_toArray, List.set_cons_zero, List.set_cons_succ]
              refine wpAnyH_take (i := 21) (oi := { dst := some 108, op := Op.binOp BinOp.neq 9 (Operand.tmp 102) (Operand.tmp 107) 9, type := 4, pos := "law.go:76", after := #[{ on := 15, ground := Ground.data }, { on := 20, ground := Ground.data }, { on := 12, ground := Ground.guard }], guard := some (12, false) }) (v := ?_) rfl (by kernel_rfl) (by kernel_rfl) (by kernel_rfl) (fun _ _ _ h => h) (Or.inl ⟨by rfl, ?_⟩) (by assumption) ?_
              rotate_left
              · intro w hSw; (try dsimp only at hSw); go_simp <;> (try with_reducible rfl)
              try simp only [Act.put, List.setIfInBounds_toArray, List.set_cons_zero, List.set_cons_succ]
              refine wpAnyH_take (i := 22) (oi := { dst := some 109, op := Op.pick (Operand.tmp 99) (Operand.const (Value.bool true)) (Operand.tmp 108), type := 4, pos := "law.go:76", after := #[{ on := 12, ground := Ground.data }, { on := 21, ground := Ground.data }], guard := none }) (v := ?_) rfl (by kernel_rfl) (by kernel_rfl) (by kernel_rfl) (fun _ _ _ h => h) (Or.inl ⟨by rfl, ?_⟩) (by assumption) ?_
              rotate_left
              · intro w hSw; (try dsimp only at hSw); go_simp <;> (try with_reducible rfl)
              try simp only [Act.put, List.setIfInBounds_toArray, List.set_cons_zero, List.set_cons_succ]
              refine wpAnyH_done (by kernel_rfl) ?_ _
              refine NoPanic.normal ?_
              go_wp2_with fail
              go_roundw
              case rel => exact ⟨⟨j + 1, u1, u2, st1, err1, by go_num, by omega, HB4.out.keep Y2.out, by omega⟩⟩
              case measure => simp [intOf]; omega
            · have hk1 : (a.kind == 1) = false := by simpa using hk
              clear hk
              by_cases hz0 : 0 ≤ a.n
              · have HX := Lib.hid (Blk.new wr #[.int .i64 a.kind, .slice a.A a.b.length a.c, .int .i64 a.n] 38)
                have HBx := Lib.hid (HBo.out.keep ((Chg.refl (fun _ => False) wr).alloc (.cells #[.int .i64 a.kind, .slice a.A a.b.length a.c, .int .i64 a.n] 38)))
                have HRd := Lib.hid (HA.out.rd.chg (HBx.out.chg) (fun _ _ h => h))
                have hgt := hgl
                go_wp2_with fail
                generalize wr.alloc (.cells #[.int .i64 a.kind, .slice a.A a.b.length a.c, .int .i64 a.n] 38) = wx at *
                generalize wr.heap.size = ab at *
                clear q0 q1 q2
                have z1 := HX.out.cell 2
                simp only [List.getElem?_toArray, List.getElem?_cons_zero, List.getElem?_cons_succ] at z1
                have hcall := (HBx.out.keep ((Chg.refl (fun _ => False) wx).drew)).callZi (by omega) a.n hz0 (by omega)
                have HC := Lib.hid hcall; clear hcall
                go_region_held3 (fun W => W.cell? ⟨ab, 2, none⟩ = some (.int .i64 a.n))
                  (first | go_keep | exact (z4 : _) | exact (z3 : _))
                  (first | (go_at_call 12; refine HC.out.mono ?_; rintro e w3 ⟨rfl, v1, g1⟩; have z3 := (HBx.out.abMid HX.out g1.chg.of_drew).cell 2; have HG1 := Lib.hid g1; simp only [List.getElem?_toArray, List.getElem?_cons_zero, List.getElem?_cons_succ] at z3) | (go_at_call 13; refine (Mid.callZMi hz0 HG1.out (HBx.out.keep ((Chg.refl (fun _ => False) wx).drew)) (by omega) (by omega)).mono ?_; rintro e w4 ⟨rfl, v2, g2, g3⟩; have HB4 := Lib.hid g2; have z4 := (HG1.out.abFin (HBx.out.abMid HX.out HG1.out.chg.of_drew) g3).cell 2; simp only [List.getElem?_toArray, List.getElem?_cons_zero, List.getElem?_cons_succ] at z4; clear g2 g3))
                obtain ⟨u1, u2, st1, err1, hB5, hl5⟩ : ∃ u1 u2 st1 err1, Both w sb tb wb mb CA1 CA2 cc1 cc2 u1 u2 st1 err1 w4 ∧ st1.content.length ≤ st.content.length + 5000 := ⟨_, _, _, _, HB4.out, wlen_rep _ _ _ _ (by omega)⟩
                clear HB4
                have HB4 := Lib.hid hB5; clear hB5
                obtain ⟨VA, vc, hv2, _, _⟩ := own_form HB4.out.t.row
                have e1 := HB4.out.m.cell 1
                have e2 := HB4.out.t.blk.cell 0
                simp only [List.getElem?_toArray, List.getElem?_cons_zero, List.getElem?_cons_succ, hv2] at e1 e2
                have hrow := HB4.out.t.row
                rw [hv2] at hrow
                have HRow := Lib.hid hrow
                have HCv := Lib.hid (conv_law w4.drew VA _ vc _ (by exact hrow))
                clear hrow hv2
                have hcon : st1.content.length ≤ 100000000 := by omega
                go_wp2_with fail
                refine wp_region_noPanic ?_
                refine wp_region_held_drew (S := (fun W => W.cell? ⟨mb, 1, none⟩ = some (.int .i64 (st1.content.length : Int)) ∧ W.cell? ⟨tb, 0, none⟩ = some (.slice VA st1.content.length vc) ∧ (convert 36 9 (.slice VA st1.content.length vc)).run Try.prog W = .ok (.string (strB st1.content)) W)) (by kernel_rfl) ⟨e1, e2, HCv.out⟩ (fun hHeld => ?_)
                refine wpAnyH_take (i := 0) (oi := { dst := some 87, op := Op.move (Operand.tmp 11), type := 39, pos := "law.go:76", after := #[], guard := none }) (v := ?_) rfl (by kernel_rfl) (by kernel_rfl) (by kernel_rfl) (fun _ _ _ h => h) (Or.inl ⟨by rfl, ?_⟩) (by assumption) ?_
                rotate_left
                · intro w hSw; (try dsimp only at hSw); go_simp <;> (try with_reducible rfl)
                try simp only [Act.put, List.setIfInBounds_toArray, List.set_cons_zero, List.set_cons_succ]
                refine wpAnyH_take (i := 1) (oi := { dst := some 88, op := Op.move (Operand.tmp 12), type := 3, pos := "law.go:76", after := #[], guard := none }) (v := ?_) rfl (by kernel_rfl) (by kernel_rfl) (by kernel_rfl) (fun _ _ _ h => h) (Or.inl ⟨by rfl, ?_⟩) (by assumption) ?_
                rotate_left
                · intro w hSw; (try dsimp only at hSw); go_simp <;> (try with_reducible rfl)
                try simp only [Act.put, List.setIfInBounds_toArray, List.set_cons_zero, List.set_cons_succ]
                refine wpAnyH_take (i := 2) (oi := { dst := some 89, op := Op.binOp BinOp.neq 3 (Operand.tmp 87) (Operand.tmp 88) 3, type := 4, pos := "law.go:76", after := #[{ on := 0, ground := Ground.data }, { on := 1, ground := Ground.data }], guard := none }) (v := ?_) rfl (by kernel_rfl) (by kernel_rfl) (by kernel_rfl) (fun _ _ _ h => h) (Or.inl ⟨by rfl, ?_⟩) (by assumption) ?_
                rotate_left
                · intro w hSw; (try dsimp only at hSw); go_simp <;> (try with_reducible rfl)
                try simp only [Act.put, List.setIfInBounds_toArray, List.set_cons_zero, List.set_cons_succ]
                refine wpAnyH_take (i := 3) (oi := { dst := some 90, op := Op.move (Operand.tmp 89), type := 4, pos := "law.go:76", after := #[{ on := 2, ground := Ground.data }], guard := none }) (v := ?_) rfl (by kernel_rfl) (by kernel_rfl) (by kernel_rfl) (fun _ _ _ h => h) (Or.inl ⟨by rfl, ?_⟩) (by assumption) ?_
                rotate_left
                · intro w hSw; (try dsimp only at hSw); go_simp <;> (try with_reducible rfl)
                try simp only [Act.put, List.setIfInBounds_toArray, List.set_cons_zero, List.set_cons_succ]
                refine wpAnyH_take (i := 4) (oi := { dst := some 91, op := Op.move (Operand.tmp 7), type := 31, pos := "law.go:76", after := #[{ on := 3, ground := Ground.guard }], guard := some (3, false) }) (v := ?_) rfl (by kernel_rfl) (by kernel_rfl) (by kernel_rfl) (fun _ _ _ h => h) (Or.inl ⟨by rfl, ?_⟩) (by assumption) ?_
                rotate_left
                · intro w hSw; (try dsimp only at hSw); go_simp <;> (try with_reducible rfl)
                try simp only [Act.put, List.setIfInBounds_toArray, List.set_cons_zero, List.set_cons_succ]
                refine wpAnyH_take (i := 6) (oi := { dst := some 93, op := Op.move (Operand.tmp 8), type := 33, pos := "law.go:76", after := #[{ on := 3, ground := Ground.guard }], guard := some (3, false) }) (v := ?_) rfl (by kernel_rfl) (by kernel_rfl) (by kernel_rfl) (fun _ _ _ h => h) (Or.inl ⟨by rfl, ?_⟩) (by assumption) ?_
                rotate_left
                · intro w hSw; (try dsimp only at hSw); go_simp <;> (try with_reducible rfl)
                try simp only [Act.put, List.setIfInBounds_toArray, List.set_cons_zero, List.set_cons_succ]
                refine wpAnyH_take (i := 7) (oi := { dst := some 94, op := Op.nilCheck (Operand.tmp 93), type := 0, pos := "law.go:76", after := #[{ on := 6, ground := Ground.data }, { on := 3, ground := Ground.guard }], guard := some (3, false) }) (v := ?_) rfl (by kernel_rfl) (by kernel_rfl) (by kernel_rfl) (fun _ _ _ h => h) (Or.inl ⟨by rfl, ?_⟩) (by assumption) ?_
                rotate_left
                · intro w hSw; (try dsimp only at hSw); go_simp <;> (try with_reducible rfl)
                try simp only [Act.put, List.setIfInBounds_toArray, List.set_cons_zero, List.set_cons_succ]
                refine wpAnyH_take (i := 8) (oi := { dst := some 95, op := Op.fieldAddr 35 (Operand.tmp 94) 1, type := 0, pos := "law.go:76", after := #[{ on := 7, ground := Ground.data }, { on := 3, ground := Ground.guard }], guard := some (3, false) }) (v := ?_) rfl (by kernel_rfl) (by kernel_rfl) (by kernel_rfl) (fun _ _ _ h => h) (Or.inl ⟨by rfl, ?_⟩) (by assumption) ?_
                rotate_left
                · intro w hSw; (try dsimp only at hSw); go_simp <;> (try with_reducible rfl)
                try simp only [Act.put, List.setIfInBounds_toArray, List.set_cons_zero, List.set_cons_succ]
                refine wpAnyH_take (i := 9) (oi := { dst := some 96, op := Op.load 2 (Operand.tmp 95), type := 2, pos := "law.go:76", after := #[{ on := 8, ground := Ground.data }, { on := 3, ground := Ground.guard }], guard := some (3, false) }) (v := ?_) rfl (by kernel_rfl) (by kernel_rfl) (by kernel_rfl) (fun _ _ _ h => h) (Or.inl ⟨by rfl, ?_⟩) (by assumption) ?_
                rotate_left
                · intro w hSw; (try dsimp only at hSw); go_simp <;> (try with_reducible rfl)
                try simp only [Act.put, List.setIfInBounds_toArray, List.set_cons_zero, List.set_cons_succ]
                refine wpAnyH_ready (rs := [5]) (by kernel_rfl) (by simp) ?_
                refine AllReadyH.cons (o := { dst := some 92, op := Op.call { callee := Callee.value (Operand.func 14), args := #[Operand.tmp 91], argTypes := #[31] }, type := 2, pos := "law.go:76", after := #[{ on := 4, ground := Ground.data }, { on := 3, ground := Ground.chain }, { on := 3, ground := Ground.guard }], guard := some (3, false) }) rfl (fun K hK => ?_) ?_
                rotate_left
                · exact AllReadyH.nil
                go_simp
                refine (wrOffset wb st1.content.length _ _ _ (by first | exact HB4.out.w | exact Blk.drew HB4.out.w)).mono ?_
                rintro e w6 ⟨rfl, rfl⟩
                go_wp2_with fail
                refine hK.out _ _ ?_ (fun hHeld => ?_)
                · exact ⟨e1, e2, HCv.out⟩
                clear hK K
                try simp only [Act.put, List.setIfInBounds_toArray, List.set_cons_zero, List.set_cons_succ]
                refine wpAnyH_take (i := 10) (oi := { dst := some 97, op := Op.binOp BinOp.neq 2 (Operand.tmp 92) (Operand.tmp 96) 2, type := 4, pos := "law.go:76", after := #[{ on := 5, ground := Ground.data }, { on := 9, ground := Ground.data }, { on := 3, ground := Ground.guard }], guard := some (3, false) }) (v := ?_) rfl (by kernel_rfl) (by kernel_rfl) (by kernel_rfl) (fun _ _ _ h => h) (Or.inl ⟨by rfl, ?_⟩) (by assumption) ?_
                rotate_left
                · intro w hSw; (try dsimp only at hSw); go_simp <;> (try with_reducible rfl)
                try simp only [Act.put, List.setIfInBounds_toArray, List.set_cons_zero, List.set_cons_succ]
                refine wpAnyH_take (i := 11) (oi := { dst := some 98, op := Op.pick (Operand.tmp 90) (Operand.const (Value.bool true)) (Operand.tmp 97), type := 4, pos := "law.go:76", after := #[{ on := 3, ground := Ground.data }, { on := 10, ground := Ground.data }], guard := none }) (v := ?_) rfl (by kernel_rfl) (by kernel_rfl) (by kernel_rfl) (fun _ _ _ h => h) (Or.inl ⟨by rfl, ?_⟩) (by assumption) ?_
                rotate_left
                · intro w hSw; (try dsimp only at hSw); go_simp <;> (try with_reducible rfl)
                try simp only [Act.put, List.setIfInBounds_toArray, List.set_cons_zero, List.set_cons_succ]
                refine wpAnyH_take (i := 12) (oi := { dst := some 99, op := Op.move (Operand.tmp 98), type := 4, pos := "law.go:76", after := #[{ on := 11, ground := Ground.data }, { on := 5, ground := Ground.chain }], guard := none }) (v := ?_) rfl (by kernel_rfl) (by kernel_rfl) (by kernel_rfl) (fun _ _ _ h => h) (Or.inl ⟨by rfl, ?_⟩) (by assumption) ?_
                rotate_left
                · intro w hSw; (try dsimp only at hSw); go_simp <;> (try with_reducible rfl)
                try simp only [Act.put, List.setIfInBounds_toArray, List.set_cons_zero, List.set_cons_succ]
                refine wpAnyH_take (i := 13) (oi := { dst := some 100, op := Op.move (Operand.tmp 5), type := 27, pos := "law.go:76", after := #[{ on := 12, ground := Ground.guard }], guard := some (12, false) }) (v := ?_) rfl (by kernel_rfl) (by kernel_rfl) (by kernel_rfl) (fun _ _ _ h => h) (Or.inl ⟨by rfl, ?_⟩) (by assumption) ?_
                rotate_left
                · intro w hSw; (try dsimp only at hSw); go_simp <;> (try with_reducible rfl)
                try simp only [Act.put, List.setIfInBounds_toArray, List.set_cons_zero, List.set_cons_succ]
                refine wpAnyH_take (i := 16) (oi := { dst := some 103, op := Op.move (Operand.tmp 6), type := 29, pos := "law.go:76", after := #[{ on := 12, ground := Ground.guard }], guard := some (12, false) }) (v := ?_) rfl (by kernel_rfl) (by kernel_rfl) (by kernel_rfl) (fun _ _ _ h => h) (Or.inl ⟨by rfl, ?_⟩) (by assumption) ?_
                rotate_left
                · intro w hSw; (try dsimp only at hSw); go_simp <;> (try with_reducible rfl)
                try simp only [Act.put, List.setIfInBounds_toArray, List.set_cons_zero, List.set_cons_succ]
                refine wpAnyH_take (i := 17) (oi := { dst := some 104, op := Op.nilCheck (Operand.tmp 103), type := 0, pos := "law.go:76", after := #[{ on := 16, ground := Ground.data }, { on := 12, ground := Ground.guard }], guard := some (12, false) }) (v := ?_) rfl (by kernel_rfl) (by kernel_rfl) (by kernel_rfl) (fun _ _ _ h => h) (Or.inl ⟨by rfl, ?_⟩) (by assumption) ?_
                rotate_left
                · intro w hSw; (try dsimp only at hSw); go_simp <;> (try with_reducible rfl)
                try simp only [Act.put, List.setIfInBounds_toArray, List.set_cons_zero, List.set_cons_succ]
                refine wpAnyH_take (i := 18) (oi := { dst := some 105, op := Op.fieldAddr 49 (Operand.tmp 104) 0, type := 0, pos := "law.go:76", after := #[{ on := 17, ground := Ground.data }, { on := 12, ground := Ground.guard }], guard := some (12, false) }) (v := ?_) rfl (by kernel_rfl) (by kernel_rfl) (by kernel_rfl) (fun _ _ _ h => h) (Or.inl ⟨by rfl, ?_⟩) (by assumption) ?_
                rotate_left
                · intro w hSw; (try dsimp only at hSw); go_simp <;> (try with_reducible rfl)
                try simp only [Act.put, List.setIfInBounds_toArray, List.set_cons_zero, List.set_cons_succ]
                refine wpAnyH_take (i := 19) (oi := { dst := some 106, op := Op.load 36 (Operand.tmp 105), type := 36, pos := "law.go:76", after := #[{ on := 18, ground := Ground.data }, { on := 12, ground := Ground.guard }], guard := some (12, false) }) (v := ?_) rfl (by kernel_rfl) (by kernel_rfl) (by kernel_rfl) (fun _ _ _ h => h) (Or.inl ⟨by rfl, ?_⟩) (by assumption) ?_
                rotate_left
                · intro w hSw; (try dsimp only at hSw); go_simp <;> (try with_reducible rfl)
                try simp only [Act.put, List.setIfInBounds_toArray, List.set_cons_zero, List.set_cons_succ]
                refine wpAnyH_take (i := 20) (oi := { dst := some 107, op := Op.convert 36 9 (Operand.tmp 106), type := 9, pos := "law.go:76", after := #[{ on := 19, ground := Ground.data }, { on := 12, ground := Ground.guard }], guard := some (12, false) }) (v := ?_) rfl (by kernel_rfl) (by kernel_rfl) (by kernel_rfl) (fun _ _ _ h => h) (Or.inl ⟨by rfl, ?_⟩) (by assumption) ?_
                rotate_left
                · intro w hSw; (try dsimp only at hSw); go_simp <;> (try with_reducible rfl)
                try simp only [Act.put, List.setIfInBounds_toArray, List.set_cons_zero, List.set_cons_succ]
                refine wpAnyH_ready (rs := [14]) (by kernel_rfl) (by simp) ?_
                refine AllReadyH.cons (o := { dst := some 101, op := Op.call { callee := Callee.value (Operand.func 15), args := #[Operand.tmp 100], argTypes := #[27] }, type := 36, pos := "law.go:76", after := #[{ on := 13, ground := Ground.data }, { on := 12, ground := Ground.chain }, { on := 12, ground := Ground.guard }], guard := some (12, false) }) rfl (fun K hK => ?_) ?_
                rotate_left
                · exact AllReadyH.nil
                go_simp
                refine (sinkBytes sb u1 CA1 cc1 st1 _ (by first | exact HB4.out.s.drewN 1 | exact HB4.out.s) hcon).mono ?_
                rintro e w5 ⟨BA, bc, rfl, y1, y2⟩
                have hcv5 := conv_law w5 BA _ bc _ y1
                have Y2 := Lib.hid y2.of_drew
                clear y1 y2
                go_wp2_with fail
                refine hK.out _ _ ?_ (fun hHeld => ?_)
                · exact ⟨cell_keep Y2.out e1, cell_keep Y2.out e2, conv_law w5 VA _ vc _ (own_chg HRow.out Y2.out (fun _ _ h => h))⟩
                clear hK K
                try simp only [Act.put, List.setIfInBounds_toArray, List.set_cons_zero, List.set_cons_succ]
                refine wpAnyH_ready (rs := [15]) (by kernel_rfl) (by simp) ?_
                refine AllReadyH.cons (o := { dst := some 102, op := Op.convert 36 9 (Operand.tmp 101), type := 9, pos := "law.go:76", after := #[{ on := 14, ground := Ground.data }, { on := 12, ground := Ground.guard }], guard := some (12, false) }) rfl (fun K hK => ?_) ?_
                rotate_left
                · exact AllReadyH.nil
                go_simp
                refine hK.out _ _ ?_ (fun hHeld => ?_)
                · exact ⟨cell_keep Y2.out e1, cell_keep Y2.out e2, conv_law w5 VA _ vc _ (own_chg HRow.out Y2.out (fun _ _ h => h))⟩
                clear hK K
                try simp only [Act.put, List.setIfInBounds_toArray, List.set_cons_zero, List.set_cons_succ]
                refine wpAnyH_take (i := 21) (oi := { dst := some 108, op := Op.binOp BinOp.neq 9 (Operand.tmp 102) (Operand.tmp 107) 9, type := 4, pos := "law.go:76", after := #[{ on := 15, ground := Ground.data }, { on := 20, ground := Ground.data }, { on := 12, ground := Ground.guard }], guard := some (12, false) }) (v := ?_) rfl (by kernel_rfl) (by kernel_rfl) (by kernel_rfl) (fun _ _ _ h => h) (Or.inl ⟨by rfl, ?_⟩) (by assumption) ?_
                rotate_left
                · intro w hSw; (try dsimp only at hSw); go_simp <;> (try with_reducible rfl)
                try simp only [Act.put, List.setIfInBounds_toArray, List.set_cons_zero, List.set_cons_succ]
                refine wpAnyH_take (i := 22) (oi := { dst := some 109, op := Op.pick (Operand.tmp 99) (Operand.const (Value.bool true)) (Operand.tmp 108), type := 4, pos := "law.go:76", after := #[{ on := 12, ground := Ground.data }, { on := 21, ground := Ground.data }], guard := none }) (v := ?_) rfl (by kernel_rfl) (by kernel_rfl) (by kernel_rfl) (fun _ _ _ h => h) (Or.inl ⟨by rfl, ?_⟩) (by assumption) ?_
                rotate_left
                · intro w hSw; (try dsimp only at hSw); go_simp <;> (try with_reducible rfl)
                try simp only [Act.put, List.setIfInBounds_toArray, List.set_cons_zero, List.set_cons_succ]
                refine wpAnyH_done (by kernel_rfl) ?_ _
                refine NoPanic.normal ?_
                go_wp2_with fail
                go_roundw
                case rel => exact ⟨⟨j + 1, u1, u2, st1, err1, by go_num, by omega, HB4.out.keep Y2.out, by omega⟩⟩
                case measure => simp [intOf]; omega
              · have hzn : a.n < 0 ∨ a.n > 1024 := by omega
                have HX := Lib.hid (Blk.new wr #[.int .i64 a.kind, .slice a.A a.b.length a.c, .int .i64 a.n] 38)
                have HBx := Lib.hid (HBo.out.keep ((Chg.refl (fun _ => False) wr).alloc (.cells #[.int .i64 a.kind, .slice a.A a.b.length a.c, .int .i64 a.n] 38)))
                have HRd := Lib.hid (HA.out.rd.chg (HBx.out.chg) (fun _ _ h => h))
                have hgt := hgl
                go_wp2_with fail
                generalize wr.alloc (.cells #[.int .i64 a.kind, .slice a.A a.b.length a.c, .int .i64 a.n] 38) = wx at *
                generalize wr.heap.size = ab at *
                clear q0 q1 q2
                have z1 := HX.out.cell 2
                simp only [List.getElem?_toArray, List.getElem?_cons_zero, List.getElem?_cons_succ] at z1
                go_region_held3 (fun W => W.cell? ⟨ab, 2, none⟩ = some (.int .i64 a.n))
                  (first | go_keep | exact z1)
                  (first | (go_at_call 12; refine (wrZeros_no wb a.n _ hzn).mono ?_; rintro e w3 ⟨rfl, rfl⟩) | (go_at_call 13; refine (mrZeros_no mb a.n _ hzn).mono ?_; rintro e w3 ⟨rfl, rfl⟩))
                have HB4 := Lib.hid (HBx.out.keep ((Chg.refl (fun _ => False) wx).drew))
                generalize wx.drew = w4 at *
                obtain ⟨u1, u2, st1, err1, hB5, hl5⟩ : ∃ u1 u2 st1 err1, Both w sb tb wb mb CA1 CA2 cc1 cc2 u1 u2 st1 err1 w4 ∧ st1.content.length ≤ st.content.length + 5000 := ⟨_, _, _, _, HB4.out, (by omega)⟩
                clear HB4
                have HB4 := Lib.hid hB5; clear hB5
                obtain ⟨VA, vc, hv2, _, _⟩ := own_form HB4.out.t.row
                have e1 := HB4.out.m.cell 1
                have e2 := HB4.out.t.blk.cell 0
                simp only [List.getElem?_toArray, List.getElem?_cons_zero, List.getElem?_cons_succ, hv2] at e1 e2
                have hrow := HB4.out.t.row
                rw [hv2] at hrow
                have HRow := Lib.hid hrow
                have HCv := Lib.hid (conv_law w4.drew VA _ vc _ (by exact hrow))
                clear hrow hv2
                have hcon : st1.content.length ≤ 100000000 := by omega
                go_wp2_with fail
                refine wp_region_noPanic ?_
                refine wp_region_held_drew (S := (fun W => W.cell? ⟨mb, 1, none⟩ = some (.int .i64 (st1.content.length : Int)) ∧ W.cell? ⟨tb, 0, none⟩ = some (.slice VA st1.content.length vc) ∧ (convert 36 9 (.slice VA st1.content.length vc)).run Try.prog W = .ok (.string (strB st1.content)) W)) (by kernel_rfl) ⟨e1, e2, HCv.out⟩ (fun hHeld => ?_)
                refine wpAnyH_take (i := 0) (oi := { dst := some 87, op := Op.move (Operand.tmp 11), type := 39, pos := "law.go:76", after := #[], guard := none }) (v := ?_) rfl (by kernel_rfl) (by kernel_rfl) (by kernel_rfl) (fun _ _ _ h => h) (Or.inl ⟨by rfl, ?_⟩) (by assumption) ?_
                rotate_left
                · intro w hSw; (try dsimp only at hSw); go_simp <;> (try with_reducible rfl)
                try simp only [Act.put, List.setIfInBounds_toArray, List.set_cons_zero, List.set_cons_succ]
                refine wpAnyH_take (i := 1) (oi := { dst := some 88, op := Op.move (Operand.tmp 12), type := 3, pos := "law.go:76", after := #[], guard := none }) (v := ?_) rfl (by kernel_rfl) (by kernel_rfl) (by kernel_rfl) (fun _ _ _ h => h) (Or.inl ⟨by rfl, ?_⟩) (by assumption) ?_
                rotate_left
                · intro w hSw; (try dsimp only at hSw); go_simp <;> (try with_reducible rfl)
                try simp only [Act.put, List.setIfInBounds_toArray, List.set_cons_zero, List.set_cons_succ]
                refine wpAnyH_take (i := 2) (oi := { dst := some 89, op := Op.binOp BinOp.neq 3 (Operand.tmp 87) (Operand.tmp 88) 3, type := 4, pos := "law.go:76", after := #[{ on := 0, ground := Ground.data }, { on := 1, ground := Ground.data }], guard := none }) (v := ?_) rfl (by kernel_rfl) (by kernel_rfl) (by kernel_rfl) (fun _ _ _ h => h) (Or.inl ⟨by rfl, ?_⟩) (by assumption) ?_
                rotate_left
                · intro w hSw; (try dsimp only at hSw); go_simp <;> (try with_reducible rfl)
                try simp only [Act.put, List.setIfInBounds_toArray, List.set_cons_zero, List.set_cons_succ]
                refine wpAnyH_take (i := 3) (oi := { dst := some 90, op := Op.move (Operand.tmp 89), type := 4, pos := "law.go:76", after := #[{ on := 2, ground := Ground.data }], guard := none }) (v := ?_) rfl (by kernel_rfl) (by kernel_rfl) (by kernel_rfl) (fun _ _ _ h => h) (Or.inl ⟨by rfl, ?_⟩) (by assumption) ?_
                rotate_left
                · intro w hSw; (try dsimp only at hSw); go_simp <;> (try with_reducible rfl)
                try simp only [Act.put, List.setIfInBounds_toArray, List.set_cons_zero, List.set_cons_succ]
                refine wpAnyH_take (i := 4) (oi := { dst := some 91, op := Op.move (Operand.tmp 7), type := 31, pos := "law.go:76", after := #[{ on := 3, ground := Ground.guard }], guard := some (3, false) }) (v := ?_) rfl (by kernel_rfl) (by kernel_rfl) (by kernel_rfl) (fun _ _ _ h => h) (Or.inl ⟨by rfl, ?_⟩) (by assumption) ?_
                rotate_left
                · intro w hSw; (try dsimp only at hSw); go_simp <;> (try with_reducible rfl)
                try simp only [Act.put, List.setIfInBounds_toArray, List.set_cons_zero, List.set_cons_succ]
                refine wpAnyH_take (i := 6) (oi := { dst := some 93, op := Op.move (Operand.tmp 8), type := 33, pos := "law.go:76", after := #[{ on := 3, ground := Ground.guard }], guard := some (3, false) }) (v := ?_) rfl (by kernel_rfl) (by kernel_rfl) (by kernel_rfl) (fun _ _ _ h => h) (Or.inl ⟨by rfl, ?_⟩) (by assumption) ?_
                rotate_left
                · intro w hSw; (try dsimp only at hSw); go_simp <;> (try with_reducible rfl)
                try simp only [Act.put, List.setIfInBounds_toArray, List.set_cons_zero, List.set_cons_succ]
                refine wpAnyH_take (i := 7) (oi := { dst := some 94, op := Op.nilCheck (Operand.tmp 93), type := 0, pos := "law.go:76", after := #[{ on := 6, ground := Ground.data }, { on := 3, ground := Ground.guard }], guard := some (3, false) }) (v := ?_) rfl (by kernel_rfl) (by kernel_rfl) (by kernel_rfl) (fun _ _ _ h => h) (Or.inl ⟨by rfl, ?_⟩) (by assumption) ?_
                rotate_left
                · intro w hSw; (try dsimp only at hSw); go_simp <;> (try with_reducible rfl)
                try simp only [Act.put, List.setIfInBounds_toArray, List.set_cons_zero, List.set_cons_succ]
                refine wpAnyH_take (i := 8) (oi := { dst := some 95, op := Op.fieldAddr 35 (Operand.tmp 94) 1, type := 0, pos := "law.go:76", after := #[{ on := 7, ground := Ground.data }, { on := 3, ground := Ground.guard }], guard := some (3, false) }) (v := ?_) rfl (by kernel_rfl) (by kernel_rfl) (by kernel_rfl) (fun _ _ _ h => h) (Or.inl ⟨by rfl, ?_⟩) (by assumption) ?_
                rotate_left
                · intro w hSw; (try dsimp only at hSw); go_simp <;> (try with_reducible rfl)
                try simp only [Act.put, List.setIfInBounds_toArray, List.set_cons_zero, List.set_cons_succ]
                refine wpAnyH_take (i := 9) (oi := { dst := some 96, op := Op.load 2 (Operand.tmp 95), type := 2, pos := "law.go:76", after := #[{ on := 8, ground := Ground.data }, { on := 3, ground := Ground.guard }], guard := some (3, false) }) (v := ?_) rfl (by kernel_rfl) (by kernel_rfl) (by kernel_rfl) (fun _ _ _ h => h) (Or.inl ⟨by rfl, ?_⟩) (by assumption) ?_
                rotate_left
                · intro w hSw; (try dsimp only at hSw); go_simp <;> (try with_reducible rfl)
                try simp only [Act.put, List.setIfInBounds_toArray, List.set_cons_zero, List.set_cons_succ]
                refine wpAnyH_ready (rs := [5]) (by kernel_rfl) (by simp) ?_
                refine AllReadyH.cons (o := { dst := some 92, op := Op.call { callee := Callee.value (Operand.func 14), args := #[Operand.tmp 91], argTypes := #[31] }, type := 2, pos := "law.go:76", after := #[{ on := 4, ground := Ground.data }, { on := 3, ground := Ground.chain }, { on := 3, ground := Ground.guard }], guard := some (3, false) }) rfl (fun K hK => ?_) ?_
                rotate_left
                · exact AllReadyH.nil
                go_simp
                refine (wrOffset wb st1.content.length _ _ _ (by first | exact HB4.out.w | exact Blk.drew HB4.out.w)).mono ?_
                rintro e w6 ⟨rfl, rfl⟩
                go_wp2_with fail
                refine hK.out _ _ ?_ (fun hHeld => ?_)
                · exact ⟨e1, e2, HCv.out⟩
                clear hK K
                try simp only [Act.put, List.setIfInBounds_toArray, List.set_cons_zero, List.set_cons_succ]
                refine wpAnyH_take (i := 10) (oi := { dst := some 97, op := Op.binOp BinOp.neq 2 (Operand.tmp 92) (Operand.tmp 96) 2, type := 4, pos := "law.go:76", after := #[{ on := 5, ground := Ground.data }, { on := 9, ground := Ground.data }, { on := 3, ground := Ground.guard }], guard := some (3, false) }) (v := ?_) rfl (by kernel_rfl) (by kernel_rfl) (by kernel_rfl) (fun _ _ _ h => h) (Or.inl ⟨by rfl, ?_⟩) (by assumption) ?_
                rotate_left
                · intro w hSw; (try dsimp only at hSw); go_simp <;> (try with_reducible rfl)
                try simp only [Act.put, List.setIfInBounds_toArray, List.set_cons_zero, List.set_cons_succ]
                refine wpAnyH_take (i := 11) (oi := { dst := some 98, op := Op.pick (Operand.tmp 90) (Operand.const (Value.bool true)) (Operand.tmp 97), type := 4, pos := "law.go:76", after := #[{ on := 3, ground := Ground.data }, { on := 10, ground := Ground.data }], guard := none }) (v := ?_) rfl (by kernel_rfl) (by kernel_rfl) (by kernel_rfl) (fun _ _ _ h => h) (Or.inl ⟨by rfl, ?_⟩) (by assumption) ?_
                rotate_left
                · intro w hSw; (try dsimp only at hSw); go_simp <;> (try with_reducible rfl)
                try simp only [Act.put, List.setIfInBounds_toArray, List.set_cons_zero, List.set_cons_succ]
                refine wpAnyH_take (i := 12) (oi := { dst := some 99, op := Op.move (Operand.tmp 98), type := 4, pos := "law.go:76", after := #[{ on := 11, ground := Ground.data }, { on := 5, ground := Ground.chain }], guard := none }) (v := ?_) rfl (by kernel_rfl) (by kernel_rfl) (by kernel_rfl) (fun _ _ _ h => h) (Or.inl ⟨by rfl, ?_⟩) (by assumption) ?_
                rotate_left
                · intro w hSw; (try dsimp only at hSw); go_simp <;> (try with_reducible rfl)
                try simp only [Act.put, List.setIfInBounds_toArray, List.set_cons_zero, List.set_cons_succ]
                refine wpAnyH_take (i := 13) (oi := { dst := some 100, op := Op.move (Operand.tmp 5), type := 27, pos := "law.go:76", after := #[{ on := 12, ground := Ground.guard }], guard := some (12, false) }) (v := ?_) rfl (by kernel_rfl) (by kernel_rfl) (by kernel_rfl) (fun _ _ _ h => h) (Or.inl ⟨by rfl, ?_⟩) (by assumption) ?_
                rotate_left
                · intro w hSw; (try dsimp only at hSw); go_simp <;> (try with_reducible rfl)
                try simp only [Act.put, List.setIfInBounds_toArray, List.set_cons_zero, List.set_cons_succ]
                refine wpAnyH_take (i := 16) (oi := { dst := some 103, op := Op.move (Operand.tmp 6), type := 29, pos := "law.go:76", after := #[{ on := 12, ground := Ground.guard }], guard := some (12, false) }) (v := ?_) rfl (by kernel_rfl) (by kernel_rfl) (by kernel_rfl) (fun _ _ _ h => h) (Or.inl ⟨by rfl, ?_⟩) (by assumption) ?_
                rotate_left
                · intro w hSw; (try dsimp only at hSw); go_simp <;> (try with_reducible rfl)
                try simp only [Act.put, List.setIfInBounds_toArray, List.set_cons_zero, List.set_cons_succ]
                refine wpAnyH_take (i := 17) (oi := { dst := some 104, op := Op.nilCheck (Operand.tmp 103), type := 0, pos := "law.go:76", after := #[{ on := 16, ground := Ground.data }, { on := 12, ground := Ground.guard }], guard := some (12, false) }) (v := ?_) rfl (by kernel_rfl) (by kernel_rfl) (by kernel_rfl) (fun _ _ _ h => h) (Or.inl ⟨by rfl, ?_⟩) (by assumption) ?_
                rotate_left
                · intro w hSw; (try dsimp only at hSw); go_simp <;> (try with_reducible rfl)
                try simp only [Act.put, List.setIfInBounds_toArray, List.set_cons_zero, List.set_cons_succ]
                refine wpAnyH_take (i := 18) (oi := { dst := some 105, op := Op.fieldAddr 49 (Operand.tmp 104) 0, type := 0, pos := "law.go:76", after := #[{ on := 17, ground := Ground.data }, { on := 12, ground := Ground.guard }], guard := some (12, false) }) (v := ?_) rfl (by kernel_rfl) (by kernel_rfl) (by kernel_rfl) (fun _ _ _ h => h) (Or.inl ⟨by rfl, ?_⟩) (by assumption) ?_
                rotate_left
                · intro w hSw; (try dsimp only at hSw); go_simp <;> (try with_reducible rfl)
                try simp only [Act.put, List.setIfInBounds_toArray, List.set_cons_zero, List.set_cons_succ]
                refine wpAnyH_take (i := 19) (oi := { dst := some 106, op := Op.load 36 (Operand.tmp 105), type := 36, pos := "law.go:76", after := #[{ on := 18, ground := Ground.data }, { on := 12, ground := Ground.guard }], guard := some (12, false) }) (v := ?_) rfl (by kernel_rfl) (by kernel_rfl) (by kernel_rfl) (fun _ _ _ h => h) (Or.inl ⟨by rfl, ?_⟩) (by assumption) ?_
                rotate_left
                · intro w hSw; (try dsimp only at hSw); go_simp <;> (try with_reducible rfl)
                try simp only [Act.put, List.setIfInBounds_toArray, List.set_cons_zero, List.set_cons_succ]
                refine wpAnyH_take (i := 20) (oi := { dst := some 107, op := Op.convert 36 9 (Operand.tmp 106), type := 9, pos := "law.go:76", after := #[{ on := 19, ground := Ground.data }, { on := 12, ground := Ground.guard }], guard := some (12, false) }) (v := ?_) rfl (by kernel_rfl) (by kernel_rfl) (by kernel_rfl) (fun _ _ _ h => h) (Or.inl ⟨by rfl, ?_⟩) (by assumption) ?_
                rotate_left
                · intro w hSw; (try dsimp only at hSw); go_simp <;> (try with_reducible rfl)
                try simp only [Act.put, List.setIfInBounds_toArray, List.set_cons_zero, List.set_cons_succ]
                refine wpAnyH_ready (rs := [14]) (by kernel_rfl) (by simp) ?_
                refine AllReadyH.cons (o := { dst := some 101, op := Op.call { callee := Callee.value (Operand.func 15), args := #[Operand.tmp 100], argTypes := #[27] }, type := 36, pos := "law.go:76", after := #[{ on := 13, ground := Ground.data }, { on := 12, ground := Ground.chain }, { on := 12, ground := Ground.guard }], guard := some (12, false) }) rfl (fun K hK => ?_) ?_
                rotate_left
                · exact AllReadyH.nil
                go_simp
                refine (sinkBytes sb u1 CA1 cc1 st1 _ (by first | exact HB4.out.s.drewN 1 | exact HB4.out.s) hcon).mono ?_
                rintro e w5 ⟨BA, bc, rfl, y1, y2⟩
                have hcv5 := conv_law w5 BA _ bc _ y1
                have Y2 := Lib.hid y2.of_drew
                clear y1 y2
                go_wp2_with fail
                refine hK.out _ _ ?_ (fun hHeld => ?_)
                · exact ⟨cell_keep Y2.out e1, cell_keep Y2.out e2, conv_law w5 VA _ vc _ (own_chg HRow.out Y2.out (fun _ _ h => h))⟩
                clear hK K
                try simp only [Act.put, List.setIfInBounds_toArray, List.set_cons_zero, List.set_cons_succ]
                refine wpAnyH_ready (rs := [15]) (by kernel_rfl) (by simp) ?_
                refine AllReadyH.cons (o := { dst := some 102, op := Op.convert 36 9 (Operand.tmp 101), type := 9, pos := "law.go:76", after := #[{ on := 14, ground := Ground.data }, { on := 12, ground := Ground.guard }], guard := some (12, false) }) rfl (fun K hK => ?_) ?_
                rotate_left
                · exact AllReadyH.nil
                go_simp
                refine hK.out _ _ ?_ (fun hHeld => ?_)
                · exact ⟨cell_keep Y2.out e1, cell_keep Y2.out e2, conv_law w5 VA _ vc _ (own_chg HRow.out Y2.out (fun _ _ h => h))⟩
                clear hK K
                try simp only [Act.put, List.setIfInBounds_toArray, List.set_cons_zero, List.set_cons_succ]
                refine wpAnyH_take (i := 21) (oi := { dst := some 108, op := Op.binOp BinOp.neq 9 (Operand.tmp 102) (Operand.tmp 107) 9, type := 4, pos := "law.go:76", after := #[{ on := 15, ground := Ground.data }, { on := 20, ground := Ground.data }, { on := 12, ground := Ground.guard }], guard := some (12, false) }) (v := ?_) rfl (by kernel_rfl) (by kernel_rfl) (by kernel_rfl) (fun _ _ _ h => h) (Or.inl ⟨by rfl, ?_⟩) (by assumption) ?_
                rotate_left
                · intro w hSw; (try dsimp only at hSw); go_simp <;> (try with_reducible rfl)
                try simp only [Act.put, List.setIfInBounds_toArray, List.set_cons_zero, List.set_cons_succ]
                refine wpAnyH_take (i := 22) (oi := { dst := some 109, op := Op.pick (Operand.tmp 99) (Operand.const (Value.bool true)) (Operand.tmp 108), type := 4, pos := "law.go:76", after := #[{ on := 12, ground := Ground.data }, { on := 21, ground := Ground.data }], guard := none }) (v := ?_) rfl (by kernel_rfl) (by kernel_rfl) (by kernel_rfl) (fun _ _ _ h => h) (Or.inl ⟨by rfl, ?_⟩) (by assumption) ?_
                rotate_left
                · intro w hSw; (try dsimp only at hSw); go_simp <;> (try with_reducible rfl)
                try simp only [Act.put, List.setIfInBounds_toArray, List.set_cons_zero, List.set_cons_succ]
                refine wpAnyH_done (by kernel_rfl) ?_ _
                refine NoPanic.normal ?_
                go_wp2_with fail
                go_roundw
                case rel => exact ⟨⟨j + 1, u1, u2, st1, err1, by go_num, by omega, HB4.out.keep Y2.out, by omega⟩⟩
                case measure => simp [intOf]; omega
    · obtain rfl : j = acts.length := by omega
      have hch := hB.chg
      have HCh := Lib.hid hch
      clear hch hB hst
      go_wp2_with (go_at_call 4; refine (HAl.out _).mono ?_; rintro e w9 ⟨rfl, y1⟩)
      go_ret
      exact ⟨rfl, HCh.out.trans y1 (fun _ _ h => h) (fun _ _ h => h)⟩
end Go.Proofs.Ytgbpoehhikiieaa
