/- The walk of the statement BaseArgs: squares of other levels, no store, and no room. -/
import Derived.Test.YtjiliiclebdbfaaBaseP
import Derived.Test.YtjiliiclebdbfaaStoreArgs
import Derived.Test.YtjiliiclebdbfaaQuadB
import Derived.Test.YtjiliiclebdbfaaQuadNone
namespace Go.Proofs.Ytjiliiclebdbfaa
open Go.RowKit
set_option linter.unusedVariables false
set_option linter.unusedSimpArgs false
attribute [local go_sem] eqGuard_errV neq_errV eql_errV

/-- A square of four by four in a store of forty, and four of it. -/
theorem args_up (f : Nat) {E U : Res} (hE : squareN twoN 40 f = E) (hU : makeN E.2.2 40 ⟨E.1, E.1, E.1, E.1⟩ = U) :
    E.2.1 = 0 ∧ E.1 < 4294967296 ∧ U.2.1 = 0 ∧ U.1 < 4294967296 ∧ ∀ i, i < 4 → kid ⟨0, 1, U.1, 99⟩ i < 4294967296 ∧ ¬ lvlN U.2.2 (kid ⟨0, 1, U.1, 99⟩ i) = 2 := by
  have d := square_done (most := 40) f StOk.fresh
  rw [show [deadN, aliveN] = twoN from rfl, hE] at d
  have dl := d.len
  have e2 : twoN.length = 2 := rfl
  have e0 : E.2.1 = 0 := by
    apply Classical.byContradiction
    intro h
    have := (d.no h).2.2
    omega
  obtain ⟨el, -⟩ := d.yes e0
  have u := make_done (most := 40) (k := ⟨E.1, E.1, E.1, E.1⟩) d.ok (show 2 < 62 by omega) (fun i => by match i with | 0 => exact el | 1 => exact el | 2 => exact el | i + 3 => exact el)
  rw [hU] at u
  have ul := u.len
  have u0 : U.2.1 = 0 := by
    apply Classical.byContradiction
    intro h
    have := (u.no h).2.2
    omega
  obtain ⟨ull, -⟩ := u.yes u0
  have hE1 := lvlN_lt (show 0 ≤ lvlN E.2.2 E.1 by rw [el]; omega)
  have hU1 := lvlN_lt (show 0 ≤ lvlN U.2.2 U.1 by rw [ull]; omega)
  have h0 := lvl_bit u.ok (x := 0) (by omega)
  have h1 := lvl_bit u.ok (x := 1) (by omega)
  have h9 : ¬ lvlN U.2.2 99 = 2 := fun h => by
    have := lvlN_lt (show 0 ≤ lvlN U.2.2 99 by omega)
    omega
  refine ⟨e0, by omega, u0, by omega, fun i hi => ?_⟩
  match i, hi with
  | 0, _ => exact ⟨by show 0 < _; omega, by show ¬ lvlN U.2.2 0 = 2; omega⟩
  | 1, _ => exact ⟨by show 1 < _; omega, by show ¬ lvlN U.2.2 1 = 2; omega⟩
  | 2, _ => exact ⟨by show U.1 < _; omega, by show ¬ lvlN U.2.2 U.1 = 2; omega⟩
  | 3, _ => exact ⟨by show 99 < _; omega, h9⟩
set_option maxRecDepth 20000 in
set_option maxHeartbeats 4000000 in
theorem baseArgs_walk (f room : Nat) (hf : f < 65536) (hr : room < 256) (w : World) : Calls Try.prog 7 #[.int .u16 f, .int .u8 room] w fun e w' => e = .returned (.bool true) ∧ Below w.heap.size w w' := by
  have HN := Lib.hid fun W => (show Calls Try.prog 15 #[.int .i64 40] W _ from new_in W 40 (by omega) (by omega))
  obtain ⟨g1, g2, g3, g4, g5⟩ := args_up f rfl rfl
  have HS := Lib.hid fun S (W W0 : World) (h : St W0.heap.size W S twoN 40) => (show Calls Try.prog 25 #[.pointer (some ⟨S, 0, none⟩), .int .u16 f] W fun e w' => e = .returned (.tuple #[.int .u32 (squareN twoN 40 f).1, .nilIface]) ∧ Left W0.heap.size S 40 (squareN twoN 40 f).2.2 W w' by
    have := square_any h f hf
    rw [g1, errV0] at this
    exact this)
  have HSN := Lib.hid fun W => square_nil W f hf
  have HM := Lib.hid fun S (W W0 : World) (h : St W0.heap.size W S (squareN twoN 40 f).2.2 40) => (show Calls Try.prog 31 #[.pointer (some ⟨S, 0, none⟩), .agg #[.int .u32 (squareN twoN 40 f).1, .int .u32 (squareN twoN 40 f).1, .int .u32 (squareN twoN 40 f).1, .int .u32 (squareN twoN 40 f).1]] W fun e w' => e = .returned (.tuple #[.int .u32 (makeN (squareN twoN 40 f).2.2 40 ⟨(squareN twoN 40 f).1, (squareN twoN 40 f).1, (squareN twoN 40 f).1, (squareN twoN 40 f).1⟩).1, .nilIface]) ∧ Left W0.heap.size S 40 (makeN (squareN twoN 40 f).2.2 40 ⟨(squareN twoN 40 f).1, (squareN twoN 40 f).1, (squareN twoN 40 f).1, (squareN twoN 40 f).1⟩).2.2 W w' by
    have := make_l h (squareN twoN 40 f).1 (squareN twoN 40 f).1 (squareN twoN 40 f).1 (squareN twoN 40 f).1 g2 g2 g2 g2
    rw [g3, errV0] at this
    exact this)
  generalize makeN (squareN twoN 40 f).2.2 40 ⟨(squareN twoN 40 f).1, (squareN twoN 40 f).1, (squareN twoN 40 f).1, (squareN twoN 40 f).1⟩ = U at *
  generalize squareN twoN 40 f = E at *
  have HRD := Lib.hid fun S (W W1 W0 : World) (h : St W0.heap.size W1 S U.2.2 40) (b : Below W1.heap.size W1 W) i (hi : i < 4) => read_no (h.below b) (kid ⟨0, 1, U.1, 99⟩ i) (g5 i hi).1 (g5 i hi).2
  have HNX := Lib.hid fun S (W W1 W0 : World) (h : St W0.heap.size W1 S U.2.2 40) (b : Below W1.heap.size W1 W) i (hi : i < 4) => next_no (h.below b) (kid ⟨0, 1, U.1, 99⟩ i) (g5 i hi).1 (g5 i hi).2
  have HRN := Lib.hid fun W => read_nil W E.1 g2
  have HXN := Lib.hid fun W => next_nil W E.1 g2
  have HF := Lib.hid hf
  have HN2 := Lib.hid fun W => (show Calls Try.prog 15 #[.int .i64 (2 + (room : Int) % 8)] W _ by
    have := new_in W (2 + room % 8) (by omega) (by omega)
    rw [show ((2 + room % 8 : Nat) : Int) = 2 + (room : Int) % 8 by omega] at this
    exact this)
  have i1 : isB (.num 1) [1] = true := by decide
  have q := neq_e1b
  have q3 := fun w => eql_nil_nil (P := Try.prog) w (ti := 27) Try.underlying27
  clear g1 g2 g3 g4 g5 hf
  go_enter Try.func7, Try.ntmps7
  go_wp2_with ((go_at_call 19); (with_reducible refine (lives9 _).mono ?_); rintro e w1 ⟨rfl, hb_w1⟩; obtain ⟨hc, hf⟩ := bcell hb_w1; have hz := hb_w1.size; (try simp only [World.size_alloc, World.size_setCell, World.size_drew] at hz); (first | (with_reducible have hl := lt_rule6 hz) | (with_reducible have hl := lt_rule5 hz) | (with_reducible have hl := lt_rule4 hz) | (with_reducible have hl := lt_rule3 hz) | (with_reducible have hl := lt_rule2 hz) | (with_reducible have hl := lt_rule1 hz) | have hl := lt_rule0 hz); (try (have hz0 : w.heap.size < w1.heap.size := by omega)); (try (have hz1 : w.heap.size + 1 < w1.heap.size := by omega)); (try (have hz2 : w.heap.size + 1 + 1 < w1.heap.size := by omega)); (try (have hz3 : w.heap.size + 1 + 1 + 1 < w1.heap.size := by omega)); (try (have hz4 : w.heap.size + 1 + 1 + 1 + 1 < w1.heap.size := by omega)))
  have B1 := Lib.hid (show Below w.heap.size w w1 from by (repeat' (first | (with_reducible exact Below.refl _ _) | (with_reducible assumption) | (with_reducible exact Hid.out (by assumption)) | (with_reducible refine below_a ?_ _) | (with_reducible refine below_dn ?_ _) | (with_reducible refine below_c ?_ (by assumption)) | (with_reducible refine below_d ?_) | (with_reducible refine Below.setCell ?_ ?_ _) | (with_reducible refine Below.alloc ?_ ?_ _) | (with_reducible refine below_call ?_ ?_ (by assumption)) | (with_reducible refine Below.drew ?_) | go_size | ((try simp only [World.size_alloc, World.size_setCell, World.size_drew] at *); omega))))
  go_wp2_with ((go_at_call 15); (with_reducible refine (HN.out w1).mono ?_); rintro e w3 ⟨S, rfl, h3, b3⟩; have H3 := Lib.hid h3; have B3 := Lib.hid (below_c B1.out b3); clear h3 b3)
  go_wp2_with ((go_at_call 25); (with_reducible refine (HS.out S w3 w1 H3.out).mono ?_); rintro e w4 ⟨rfl, k4⟩; have H4 := Lib.hid k4.st; have B4 := Lib.hid (B3.out.trans ((Left.low k4 H3.out).mono B1.out.size)); clear k4)
  go_wp2_with ((go_at_call 31); (with_reducible refine (HM.out S w4 w1 H4.out).mono ?_); rintro e w5 ⟨rfl, k5⟩; have H5 := Lib.hid k5.st; have B5 := Lib.hid (B4.out.trans ((Left.low k5 H4.out).mono B1.out.size)); clear k5)
  have pS := Lib.hid (Pt.new w5 (kArr ⟨0, 1, U.1, 99⟩) 31)
  have HB := Lib.hid (below_a B5.out (.cells (kArr ⟨0, 1, U.1, 99⟩) 31))
  have HT := Lib.hid (Left.alloc (Left.of H5.out (Below.refl _ _)) (.cells (kArr ⟨0, 1, U.1, 99⟩) 31))
  have ek : kArr ⟨0, 1, U.1, 99⟩ = #[.int .u32 0, .int .u32 1, .int .u32 U.1, .int .u32 99] := rfl
  rw [ek] at pS HB HT
  have HH := Lib.hid HT.out.st
  clear HT H3 H4 H5 B1 B3 B4 B5 hb_w1
  generalize w5.heap.size = sb at *
  generalize w5.alloc (.cells #[.int .u32 0, .int .u32 1, .int .u32 U.1, .int .u32 99] 31) = W6 at *
  go_loopw [52] (fun v wr => ∃ i : Nat, i ≤ 4 ∧ v = .int .i64 i ∧ Hid (Pt wr sb (kArr ⟨0, 1, U.1, 99⟩) 31) ∧ Hid (St w1.heap.size wr S U.2.2 40) ∧ Hid (Below w.heap.size w wr)) (fun v _ => 4 - (intOf v).toNat)
  case atStart => exact ⟨0, by omega, rfl, pS, HH, HB⟩
  case round =>
    obtain ⟨i, hi, rfl, pS1, HH1, HB1⟩ := hrel
    clear pS HH HB ek
    by_cases hlt : i < 4
    · have HI := Lib.hid hlt
      have i0 : (0 : Int) ≤ (i : Int) := by omega
      have i1' : (i : Int) < 4 := by omega
      have ck : wr.cell? ⟨sb, i, none⟩ = some (.int .u32 (kid ⟨0, 1, U.1, 99⟩ i)) := by rw [pS1.out.cell]; exact kArr_get _ i hlt
      have HD := Lib.hid (HRD.out S wr wr w1 HH1.out (Below.refl _ _) i hlt)
      have HX := Lib.hid fun W (b : Below wr.heap.size wr W) => HNX.out S W wr w1 HH1.out b i HI.out
      have HM := Lib.hid (show 4 - (i + 1) < 4 - i by omega)
      clear hlt hi
      generalize kid ⟨0, 1, U.1, 99⟩ i = x at *
      go_wp2_with (first | ((go_at_call 26); (with_reducible refine HD.out.mono ?_); rintro e w7 ⟨rfl, hb_w7⟩; obtain ⟨hc, hf⟩ := bcell hb_w7; have hz := hb_w7.size; (try simp only [World.size_alloc, World.size_setCell, World.size_drew] at hz); (first | (with_reducible have hl := lt_rule6 hz) | (with_reducible have hl := lt_rule5 hz) | (with_reducible have hl := lt_rule4 hz) | (with_reducible have hl := lt_rule3 hz) | (with_reducible have hl := lt_rule2 hz) | (with_reducible have hl := lt_rule1 hz) | have hl := lt_rule0 hz); (try (have hz0 : w.heap.size < w7.heap.size := by omega)); (try (have hz1 : w.heap.size + 1 < w7.heap.size := by omega)); (try (have hz2 : w.heap.size + 1 + 1 < w7.heap.size := by omega)); (try (have hz3 : w.heap.size + 1 + 1 + 1 < w7.heap.size := by omega)); (try (have hz4 : w.heap.size + 1 + 1 + 1 + 1 < w7.heap.size := by omega))) | ((go_at_call 27); (with_reducible refine (HX.out _ (by (repeat' (first | (with_reducible exact Below.refl _ _) | (with_reducible assumption) | (with_reducible exact Hid.out (by assumption)) | (with_reducible refine below_a ?_ _) | (with_reducible refine below_dn ?_ _) | (with_reducible refine below_c ?_ (by assumption)) | (with_reducible refine below_d ?_) | (with_reducible refine Below.setCell ?_ ?_ _) | (with_reducible refine Below.alloc ?_ ?_ _) | (with_reducible refine below_call ?_ ?_ (by assumption)) | (with_reducible refine Below.drew ?_) | go_size | ((try simp only [World.size_alloc, World.size_setCell, World.size_drew] at *); omega))))).mono ?_); rintro e w8 ⟨rfl, hb_w8⟩; obtain ⟨hc, hf⟩ := bcell hb_w8; have hz := hb_w8.size; (try simp only [World.size_alloc, World.size_setCell, World.size_drew] at hz); (first | (with_reducible have hl := lt_rule6 hz) | (with_reducible have hl := lt_rule5 hz) | (with_reducible have hl := lt_rule4 hz) | (with_reducible have hl := lt_rule3 hz) | (with_reducible have hl := lt_rule2 hz) | (with_reducible have hl := lt_rule1 hz) | have hl := lt_rule0 hz); (try (have hz0 : w.heap.size < w8.heap.size := by omega)); (try (have hz1 : w.heap.size + 1 < w8.heap.size := by omega)); (try (have hz2 : w.heap.size + 1 + 1 < w8.heap.size := by omega)); (try (have hz3 : w.heap.size + 1 + 1 + 1 < w8.heap.size := by omega)); (try (have hz4 : w.heap.size + 1 + 1 + 1 + 1 < w8.heap.size := by omega))) | ((go_at_call 29); (with_reducible refine (is1_num 1 1 _ _ rfl true i1).mono ?_); rintro e w9 ⟨rfl, rfl⟩) | ((go_at_call 29); (with_reducible refine (is1_num 1 1 _ _ (sz1 _ _) true i1).mono ?_); rintro e w9 ⟨rfl, rfl⟩))
      have HW := Lib.hid (show Below wr.heap.size wr ((w8.alloc (.cells #[.int .i64 1] 60)).alloc (.cells #[.int .i64 1] 60)) from by (repeat' (first | (with_reducible exact Below.refl _ _) | (with_reducible assumption) | (with_reducible exact Hid.out (by assumption)) | (with_reducible refine below_a ?_ _) | (with_reducible refine below_dn ?_ _) | (with_reducible refine below_c ?_ (by assumption)) | (with_reducible refine below_d ?_) | (with_reducible refine Below.setCell ?_ ?_ _) | (with_reducible refine Below.alloc ?_ ?_ _) | (with_reducible refine below_call ?_ ?_ (by assumption)) | (with_reducible refine Below.drew ?_) | go_size | ((try simp only [World.size_alloc, World.size_setCell, World.size_drew] at *); omega))))
      refine ⟨⟨i + 1, by have := HI.out; omega, by go_num, Lib.hid ((((pS1.out.keep hb_w7).keep hb_w8).alloc _).alloc _), Lib.hid (HH1.out.below HW.out), Lib.hid (HB1.out.trans (HW.out.mono HB1.out.size))⟩, by have := HM.out; simp [intOf]; omega⟩
    · obtain rfl : i = 4 := by omega
      clear hlt hi
      go_wp2_with (first | ((go_at_call 25); (with_reducible refine (HSN.out _).mono ?_); rintro e w7 ⟨rfl, hb_w7⟩; obtain ⟨hc, hf⟩ := bcell hb_w7; have hz := hb_w7.size; (try simp only [World.size_alloc, World.size_setCell, World.size_drew] at hz); (first | (with_reducible have hl := lt_rule6 hz) | (with_reducible have hl := lt_rule5 hz) | (with_reducible have hl := lt_rule4 hz) | (with_reducible have hl := lt_rule3 hz) | (with_reducible have hl := lt_rule2 hz) | (with_reducible have hl := lt_rule1 hz) | have hl := lt_rule0 hz); (try (have hz0 : w.heap.size < w7.heap.size := by omega)); (try (have hz1 : w.heap.size + 1 < w7.heap.size := by omega)); (try (have hz2 : w.heap.size + 1 + 1 < w7.heap.size := by omega)); (try (have hz3 : w.heap.size + 1 + 1 + 1 < w7.heap.size := by omega)); (try (have hz4 : w.heap.size + 1 + 1 + 1 + 1 < w7.heap.size := by omega))) | ((go_at_call 26); (with_reducible refine (HRN.out _).mono ?_); rintro e w8 ⟨rfl, hb_w8⟩; obtain ⟨hc, hf⟩ := bcell hb_w8; have hz := hb_w8.size; (try simp only [World.size_alloc, World.size_setCell, World.size_drew] at hz); (first | (with_reducible have hl := lt_rule6 hz) | (with_reducible have hl := lt_rule5 hz) | (with_reducible have hl := lt_rule4 hz) | (with_reducible have hl := lt_rule3 hz) | (with_reducible have hl := lt_rule2 hz) | (with_reducible have hl := lt_rule1 hz) | have hl := lt_rule0 hz); (try (have hz0 : w.heap.size < w8.heap.size := by omega)); (try (have hz1 : w.heap.size + 1 < w8.heap.size := by omega)); (try (have hz2 : w.heap.size + 1 + 1 < w8.heap.size := by omega)); (try (have hz3 : w.heap.size + 1 + 1 + 1 < w8.heap.size := by omega)); (try (have hz4 : w.heap.size + 1 + 1 + 1 + 1 < w8.heap.size := by omega))) | ((go_at_call 27); (with_reducible refine (HXN.out _).mono ?_); rintro e w9 ⟨rfl, hb_w9⟩; obtain ⟨hc, hf⟩ := bcell hb_w9; have hz := hb_w9.size; (try simp only [World.size_alloc, World.size_setCell, World.size_drew] at hz); (first | (with_reducible have hl := lt_rule6 hz) | (with_reducible have hl := lt_rule5 hz) | (with_reducible have hl := lt_rule4 hz) | (with_reducible have hl := lt_rule3 hz) | (with_reducible have hl := lt_rule2 hz) | (with_reducible have hl := lt_rule1 hz) | have hl := lt_rule0 hz); (try (have hz0 : w.heap.size < w9.heap.size := by omega)); (try (have hz1 : w.heap.size + 1 < w9.heap.size := by omega)); (try (have hz2 : w.heap.size + 1 + 1 < w9.heap.size := by omega)); (try (have hz3 : w.heap.size + 1 + 1 + 1 < w9.heap.size := by omega)); (try (have hz4 : w.heap.size + 1 + 1 + 1 + 1 < w9.heap.size := by omega))))
      have HB9 := Lib.hid (HB1.out.trans ((show Below wr.heap.size wr w9 from by (repeat' (first | (with_reducible exact Below.refl _ _) | (with_reducible assumption) | (with_reducible exact Hid.out (by assumption)) | (with_reducible refine below_a ?_ _) | (with_reducible refine below_dn ?_ _) | (with_reducible refine below_c ?_ (by assumption)) | (with_reducible refine below_d ?_) | (with_reducible refine Below.setCell ?_ ?_ _) | (with_reducible refine Below.alloc ?_ ?_ _) | (with_reducible refine below_call ?_ ?_ (by assumption)) | (with_reducible refine Below.drew ?_) | go_size | ((try simp only [World.size_alloc, World.size_setCell, World.size_drew] at *); omega)))).mono HB1.out.size))
      by_cases hG : (squareN twoN (2 + room % 8) f).2.1 = 0
      · have HS2 := Lib.hid fun S (W W0 : World) (h : St W0.heap.size W S twoN (2 + room % 8)) => (show Calls Try.prog 25 #[.pointer (some ⟨S, 0, none⟩), .int .u16 f] W fun e w' => e = .returned (.tuple #[.int .u32 (squareN twoN (2 + room % 8) f).1, .nilIface]) ∧ Left W0.heap.size S (2 + room % 8) (squareN twoN (2 + room % 8) f).2.2 W w' by
          have := square_any h f HF.out
          rw [hG, errV0] at this
          exact this)
        clear hG
        go_wp2_with ((go_at_call 15); (with_reducible refine (HN2.out w9).mono ?_); rintro e wa ⟨S2, rfl, ha, ba⟩; have Ha := Lib.hid ha; have Ba := Lib.hid (below_c HB9.out ba); clear ha ba)
        go_wp2_with ((go_at_call 25); (with_reducible refine (HS2.out S2 wa w9 Ha.out).mono ?_); rintro e wb ⟨rfl, kb⟩; have Bb := Lib.hid (Ba.out.trans ((Left.low kb Ha.out).mono HB9.out.size)); clear kb)
        go_wp2_with (first | ((go_at_call 29); (with_reducible refine (is1_num 1 1 _ _ rfl true i1).mono ?_); rintro e wc ⟨rfl, rfl⟩) | ((go_at_call 29); (with_reducible refine (is1_num 1 1 _ _ (sz1 _ _) true i1).mono ?_); rintro e wc ⟨rfl, rfl⟩) | ((go_at_call 29); (with_reducible refine (is1_num 1 1 _ _ (sz2 _ _ _) true i1).mono ?_); rintro e wc ⟨rfl, rfl⟩))
        go_ret
        exact ⟨rfl, Bb.out.trans ((show Below wb.heap.size wb _ from by (repeat' (first | (with_reducible exact Below.refl _ _) | (with_reducible assumption) | (with_reducible exact Hid.out (by assumption)) | (with_reducible refine below_a ?_ _) | (with_reducible refine below_dn ?_ _) | (with_reducible refine below_c ?_ (by assumption)) | (with_reducible refine below_d ?_) | (with_reducible refine Below.setCell ?_ ?_ _) | (with_reducible refine Below.alloc ?_ ?_ _) | (with_reducible refine below_call ?_ ?_ (by assumption)) | (with_reducible refine Below.drew ?_) | go_size | ((try simp only [World.size_alloc, World.size_setCell, World.size_drew] at *); omega)))).mono Bb.out.size)⟩
      · obtain ⟨z1, z2, -⟩ := (square_done (most := 2 + room % 8) f StOk.fresh).no hG
        have z1 : (squareN twoN (2 + room % 8) f).1 = 0 := z1
        have z2 : (squareN twoN (2 + room % 8) f).2.1 = 7 := z2
        have HS2 := Lib.hid fun S (W W0 : World) (h : St W0.heap.size W S twoN (2 + room % 8)) => (show Calls Try.prog 25 #[.pointer (some ⟨S, 0, none⟩), .int .u16 f] W fun e w' => e = .returned (.tuple #[.int .u32 0, .iface 60 (.int .i64 7)]) ∧ Left W0.heap.size S (2 + room % 8) (squareN twoN (2 + room % 8) f).2.2 W w' by
          have := square_any h f HF.out
          rw [z1, z2] at this
          exact this)
        have i7 : isB (.num 7) [7] = true := by decide
        have q7 := fun w => eql_iface_nil (P := Try.prog) w (ti := 27) (ta := 60) (.int .i64 7) Try.underlying27
        clear hG z1 z2
        go_wp2_with ((go_at_call 15); (with_reducible refine (HN2.out w9).mono ?_); rintro e wa ⟨S2, rfl, ha, ba⟩; have Ha := Lib.hid ha; have Ba := Lib.hid (below_c HB9.out ba); clear ha ba)
        go_wp2_with ((go_at_call 25); (with_reducible refine (HS2.out S2 wa w9 Ha.out).mono ?_); rintro e wb ⟨rfl, kb⟩; have Bb := Lib.hid (Ba.out.trans ((Left.low kb Ha.out).mono HB9.out.size)); clear kb)
        go_wp2_with (first | ((go_at_call 29); (with_reducible refine (is1_num 1 1 _ _ rfl true i1).mono ?_); rintro e wc ⟨rfl, rfl⟩) | ((go_at_call 29); (with_reducible refine (is1_num 1 1 _ _ (sz1 _ _) true i1).mono ?_); rintro e wc ⟨rfl, rfl⟩) | ((go_at_call 29); (with_reducible refine (is1_num 1 1 _ _ (sz2 _ _ _) true i1).mono ?_); rintro e wc ⟨rfl, rfl⟩) | ((go_at_call 29); (with_reducible refine (is1_num 7 7 _ _ (sz3 _ _ _ _) true i7).mono ?_); rintro e wc ⟨rfl, rfl⟩))
        go_ret
        exact ⟨rfl, Bb.out.trans ((show Below wb.heap.size wb _ from by (repeat' (first | (with_reducible exact Below.refl _ _) | (with_reducible assumption) | (with_reducible exact Hid.out (by assumption)) | (with_reducible refine below_a ?_ _) | (with_reducible refine below_dn ?_ _) | (with_reducible refine below_c ?_ (by assumption)) | (with_reducible refine below_d ?_) | (with_reducible refine Below.setCell ?_ ?_ _) | (with_reducible refine Below.alloc ?_ ?_ _) | (with_reducible refine below_call ?_ ?_ (by assumption)) | (with_reducible refine Below.drew ?_) | go_size | ((try simp only [World.size_alloc, World.size_setCell, World.size_drew] at *); omega)))).mono Bb.out.size)⟩
theorem u16_wf {n : Int} (h : (Lit.int .u16 n).wf = true) : 0 ≤ n ∧ n ≤ 65535 := by
  have h1 : IntKind.u16.min = 0 := rfl
  have h2 : IntKind.u16.max = 65535 := rfl
  simp only [Lit.wf, Bool.and_eq_true, decide_eq_true_eq] at h
  rw [h1, h2] at h
  exact h
theorem baseArgs_w (a0 a1 : Int) (h0 : (Lit.int .u16 a0).wf = true) (h1 : (Lit.int .u8 a1).wf = true) (w : World) :
    Calls Try.prog 7 #[.int .u16 a0, .int .u8 a1] w fun e w' => e = .returned (.bool true) ∧ Below w.heap.size w w' := by
  have b0 := u16_wf h0
  have b1 := u8_rng h1
  obtain ⟨f, rfl⟩ := Int.eq_ofNat_of_zero_le b0.1
  obtain ⟨r, rfl⟩ := Int.eq_ofNat_of_zero_le b1.1
  exact baseArgs_walk f r (by omega) (by omega) w
end Go.Proofs.Ytjiliiclebdbfaa
