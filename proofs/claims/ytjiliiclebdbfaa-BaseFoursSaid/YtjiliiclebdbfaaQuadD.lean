/- Contracts of package quad: Get. -/
import Derived.Test.YtjiliiclebdbfaaQuadC
import Derived.Deep.LoopGhost
import Derived.Deep.DrawnRows
namespace Go.Proofs.Ytjiliiclebdbfaa
open Go.RowKit
set_option linter.unusedVariables false
set_option linter.unusedSimpArgs false
attribute [local go_sem] eqGuard_errV neq_errV eql_errV
attribute [local go_sem ↓] Go.wp_at_zero Go.wp_at_succ

/-- Is a point of the plane whose square is x, of level l, alive? -/
def planeN (ns : List Nd) (l x : Nat) (X Y : Int) : Bool := hasN ns x X Y && cellN ns l x (X + halfN (lvlN ns x)).toNat (Y + halfN (lvlN ns x)).toNat
theorem has_lt {ns : List Nd} {x l : Nat} {X Y : Int} (hl : lvlN ns x = (l : Int) + 1) (h : hasN ns x X Y = true) : (X + halfN (lvlN ns x)).toNat < 2 ^ (l + 1) ∧ (Y + halfN (lvlN ns x)).toNat < 2 ^ (l + 1) := by
  unfold hasN at h
  simp only [Bool.and_eq_true, decide_eq_true_eq] at h
  have e : halfN (lvlN ns x) = 2 ^ l := by unfold halfN; rw [hl]; congr 1; omega
  rw [e] at h ⊢
  have : 2 ^ (l + 1) = 2 ^ l + 2 ^ l := by rw [Nat.pow_succ]; omega
  omega
section
variable {base S : Nat} {w : World} {ns : List Nd} {most : Nat}
theorem get_out (h : St base w S ns most) (x : Nat) (hx : x < ns.length) (X Y : Int) (hp : hasN ns x X Y = false) :
    Calls Try.prog 50 #[.agg #[.pointer (some ⟨S, 0, none⟩), .int .u32 x], .agg #[.int .i64 (X), .int .i64 (Y)]] w fun e w' => e = .returned (.bool false) ∧ Below w.heap.size w w' := by
  have h2 := h.two
  have H := Lib.hid h
  have HX := Lib.hid (show x < 4294967296 by omega)
  have hd : decide (x < ns.length) = true := decide_eq_true hx
  clear h h2 hx
  go_enter Try.func50, Try.ntmps50
  go_wp2_with (first | ((go_at_call 35); (with_reducible refine (is_st (H.out.below (by (repeat' (first | (with_reducible exact Below.refl _ _) | (with_reducible assumption) | (with_reducible exact Hid.out (by assumption)) | (with_reducible refine below_a ?_ _) | (with_reducible refine below_dn ?_ _) | (with_reducible refine below_c ?_ (by assumption)) | (with_reducible refine below_d ?_) | (with_reducible refine Below.setCell ?_ ?_ _) | (with_reducible refine Below.alloc ?_ ?_ _) | (with_reducible refine below_call ?_ ?_ (by assumption)) | (with_reducible refine Below.drew ?_) | go_size | ((try simp only [World.size_alloc, World.size_setCell, World.size_drew] at *); omega))))) x HX.out).mono ?_); rintro e w1 ⟨rfl, rfl⟩) | ((go_at_call 83); (with_reducible refine (has_pl (H.out.below (by (repeat' (first | (with_reducible exact Below.refl _ _) | (with_reducible assumption) | (with_reducible exact Hid.out (by assumption)) | (with_reducible refine below_a ?_ _) | (with_reducible refine below_dn ?_ _) | (with_reducible refine below_c ?_ (by assumption)) | (with_reducible refine below_d ?_) | (with_reducible refine Below.setCell ?_ ?_ _) | (with_reducible refine Below.alloc ?_ ?_ _) | (with_reducible refine below_call ?_ ?_ (by assumption)) | (with_reducible refine Below.drew ?_) | go_size | ((try simp only [World.size_alloc, World.size_setCell, World.size_drew] at *); omega))))) x HX.out X Y).mono ?_); rintro e w2 ⟨rfl, b2⟩))
  go_ret
  exact ⟨rfl, by (repeat' (first | (with_reducible exact Below.refl _ _) | (with_reducible assumption) | (with_reducible exact Hid.out (by assumption)) | (with_reducible refine below_a ?_ _) | (with_reducible refine below_dn ?_ _) | (with_reducible refine below_c ?_ (by assumption)) | (with_reducible refine below_d ?_) | (with_reducible refine Below.setCell ?_ ?_ _) | (with_reducible refine Below.alloc ?_ ?_ _) | (with_reducible refine below_call ?_ ?_ (by assumption)) | (with_reducible refine Below.drew ?_) | go_size | ((try simp only [World.size_alloc, World.size_setCell, World.size_drew] at *); omega)))⟩
set_option maxRecDepth 20000 in
set_option maxHeartbeats 4000000 in
theorem get_in (h : St base w S ns most) (x l : Nat) (hl : lvlN ns x = (l : Int) + 1) (X Y : Int) (hp : hasN ns x X Y = true) :
    Calls Try.prog 50 #[.agg #[.pointer (some ⟨S, 0, none⟩), .int .u32 x], .agg #[.int .i64 (X), .int .i64 (Y)]] w fun e w' => e = .returned (.bool (cellN ns (l + 1) x (X + halfN (lvlN ns x)).toNat (Y + halfN (lvlN ns x)).toNat)) ∧ Below w.heap.size w w' := by
  have h2 := h.two
  have H := Lib.hid h
  have hx := lvlN_lt (show 0 ≤ lvlN ns x by omega)
  have HX := Lib.hid (show x < 4294967296 by omega)
  have hd : decide (x < ns.length) = true := decide_eq_true hx
  have HP := Lib.hid hp
  have HT := Lib.hid (has_lt hl hp)
  have HL := Lib.hid hl
  have HS := Lib.hid (fun W (b : Below w.heap.size w W) => start_any (h.below b) x (by omega) X Y hp)
  clear h h2 hx hl
  generalize hpx : (X + halfN (lvlN ns x)).toNat = px at *
  generalize hpy : (Y + halfN (lvlN ns x)).toNat = py at *
  clear hpx hpy
  generalize hgoal : cellN ns (l + 1) x px py = target
  have HG := Lib.hid hgoal
  clear hgoal
  go_enter Try.func50, Try.ntmps50
  go_wp2_with (first | ((go_at_call 35); (with_reducible refine (is_st (H.out.below (by (repeat' (first | (with_reducible exact Below.refl _ _) | (with_reducible assumption) | (with_reducible exact Hid.out (by assumption)) | (with_reducible refine below_a ?_ _) | (with_reducible refine below_dn ?_ _) | (with_reducible refine below_c ?_ (by assumption)) | (with_reducible refine below_d ?_) | (with_reducible refine Below.setCell ?_ ?_ _) | (with_reducible refine Below.alloc ?_ ?_ _) | (with_reducible refine below_call ?_ ?_ (by assumption)) | (with_reducible refine Below.drew ?_) | go_size | ((try simp only [World.size_alloc, World.size_setCell, World.size_drew] at *); omega))))) x HX.out).mono ?_); rintro e w1 ⟨rfl, rfl⟩) | ((go_at_call 83); (with_reducible refine (has_pl (H.out.below (by (repeat' (first | (with_reducible exact Below.refl _ _) | (with_reducible assumption) | (with_reducible exact Hid.out (by assumption)) | (with_reducible refine below_a ?_ _) | (with_reducible refine below_dn ?_ _) | (with_reducible refine below_c ?_ (by assumption)) | (with_reducible refine below_d ?_) | (with_reducible refine Below.setCell ?_ ?_ _) | (with_reducible refine Below.alloc ?_ ?_ _) | (with_reducible refine below_call ?_ ?_ (by assumption)) | (with_reducible refine Below.drew ?_) | go_size | ((try simp only [World.size_alloc, World.size_setCell, World.size_drew] at *); omega))))) x HX.out X Y).mono ?_); rintro e w2 ⟨rfl, hb_w2⟩; obtain ⟨hc, hf⟩ := bcell hb_w2; have hz := hb_w2.size; (try simp only [World.size_alloc, World.size_setCell, World.size_drew] at hz); (first | (with_reducible have hl := lt_rule6 hz) | (with_reducible have hl := lt_rule5 hz) | (with_reducible have hl := lt_rule4 hz) | (with_reducible have hl := lt_rule3 hz) | (with_reducible have hl := lt_rule2 hz) | (with_reducible have hl := lt_rule1 hz) | have hl := lt_rule0 hz); (try (have hz0 : w.heap.size < w2.heap.size := by omega)); (try (have hz1 : w.heap.size + 1 < w2.heap.size := by omega)); (try (have hz2 : w.heap.size + 1 + 1 < w2.heap.size := by omega)); (try (have hz3 : w.heap.size + 1 + 1 + 1 < w2.heap.size := by omega)); (try (have hz4 : w.heap.size + 1 + 1 + 1 + 1 < w2.heap.size := by omega))) | ((go_at_call 82); (with_reducible refine (HS.out _ (by (repeat' (first | (with_reducible exact Below.refl _ _) | (with_reducible assumption) | (with_reducible exact Hid.out (by assumption)) | (with_reducible refine below_a ?_ _) | (with_reducible refine below_dn ?_ _) | (with_reducible refine below_c ?_ (by assumption)) | (with_reducible refine below_d ?_) | (with_reducible refine Below.setCell ?_ ?_ _) | (with_reducible refine Below.alloc ?_ ?_ _) | (with_reducible refine below_call ?_ ?_ (by assumption)) | (with_reducible refine Below.drew ?_) | go_size | ((try simp only [World.size_alloc, World.size_setCell, World.size_drew] at *); omega))))).mono ?_); rintro e w3 ⟨rfl, hb_w3⟩; obtain ⟨hc, hf⟩ := bcell hb_w3; have hz := hb_w3.size; (try simp only [World.size_alloc, World.size_setCell, World.size_drew] at hz); (first | (with_reducible have hl := lt_rule6 hz) | (with_reducible have hl := lt_rule5 hz) | (with_reducible have hl := lt_rule4 hz) | (with_reducible have hl := lt_rule3 hz) | (with_reducible have hl := lt_rule2 hz) | (with_reducible have hl := lt_rule1 hz) | have hl := lt_rule0 hz); (try (have hz0 : w.heap.size < w3.heap.size := by omega)); (try (have hz1 : w.heap.size + 1 < w3.heap.size := by omega)); (try (have hz2 : w.heap.size + 1 + 1 < w3.heap.size := by omega)); (try (have hz3 : w.heap.size + 1 + 1 + 1 < w3.heap.size := by omega)); (try (have hz4 : w.heap.size + 1 + 1 + 1 + 1 < w3.heap.size := by omega))))
  have pP := Lib.hid ((((Pt.keep (show Pt _ w.heap.size #[.pointer (some ⟨S, 0, none⟩), .int .u32 x] 91 from by (repeat' (first | (with_reducible assumption) | (with_reducible refine Pt.drew ?_) | (with_reducible refine Pt.new' (by first | rfl | (simp; done) | omega)) | (with_reducible refine Pt.alloc ?_ _) | (with_reducible refine Pt.keep ?_ (by with_reducible assumption))))) hb_w2).keep hb_w3).set_ne (a := ⟨w.heap.size + 1, 0, none⟩) (by simp) (.int .i64 px)).set_ne (a := ⟨w.heap.size + 1, 1, none⟩) (by simp) (.int .i64 py))
  have pQ := Lib.hid (show Pt _ (w.heap.size + 1) #[.int .i64 px, .int .i64 py] 95 from ((((Pt.keep (show Pt _ (w.heap.size + 1) #[.int .i64 X, .int .i64 Y] 95 from by (repeat' (first | (with_reducible assumption) | (with_reducible refine Pt.drew ?_) | (with_reducible refine Pt.new' (by first | rfl | (simp; done) | omega)) | (with_reducible refine Pt.alloc ?_ _) | (with_reducible refine Pt.keep ?_ (by with_reducible assumption))))) hb_w2).keep hb_w3).set 0 (.int .i64 px)).set 1 (.int .i64 py)))
  have HB := Lib.hid (show Below w.heap.size w ((w3.setCell ⟨w.heap.size + 1, 0, none⟩ (.int .i64 px)).setCell ⟨w.heap.size + 1, 1, none⟩ (.int .i64 py)) from by (repeat' (first | (with_reducible exact Below.refl _ _) | (with_reducible assumption) | (with_reducible exact Hid.out (by assumption)) | (with_reducible refine below_a ?_ _) | (with_reducible refine below_dn ?_ _) | (with_reducible refine below_c ?_ (by assumption)) | (with_reducible refine below_d ?_) | (with_reducible refine Below.setCell ?_ ?_ _) | (with_reducible refine Below.alloc ?_ ?_ _) | (with_reducible refine below_call ?_ ?_ (by assumption)) | (with_reducible refine Below.drew ?_) | go_size | ((try simp only [World.size_alloc, World.size_setCell, World.size_drew] at *); omega))))
  clear hb_w2 hb_w3 hz hl hz0 hz1 hc hf hd hp
  clear hz hl hz0 hz1 hc hf
  clear HS
  generalize (w3.setCell ⟨w.heap.size + 1, 0, none⟩ (.int .i64 px)).setCell ⟨w.heap.size + 1, 1, none⟩ (.int .i64 py) = W3 at *
  go_loopg [5] (l + 1) (fun m v wr => ∃ y qx qy : Nat, v = .int .u32 y ∧ Hid (lvlN ns y = m) ∧ Hid (qx < 2 ^ m ∧ qy < 2 ^ m) ∧ Hid (cellN ns m y qx qy = target) ∧ Hid (Pt wr w.heap.size #[.pointer (some ⟨S, 0, none⟩), .int .u32 x] 91) ∧ Hid (Pt wr (w.heap.size + 1) #[.int .i64 qx, .int .i64 qy] 95) ∧ Hid (Below w.heap.size w wr))
  case atStart => exact ⟨x, px, py, rfl, HL, HT, HG, pP, pQ, HB⟩
  case round =>
    obtain ⟨y, qx, qy, rfl, hly, hq, hcell, pP', pQ', hb'⟩ := hrel
    have cP0 : wr.cell? ⟨w.heap.size, 0, none⟩ = some (.pointer (some ⟨S, 0, none⟩)) := by rw [pP'.out.cell]; rfl
    have yl := Lib.hid (show y < ns.length from lvlN_lt (by rw [hly.out]; omega))
    have y32 := Lib.hid (show y < 4294967296 from by have := H.out.two; have := yl.out; omega)
    cases gk with
    | zero =>
      have HO := Lib.hid (fun W (b : Below w.heap.size w W) => of_out H.out y y32.out (by rw [hly.out]; omega) b)
      have HF := Lib.hid (show decide (y = 1) = target from hcell.out)
      clear hcell hly hq
      go_wp2_with ((go_at_call 28); (with_reducible refine (HO.out _ hb'.out).mono ?_); rintro e w4 ⟨rfl, b4⟩)
      go_ret
      exact ⟨ret_bool (by rw [← HF.out]; show ((y : Int) == 1) = decide (y = 1); rw [Bool.eq_iff_iff]; simp only [beq_iff_eq, decide_eq_true_eq]; omega), by (repeat' (first | (with_reducible exact Below.refl _ _) | (with_reducible assumption) | (with_reducible exact Hid.out (by assumption)) | (with_reducible refine below_a ?_ _) | (with_reducible refine below_dn ?_ _) | (with_reducible refine below_c ?_ (by assumption)) | (with_reducible refine below_d ?_) | (with_reducible refine Below.setCell ?_ ?_ _) | (with_reducible refine Below.alloc ?_ ?_ _) | (with_reducible refine below_call ?_ ?_ (by assumption)) | (with_reducible refine Below.drew ?_) | go_size | ((try simp only [World.size_alloc, World.size_setCell, World.size_drew] at *); omega)))⟩
    | succ m =>
      have hk := lvl_kids H.out.ok (x := y) (l := m) (by rw [hly.out]; omega)
      have l2 := lvl_le H.out.ok y
      obtain ⟨-, -, mx, my⟩ := quar_split m qx qy hq.out.1 hq.out.2
      have q4 := quar_lt m qx qy
      have HO := Lib.hid (fun W (b : Below w.heap.size w W) => of_in H.out y (l := m) (by rw [hly.out]; omega) b)
      have HV := Lib.hid (fun W (b : Below w.heap.size w W) => level_at H.out y y32.out ((m : Int) + 1) (by rw [hly.out]; omega) b)
      have HW := Lib.hid (fun W => which_any qx qy m ((m : Int) + 1) rfl (by rw [hly.out] at l2; omega) hq.out.1 hq.out.2 W)
      have HC := Lib.hid (show cellN ns m (kid (kidsOf ns y) (quar m qx qy)) (qx % 2 ^ m) (qy % 2 ^ m) = target from hcell.out)
      have HM := Lib.hid (And.intro mx my)
      have HK := Lib.hid (hk.2.2 (quar m qx qy)).1
      have q0 : (0 : Int) ≤ (quar m qx qy : Int) := by omega
      have q1 : (quar m qx qy : Int) < 4 := by omega
      have HQ := Lib.hid q4
      clear hk l2 mx my q4 hcell hq hly
      generalize qx % 2 ^ m = nx at *
      generalize qy % 2 ^ m = ny at *
      generalize quar m qx qy = q at *
      generalize kidsOf ns y = kk at *
      go_upto_region 8 with ((go_at_call 28); (with_reducible refine (HO.out _ hb'.out).mono ?_); rintro e w4 ⟨rfl, b4⟩)
      have pP4 := Lib.hid ((pP'.out.keep b4).alloc (.cells (kArr kk) 55))
      have pQ4 := Lib.hid ((pQ'.out.keep b4).alloc (.cells (kArr kk) 55))
      have pK4 := Lib.hid (Pt.new w4 (kArr kk) 55)
      have HB4 := Lib.hid (below_a (below_c hb'.out b4) (.cells (kArr kk) 55))
      unfold kArr at pP4 pQ4 pK4 HB4
      clear pP' pQ' cP0 b4
      generalize w4.alloc (.cells #[.int .u32 kk.a, .int .u32 kk.b, .int .u32 kk.c, .int .u32 kk.d] 55) = W4 at *
      have cp0 : W4.cell? ⟨w.heap.size, 0, none⟩ = some (.pointer (some ⟨S, 0, none⟩)) := by rw [pP4.out.cell]; rfl
      have cq0 : W4.cell? ⟨w.heap.size + 1, 0, none⟩ = some (.int .i64 qx) := by rw [pQ4.out.cell]; rfl
      have cq1 : W4.cell? ⟨w.heap.size + 1, 1, none⟩ = some (.int .i64 qy) := by rw [pQ4.out.cell]; rfl
      have lp := pP4.out.lt
      have lq := pQ4.out.lt
      go_cut [8, 9] (fun s8 s9 W => ∃ g, s8 = .int .i64 q ∧ s9 = .pointer (some ⟨g, 0, none⟩) ∧ Hid (Pt W g #[.int .i64 nx, .int .i64 ny] 95) ∧ Hid (Below W4.heap.size W4 W) ∧ Hid (W4.heap.size ≤ g))
      case first =>
        go_region_with (first | ((go_at_call 17); (with_reducible refine (HV.out _ (by first | (repeat' (first | (with_reducible exact Below.refl _ _) | (with_reducible assumption) | (with_reducible exact Hid.out (by assumption)) | (with_reducible refine below_a ?_ _) | (with_reducible refine below_dn ?_ _) | (with_reducible refine below_c ?_ (by assumption)) | (with_reducible refine below_d ?_) | (with_reducible refine Below.setCell ?_ ?_ _) | (with_reducible refine Below.alloc ?_ ?_ _) | (with_reducible refine below_call ?_ ?_ (by assumption)) | (with_reducible refine Below.drew ?_) | go_size | ((try simp only [World.size_alloc, World.size_setCell, World.size_drew] at *); omega))))).mono ?_); rintro e w' ⟨rfl, rfl⟩) | ((go_at_call 84); (with_reducible refine (HW.out _).mono ?_); rintro e w2 ⟨rfl, hb_w2⟩; obtain ⟨hc, hf⟩ := bcell hb_w2; have hz := hb_w2.size; (try simp only [World.size_alloc, World.size_setCell, World.size_drew] at hz); (first | (with_reducible have hl := lt_rule6 hz) | (with_reducible have hl := lt_rule5 hz) | (with_reducible have hl := lt_rule4 hz) | (with_reducible have hl := lt_rule3 hz) | (with_reducible have hl := lt_rule2 hz) | (with_reducible have hl := lt_rule1 hz) | have hl := lt_rule0 hz); (try (have hz0 : w.heap.size < w2.heap.size := by omega)); (try (have hz1 : w.heap.size + 1 < w2.heap.size := by omega)); (try (have hz2 : w.heap.size + 1 + 1 < w2.heap.size := by omega)); (try (have hz3 : w.heap.size + 1 + 1 + 1 < w2.heap.size := by omega)); (try (have hz4 : w.heap.size + 1 + 1 + 1 + 1 < w2.heap.size := by omega))))
        all_goals (go_wp2_with fail; go_meet)
        all_goals refine ⟨_, rfl, rfl, Lib.hid ?_, Lib.hid ?_, Lib.hid ?_⟩
        all_goals first | (exact (((Pt.keep (b := W4.heap.size) (cs := #[.int .i64 0, .int .i64 0]) (by (repeat' (first | (with_reducible assumption) | (with_reducible refine Pt.drew ?_) | (with_reducible refine Pt.new' (by first | rfl | (simp; done) | omega)) | (with_reducible refine Pt.alloc ?_ _) | (with_reducible refine Pt.keep ?_ (by with_reducible assumption))))) hb_w2).set 0 _).set 1 _)) | ((repeat' (first | (with_reducible assumption) | (with_reducible refine Pt.drew ?_) | (with_reducible refine Pt.new' (by first | rfl | (simp; done) | omega)) | (with_reducible refine Pt.alloc ?_ _) | (with_reducible refine Pt.keep ?_ (by with_reducible assumption)))); done) | (exact Nat.le_refl _) | ((repeat' (first | (with_reducible exact Below.refl _ _) | (with_reducible assumption) | (with_reducible exact Hid.out (by assumption)) | (with_reducible refine below_a ?_ _) | (with_reducible refine below_dn ?_ _) | (with_reducible refine below_c ?_ (by assumption)) | (with_reducible refine below_d ?_) | (with_reducible refine Below.setCell ?_ ?_ _) | (with_reducible refine Below.alloc ?_ ?_ _) | (with_reducible refine below_call ?_ ?_ (by assumption)) | (with_reducible refine Below.drew ?_) | go_size | ((try simp only [World.size_alloc, World.size_setCell, World.size_drew] at *); omega))); done) | (have := hz; omega)
      case rest =>
        obtain ⟨g, rfl, rfl, hpg, hbc, hge⟩ := hcut
        have pK5 := Lib.hid (pK4.out.keep hbc.out)
        have pP5 := Lib.hid (pP4.out.keep hbc.out)
        have pQ5 := Lib.hid (pQ4.out.keep hbc.out)
        have HB5 := Lib.hid (below_c HB4.out hbc.out)
        have ck : wc.cell? ⟨w4.heap.size, q, none⟩ = some (.int .u32 (kid kk q)) := by rw [pK5.out.cell]; exact kArr_get kk q HQ.out
        have cg0 : wc.cell? ⟨g, 0, none⟩ = some (.int .i64 nx) := by rw [hpg.out.cell]; rfl
        have cg1 : wc.cell? ⟨g, 1, none⟩ = some (.int .i64 ny) := by rw [hpg.out.cell]; rfl
        have cz0 : wc.cell? ⟨w.heap.size + 1, 0, none⟩ = some (.int .i64 qx) := by rw [pQ5.out.cell]; rfl
        have cz1 : wc.cell? ⟨w.heap.size + 1, 1, none⟩ = some (.int .i64 qy) := by rw [pQ5.out.cell]; rfl
        have fz := pQ5.out.frozen
        have lz := pQ5.out.lt
        clear cp0 cq0 cq1 lp lq
        go_upto_region 9 with fail
        go_region
        go_wp2_with fail
        go_roundg m
        case measure => omega
        case rel => exact ⟨kid kk q, nx, ny, rfl, HK, HM, HC, Lib.hid ((pP5.out.set_ne (a := ⟨w.heap.size + 1, 0, none⟩) (by simp) _).set_ne (a := ⟨w.heap.size + 1, 1, none⟩) (by simp) _), Lib.hid ((pQ5.out.set 0 (.int .i64 nx)).set 1 (.int .i64 ny)), Lib.hid (below_d ((HB5.out.setCell (show w.heap.size ≤ w.heap.size + 1 by omega) _).setCell (show w.heap.size ≤ w.heap.size + 1 by omega) _))⟩
theorem get_any (h : St base w S ns most) (x l : Nat) (hl : lvlN ns x = (l : Int) + 1) (X Y : Int) :
    Calls Try.prog 50 #[.agg #[.pointer (some ⟨S, 0, none⟩), .int .u32 x], .agg #[.int .i64 (X), .int .i64 (Y)]] w fun e w' => e = .returned (.bool (planeN ns (l + 1) x X Y)) ∧ Below w.heap.size w w' := by
  unfold planeN
  cases hp : hasN ns x X Y with
  | false => exact get_out h x (lvlN_lt (by omega)) X Y hp
  | true => exact get_in h x l hl X Y hp
end
end Go.Proofs.Ytjiliiclebdbfaa
