/- The walk of the statement GridTiles: at any zoom the tile of any point, its points, and all tiles of any rectangle. -/
import Derived.Test.YtmleopbelmibcaaProg
import Derived.Test.YtmleopbelmibcaaKit
import Derived.Test.YtmleopbelmibcaaGrid
import Derived.Test.YtmleopbelmibcaaGridTiles
import Derived.Test.YtmleopbelmibcaaGridRef
import Derived.Test.YtmleopbelmibcaaOpen
import Derived.Deep.RegionHeld3
import Derived.Deep.DeepCutAuto
namespace Go.Proofs.Ytmleopbelmibcaa
open Go.RowKit
set_option linter.unusedVariables false
set_option linter.unusedSimpArgs false

def sideI (z : Int) : Int := 16 * 2 ^ z.toNat
def flI (x z : Int) : Int := x / sideI z
def arI (t z : Int) : Int := t * sideI z

theorem side_b (z : Int) (h' : z ≤ 16) : 16 ≤ sideI z ∧ sideI z ≤ 1048576 := by
  have := pow_z z h'
  unfold sideI
  omega
theorem fl_eq (x z : Int) : x / 2 ^ z.toNat / 16 = flI x z := by
  unfold flI sideI
  rw [Int.ediv_ediv_of_nonneg (by have := Nat.one_le_two_pow (n := z.toNat); have e : ((2 ^ z.toNat : Nat) : Int) = (2 : Int) ^ z.toNat := by simp
                                  rw [← e]; omega), Int.mul_comm]
/-- What is about a number's tile. -/
theorem fl_b (x z : Int) (h' : z ≤ 16) : arI (flI x z) z ≤ x ∧ x < arI (flI x z) z + sideI z := by
  have s := side_b z h'
  have e := Int.emod_add_mul_ediv x (sideI z)
  have m1 := Int.emod_nonneg x (show sideI z ≠ 0 by omega)
  have m2 := Int.emod_lt_of_pos x (show 0 < sideI z by omega)
  unfold arI flI
  rw [Int.mul_comm]
  omega
theorem ar_succ (t z : Int) : arI (t + 1) z = arI t z + sideI z := by unfold arI; rw [Int.add_mul, Int.one_mul]

theorem side_z (z : Int) (w : World) (h : 0 ≤ z) (h' : z ≤ 16) :
    Calls Try.prog 19 #[.int .i64 z] w fun e w' => e = .returned (.int .i64 (sideI z)) ∧ Below w.heap.size w w' := by
  obtain ⟨k, rfl⟩ := Int.eq_ofNat_of_zero_le h
  refine (side_any k w (by omega)).mono fun e w' ⟨he, hw⟩ => ?_
  subst hw
  refine ⟨?_, Below.refl _ _⟩
  rw [he, sideI]
  simp
theorem floor_z (x z : Int) (w : World) (hx : -9223372036854775807 ≤ x) (hx' : x ≤ 9223372036854775807) (h' : z ≤ 16) :
    Calls Try.prog 22 #[.int .i64 x, .int .i64 (sideI z)] w fun e w' => e = .returned (.int .i64 (flI x z)) ∧ Below w.heap.size w w' := by
  have s := side_b z h'
  refine (floor_any x (sideI z) w hx hx' s.1 s.2).mono fun e w' ⟨he, hw⟩ => ?_
  subst hw
  exact ⟨he, Below.refl _ _⟩
theorem tile_z (x y z : Int) (w : World) (h : 0 ≤ z) (h' : z ≤ 16) :
    Calls Try.prog 20 #[.agg #[.int .i64 (x), .int .i64 (y)], .int .i64 z] w fun e w' => e = .returned (.agg #[.int .i64 (flI x z), .int .i64 (flI y z)]) ∧ Below w.heap.size w w' := by
  have := tile_any x y z w h h'
  rw [fl_eq, fl_eq] at this
  exact this
theorem area_z (x y z : Int) (w : World) (h : 0 ≤ z) (h' : z ≤ 16) (hx : -2305843009213693952 ≤ x) (hx' : x ≤ 2305843009213693952) (hy : -2305843009213693952 ≤ y) (hy' : y ≤ 2305843009213693952) :
    Calls Try.prog 21 #[.agg #[.int .i64 (flI x z), .int .i64 (flI y z)], .int .i64 z] w fun e w' => e = .returned (.agg #[.int .i64 (arI (flI x z) z), .int .i64 (arI (flI y z) z), .int .i64 (arI (flI x z + 1) z), .int .i64 (arI (flI y z + 1) z)]) ∧ Below w.heap.size w w' := by
  have s := side_b z h'
  have a := fl_b x z h'
  have b := fl_b y z h'
  unfold arI sideI at *
  exact area_any _ _ z w h h' (by omega) (by omega) (by omega) (by omega)

/-! the numbers of the law -/
theorem ins_b {x : Int} (h : insB x = true) : -2305843009213693952 < x ∧ x < 2305843009213693952 := by
  unfold insB at h
  simpa using h
theorem law_has (x y z : Int) (h' : z ≤ 16) : hasB (arI (flI x z) z) (arI (flI y z) z) (arI (flI x z + 1) z) (arI (flI y z + 1) z) x y = true := by
  have a := fl_b x z h'
  have b := fl_b y z h'
  unfold hasB
  rw [ar_succ, ar_succ]
  simp only [Bool.and_eq_true, decide_eq_true_eq]
  omega
theorem law_wide (x z : Int) (h' : z ≤ 16) : wideI (arI (flI x z) z) (arI (flI x z + 1) z) = sideI z := by
  have s := side_b z h'
  unfold wideI maxI
  rw [ar_succ, show arI (flI x z) z + sideI z - arI (flI x z) z = sideI z by omega, w64 (by omega) (by omega), if_neg (by omega)]
theorem law_from (x z : Int) (h' : z ≤ 16) (hx : insB x = true) : wrap64 (flI x z * sideI z) = arI (flI x z) z := by
  have s := side_b z h'
  have a := fl_b x z h'
  have i := ins_b hx
  unfold arI at *
  exact w64 (by omega) (by omega)

theorem gridTiles_out (x y n a b : Int) (w : World) (h : (insB x && insB y) = false) :
    Calls Try.prog 5 #[.agg #[.int .i64 (x), .int .i64 (y)], .int .u8 n, .agg #[.int .u16 a, .int .u16 b]] w fun e w' => e = .returned (.bool true) ∧ Below w.heap.size w w' := by
  go_enter Try.func5, Try.ntmps5
  go_wp2_with (first | (go_at_call 14; refine (lives4 _).mono ?_; rintro e w' ⟨rfl, hb⟩; obtain ⟨hc, hf⟩ := bcell hb; have hz := hb.size; (try simp only [World.size_alloc, World.size_setCell, World.size_drew] at hz); (first | (with_reducible have hl := lt_rule6 hz) | (with_reducible have hl := lt_rule5 hz) | (with_reducible have hl := lt_rule4 hz) | (with_reducible have hl := lt_rule3 hz) | (with_reducible have hl := lt_rule2 hz) | (with_reducible have hl := lt_rule1 hz) | have hl := lt_rule0 hz); (try (have hz0 : w.heap.size < w'.heap.size := by omega)); (try (have hz1 : w.heap.size + 1 < w'.heap.size := by omega)); (try (have hz2 : w.heap.size + 1 + 1 < w'.heap.size := by omega)); (try (have hz3 : w.heap.size + 1 + 1 + 1 < w'.heap.size := by omega)); (try (have hz4 : w.heap.size + 1 + 1 + 1 + 1 < w'.heap.size := by omega))) | (go_at_call 18; refine (pright_any _ _ _).mono ?_; rintro e w' ⟨rfl, hb⟩; obtain ⟨hc, hf⟩ := bcell hb; have hz := hb.size; (try simp only [World.size_alloc, World.size_setCell, World.size_drew] at hz); (first | (with_reducible have hl := lt_rule6 hz) | (with_reducible have hl := lt_rule5 hz) | (with_reducible have hl := lt_rule4 hz) | (with_reducible have hl := lt_rule3 hz) | (with_reducible have hl := lt_rule2 hz) | (with_reducible have hl := lt_rule1 hz) | have hl := lt_rule0 hz); (try (have hz0 : w.heap.size < w'.heap.size := by omega)); (try (have hz1 : w.heap.size + 1 < w'.heap.size := by omega)); (try (have hz2 : w.heap.size + 1 + 1 < w'.heap.size := by omega)); (try (have hz3 : w.heap.size + 1 + 1 + 1 < w'.heap.size := by omega)); (try (have hz4 : w.heap.size + 1 + 1 + 1 + 1 < w'.heap.size := by omega))))
  go_ret
  exact ⟨rfl, by (repeat' (first | (with_reducible exact Below.refl _ _) | (with_reducible assumption) | (with_reducible refine Below.setCell ?_ ?_ _) | (with_reducible refine Below.alloc ?_ ?_ _) | (with_reducible refine below_dn ?_ _) | (with_reducible refine below_call ?_ ?_ (by assumption)) | (with_reducible refine Below.drew ?_) | go_size))⟩

/-- The rectangle's tiles in numbers: empty, or from the tile of its first point to the one of its last. -/
theorem tiles_nums (x y z a b xa ya xb yb : Int) (ix : -2305843009213693952 < x ∧ x < 2305843009213693952) (iy : -2305843009213693952 < y ∧ y < 2305843009213693952) (a0 : 0 ≤ a) (a1 : a ≤ 65535) (b0 : 0 ≤ b) (b1 : b ≤ 65535)
    (hxa : wrap64 (x + a) = xa) (hya : wrap64 (y + b) = ya) (hxb : wrap64 (xa - 1) = xb) (hyb : wrap64 (ya - 1) = yb) :
    (-9223372036854775807 ≤ xb ∧ xb ≤ 9223372036854775807 ∧ -9223372036854775807 ≤ yb ∧ yb ≤ 9223372036854775807) ∧
    ((a = 0 ∨ b = 0) → ∀ i, tilesP i x y xa ya z = 0) ∧
    (¬ a = 0 → ¬ b = 0 → tilesP 0 x y xa ya z = flI x z ∧ tilesP 1 x y xa ya z = flI y z ∧ tilesP 2 x y xa ya z = wrap64 (flI xb z + 1) ∧ tilesP 3 x y xa ya z = wrap64 (flI yb z + 1)) := by
  rw [w64 (by omega) (by omega)] at hxa hya
  subst hxa hya
  have e1 := hxb
  have e2 := hyb
  rw [w64 (by omega) (by omega)] at e1 e2
  refine ⟨by omega, fun h i => ?_, fun h h' => ?_⟩
  · have e : emptyB x y (x + a) (y + b) = true := by unfold emptyB; simp only [Bool.or_eq_true, decide_eq_true_eq]; omega
    unfold tilesP; rw [e]; rfl
  · have e : emptyB x y (x + a) (y + b) = false := by unfold emptyB; simp only [Bool.or_eq_false_iff, decide_eq_false_iff_not]; omega
    unfold tilesP
    simp only [e, hxb, hyb, fl_eq, Bool.false_eq_true, if_false, and_self]

set_option maxRecDepth 100000 in
set_option maxHeartbeats 8000000 in
theorem gridTiles_in (x y n a b : Int) (w : World) (hx : insB x = true) (hy : insB y = true) (n0 : 0 ≤ n) (n1 : n ≤ 255) (a0 : 0 ≤ a) (a1 : a ≤ 65535) (b0 : 0 ≤ b) (b1 : b ≤ 65535) :
    Calls Try.prog 5 #[.agg #[.int .i64 (x), .int .i64 (y)], .int .u8 n, .agg #[.int .u16 a, .int .u16 b]] w fun e w' => e = .returned (.bool true) ∧ Below w.heap.size w w' := by
  obtain ⟨z, hz⟩ : ∃ z, n % 17 = z := ⟨_, rfl⟩
  have z0 : 0 ≤ z := by omega
  have z1 : z ≤ 16 := by omega
  have ix := ins_b hx
  have iy := ins_b hy
  have IX := Lib.hid ix
  have IY := Lib.hid iy
  clear ix iy
  go_enter Try.func5, Try.ntmps5
  go_upto_region 7 with (first | (go_at_call 14; refine (lives4 _).mono ?_; rintro e w' ⟨rfl, hb⟩; have p3 : Pt w' (w.heap.size) #[.int .i64 x, .int .i64 y] 23 := (by (repeat' (first | (with_reducible assumption) | (with_reducible refine Pt.drew ?_) | (with_reducible refine Pt.new' (by first | rfl | (simp; done) | omega)) | (with_reducible refine Pt.alloc ?_ _) | (with_reducible refine Pt.keep ?_ (by with_reducible assumption))))); have c_p3 := p3.cell; have f_p3 := p3.frozen; have l_p3 := p3.lt; have p5 : Pt w' (w.heap.size + 1) #[.int .u16 a, .int .u16 b] 31 := (by (repeat' (first | (with_reducible assumption) | (with_reducible refine Pt.drew ?_) | (with_reducible refine Pt.new' (by first | rfl | (simp; done) | omega)) | (with_reducible refine Pt.alloc ?_ _) | (with_reducible refine Pt.keep ?_ (by with_reducible assumption))))); have c_p5 := p5.cell; have f_p5 := p5.frozen; have l_p5 := p5.lt) | (go_at_call 18; refine (pright_any _ _ _).mono ?_; rintro e w' ⟨rfl, hb⟩; replace p3 := p3.keep (show Below _ _ w' from by (repeat' (first | (with_reducible exact Below.refl _ _) | (with_reducible assumption) | (with_reducible refine Below.setCell ?_ ?_ _) | (with_reducible refine Below.alloc ?_ ?_ _) | (with_reducible refine below_dn ?_ _) | (with_reducible refine below_call ?_ ?_ (by assumption)) | (with_reducible refine Below.drew ?_) | go_size))); have c_p3 := p3.cell; have f_p3 := p3.frozen; have l_p3 := p3.lt; replace p5 := p5.keep (show Below _ _ w' from by (repeat' (first | (with_reducible exact Below.refl _ _) | (with_reducible assumption) | (with_reducible refine Below.setCell ?_ ?_ _) | (with_reducible refine Below.alloc ?_ ?_ _) | (with_reducible refine below_dn ?_ _) | (with_reducible refine below_call ?_ ?_ (by assumption)) | (with_reducible refine Below.drew ?_) | go_size))); have c_p5 := p5.cell; have f_p5 := p5.frozen; have l_p5 := p5.lt) | (go_at_call 19; refine (side_z _ _ z0 z1).mono ?_; rintro e w' ⟨rfl, hb⟩; replace p3 := p3.keep (show Below _ _ w' from by (repeat' (first | (with_reducible exact Below.refl _ _) | (with_reducible assumption) | (with_reducible refine Below.setCell ?_ ?_ _) | (with_reducible refine Below.alloc ?_ ?_ _) | (with_reducible refine below_dn ?_ _) | (with_reducible refine below_call ?_ ?_ (by assumption)) | (with_reducible refine Below.drew ?_) | go_size))); have c_p3 := p3.cell; have f_p3 := p3.frozen; have l_p3 := p3.lt; replace p5 := p5.keep (show Below _ _ w' from by (repeat' (first | (with_reducible exact Below.refl _ _) | (with_reducible assumption) | (with_reducible refine Below.setCell ?_ ?_ _) | (with_reducible refine Below.alloc ?_ ?_ _) | (with_reducible refine below_dn ?_ _) | (with_reducible refine below_call ?_ ?_ (by assumption)) | (with_reducible refine Below.drew ?_) | go_size))); have c_p5 := p5.cell; have f_p5 := p5.frozen; have l_p5 := p5.lt) | (go_at_call 20; refine (tile_z _ _ _ _ z0 z1).mono ?_; rintro e wt ⟨rfl, hb⟩; replace p3 := p3.keep (show Below _ _ wt from by (repeat' (first | (with_reducible exact Below.refl _ _) | (with_reducible assumption) | (with_reducible refine Below.setCell ?_ ?_ _) | (with_reducible refine Below.alloc ?_ ?_ _) | (with_reducible refine below_dn ?_ _) | (with_reducible refine below_call ?_ ?_ (by assumption)) | (with_reducible refine Below.drew ?_) | go_size))); have c_p3 := p3.cell; have f_p3 := p3.frozen; have l_p3 := p3.lt; replace p5 := p5.keep (show Below _ _ wt from by (repeat' (first | (with_reducible exact Below.refl _ _) | (with_reducible assumption) | (with_reducible refine Below.setCell ?_ ?_ _) | (with_reducible refine Below.alloc ?_ ?_ _) | (with_reducible refine below_dn ?_ _) | (with_reducible refine below_call ?_ ?_ (by assumption)) | (with_reducible refine Below.drew ?_) | go_size))); have c_p5 := p5.cell; have f_p5 := p5.frozen; have l_p5 := p5.lt) | (go_at_call 21; refine (area_z _ _ _ _ z0 z1 (by have := IX.out; omega) (by have := IX.out; omega) (by have := IY.out; omega) (by have := IY.out; omega)).mono ?_; rintro e wa ⟨rfl, hb⟩; replace p3 := p3.keep (show Below _ _ wa from by (repeat' (first | (with_reducible exact Below.refl _ _) | (with_reducible assumption) | (with_reducible refine Below.setCell ?_ ?_ _) | (with_reducible refine Below.alloc ?_ ?_ _) | (with_reducible refine below_dn ?_ _) | (with_reducible refine below_call ?_ ?_ (by assumption)) | (with_reducible refine Below.drew ?_) | go_size))); have c_p3 := p3.cell; have f_p3 := p3.frozen; have l_p3 := p3.lt; replace p5 := p5.keep (show Below _ _ wa from by (repeat' (first | (with_reducible exact Below.refl _ _) | (with_reducible assumption) | (with_reducible refine Below.setCell ?_ ?_ _) | (with_reducible refine Below.alloc ?_ ?_ _) | (with_reducible refine below_dn ?_ _) | (with_reducible refine below_call ?_ ?_ (by assumption)) | (with_reducible refine Below.drew ?_) | go_size))); have c_p5 := p5.cell; have f_p5 := p5.frozen; have l_p5 := p5.lt; have p9 : Pt wa (wt.heap.size) #[.int .i64 (flI x z), .int .i64 (flI y z)] 23 := (by (repeat' (first | (with_reducible assumption) | (with_reducible refine Pt.drew ?_) | (with_reducible refine Pt.new' (by first | rfl | (simp; done) | omega)) | (with_reducible refine Pt.alloc ?_ _) | (with_reducible refine Pt.keep ?_ (by with_reducible assumption))))); have c_p9 := p9.cell; have f_p9 := p9.frozen; have l_p9 := p9.lt))
  have q1 := law_has x y z z1
  have q2 := law_wide x z z1
  have q3 := law_wide y z z1
  have q4 := law_from x z z1 hx
  have q5 := law_from y z z1 hy
  have q6 := (i64_w _).trans q4
  have q7 := (i64_w _).trans q5
  have q8 := ne_pt
  have hB : Below w.heap.size w wa := by (repeat' (first | (with_reducible exact Below.refl _ _) | (with_reducible assumption) | (with_reducible refine Below.setCell ?_ ?_ _) | (with_reducible refine Below.alloc ?_ ?_ _) | (with_reducible refine below_dn ?_ _) | (with_reducible refine below_call ?_ ?_ (by assumption)) | (with_reducible refine Below.drew ?_) | go_size))
  have p10 := Pt.new wa #[.int .i64 (arI (flI x z) z), .int .i64 (arI (flI y z) z), .int .i64 (arI (flI x z + 1) z), .int .i64 (arI (flI y z + 1) z)] 26
  have hB0 := hB.alloc hB.size (Obj.cells #[.int .i64 (arI (flI x z) z), .int .i64 (arI (flI y z) z), .int .i64 (arI (flI x z + 1) z), .int .i64 (arI (flI y z + 1) z)] 26)
  replace p3 := p3.alloc (Obj.cells #[.int .i64 (arI (flI x z) z), .int .i64 (arI (flI y z) z), .int .i64 (arI (flI x z + 1) z), .int .i64 (arI (flI y z + 1) z)] 26)
  replace p5 := p5.alloc (Obj.cells #[.int .i64 (arI (flI x z) z), .int .i64 (arI (flI y z) z), .int .i64 (arI (flI x z + 1) z), .int .i64 (arI (flI y z + 1) z)] 26)
  replace p9 := p9.alloc (Obj.cells #[.int .i64 (arI (flI x z) z), .int .i64 (arI (flI y z) z), .int .i64 (arI (flI x z + 1) z), .int .i64 (arI (flI y z + 1) z)] 26)
  generalize wa.alloc (Obj.cells #[.int .i64 (arI (flI x z) z), .int .i64 (arI (flI y z) z), .int .i64 (arI (flI x z + 1) z), .int .i64 (arI (flI y z + 1) z)] 26) = W0 at p3 p5 p9 p10 hB0 ⊢
  have c3 := p3.cell; have c5 := p5.cell; have c9 := p9.cell; have c10 := p10.cell
  have l3 := p3.lt; have l5 := p5.lt; have l9 := p9.lt; have l10 := p10.lt
  go_cut [81] (fun s81 W => s81 = .bool false ∧ KP W0 W)
  case first =>
    go_region_held3 (fun W => (∀ b o, b < W0.heap.size → W.cell? ⟨b, o, none⟩ = W0.cell? ⟨b, o, none⟩) ∧ (∀ b o, b < W0.heap.size → W.frozen? ⟨b, o, none⟩ = W0.frozen? ⟨b, o, none⟩) ∧ W0.heap.size ≤ W.heap.size ∧ Below W0.heap.size W0 W)
      ((repeat' (first | (with_reducible exact kp_refl _) | (with_reducible assumption) | (with_reducible refine kp_set ?_ ?_ _) | (with_reducible refine kp_alloc ?_ _) | (with_reducible refine kp_drew ?_) | (with_reducible refine kp_below ?_ (by with_reducible assumption)) | go_size)))
      (first | (go_at_call 22; refine (floor_z _ _ _ (by first | (have := IX.out; omega) | (have := IY.out; omega)) (by first | (have := IX.out; omega) | (have := IY.out; omega)) z1).mono ?_; rintro e w' ⟨rfl, hb⟩) | (go_at_call 23; refine (has_any _ _ _ _ _ _ _).mono ?_; rintro e w' ⟨rfl, hb⟩) | (go_at_call 24; refine (wide_any _ _ _ _ _).mono ?_; rintro e w' ⟨rfl, hb⟩) | (go_at_call 25; refine (high_any _ _ _ _ _).mono ?_; rintro e w' ⟨rfl, hb⟩))
    go_wp2_with fail
    go_meet
    exact ⟨rfl, by (repeat' (first | (with_reducible exact kp_refl _) | (with_reducible assumption) | (with_reducible refine kp_set ?_ ?_ _) | (with_reducible refine kp_alloc ?_ _) | (with_reducible refine kp_drew ?_) | (with_reducible refine kp_below ?_ (by with_reducible assumption)) | go_size))⟩
  case rest =>
    obtain ⟨rfl, hk, hf, hs, hbW⟩ := hcut
    clear q1 q2 q3 q4 q5 q6 q7 q8 c3 c5 c9 c10 l3 l5 l9 l10 hk hf
    replace hB0 : Below w.heap.size w wc := hB0.trans (hbW.mono hB0.size)
    replace p3 := p3.keep hbW; replace p5 := p5.keep hbW; replace p9 := p9.keep hbW
    have c3 := p3.cell; have c5 := p5.cell; have c9 := p9.cell
    have l3 := p3.lt; have l5 := p5.lt; have l9 := p9.lt
    clear p10 hbW hs
    obtain ⟨xa, hxa⟩ : ∃ v, wrap64 (x + a) = v := ⟨_, rfl⟩
    obtain ⟨ya, hya⟩ : ∃ v, wrap64 (y + b) = v := ⟨_, rfl⟩
    obtain ⟨xb, hxb⟩ : ∃ v, wrap64 (xa - 1) = v := ⟨_, rfl⟩
    obtain ⟨yb, hyb⟩ : ∃ v, wrap64 (ya - 1) = v := ⟨_, rfl⟩
    have R := tiles_nums x y z a b xa ya xb yb IX.out IY.out a0 a1 b0 b1 hxa hya hxb hyb
    have R' := Lib.hid R
    clear R
    have hxa' := (i64_w _).trans hxa
    have hya' := (i64_w _).trans hya
    have hxb' := (i64_w _).trans hxb
    have hyb' := (i64_w _).trans hyb
    have qe := eq_rc
    cases ha : (a == 0)
    · cases hb0 : (b == 0)
      · obtain ⟨hbd, hn⟩ : _ ∧ _ := And.intro R'.out.1 (R'.out.2.2 (by simpa using ha) (by simpa using hb0))
        obtain ⟨hn0, hn1, hn2, hn3⟩ := hn
        have HB := Lib.hid hbd
        clear hbd R'
        go_upto_region 13 with (first | (go_at_call 26; refine (tiles_any _ _ _ _ _ _ z0 z1).mono ?_; rintro e wl ⟨rfl, hb⟩; replace p3 := p3.keep (show Below _ _ wl from by (repeat' (first | (with_reducible exact Below.refl _ _) | (with_reducible assumption) | (with_reducible refine Below.setCell ?_ ?_ _) | (with_reducible refine Below.alloc ?_ ?_ _) | (with_reducible refine below_dn ?_ _) | (with_reducible refine below_call ?_ ?_ (by assumption)) | (with_reducible refine Below.drew ?_) | go_size))); have c_p3 := p3.cell; have f_p3 := p3.frozen; have l_p3 := p3.lt; replace p5 := p5.keep (show Below _ _ wl from by (repeat' (first | (with_reducible exact Below.refl _ _) | (with_reducible assumption) | (with_reducible refine Below.setCell ?_ ?_ _) | (with_reducible refine Below.alloc ?_ ?_ _) | (with_reducible refine below_dn ?_ _) | (with_reducible refine below_call ?_ ?_ (by assumption)) | (with_reducible refine Below.drew ?_) | go_size))); have c_p5 := p5.cell; have f_p5 := p5.frozen; have l_p5 := p5.lt; replace p9 := p9.keep (show Below _ _ wl from by (repeat' (first | (with_reducible exact Below.refl _ _) | (with_reducible assumption) | (with_reducible refine Below.setCell ?_ ?_ _) | (with_reducible refine Below.alloc ?_ ?_ _) | (with_reducible refine below_dn ?_ _) | (with_reducible refine below_call ?_ ?_ (by assumption)) | (with_reducible refine Below.drew ?_) | go_size))); have c_p9 := p9.cell; have f_p9 := p9.frozen; have l_p9 := p9.lt; have p11 : Pt wl (wc.heap.size) #[.int .i64 x, .int .i64 y, .int .i64 xa, .int .i64 ya] 26 := (by (repeat' (first | (with_reducible assumption) | (with_reducible refine Pt.drew ?_) | (with_reducible refine Pt.new' (by first | rfl | (simp; done) | omega)) | (with_reducible refine Pt.alloc ?_ _) | (with_reducible refine Pt.keep ?_ (by with_reducible assumption))))); have c_p11 := p11.cell; have f_p11 := p11.frozen; have l_p11 := p11.lt))
        replace hB0 : Below w.heap.size w wl := by (repeat' (first | (with_reducible exact Below.refl _ _) | (with_reducible assumption) | (with_reducible refine Below.setCell ?_ ?_ _) | (with_reducible refine Below.alloc ?_ ?_ _) | (with_reducible refine below_dn ?_ _) | (with_reducible refine below_call ?_ ?_ (by assumption)) | (with_reducible refine Below.drew ?_) | go_size))
        have p12 := Pt.new wl #[.int .i64 (flI x z), .int .i64 (flI y z), .int .i64 (wrap64 (flI xb z + 1)), .int .i64 (wrap64 (flI yb z + 1))] 26
        replace hB0 := hB0.alloc hB0.size (Obj.cells #[.int .i64 (flI x z), .int .i64 (flI y z), .int .i64 (wrap64 (flI xb z + 1)), .int .i64 (wrap64 (flI yb z + 1))] 26)
        replace p9 := p9.alloc (Obj.cells #[.int .i64 (flI x z), .int .i64 (flI y z), .int .i64 (wrap64 (flI xb z + 1)), .int .i64 (wrap64 (flI yb z + 1))] 26)
        replace p11 := p11.alloc (Obj.cells #[.int .i64 (flI x z), .int .i64 (flI y z), .int .i64 (wrap64 (flI xb z + 1)), .int .i64 (wrap64 (flI yb z + 1))] 26)
        generalize wl.alloc (Obj.cells #[.int .i64 (flI x z), .int .i64 (flI y z), .int .i64 (wrap64 (flI xb z + 1)), .int .i64 (wrap64 (flI yb z + 1))] 26) = W1 at p9 p11 p12 hB0 ⊢
        have C9 := p9.cell; have C11 := p11.cell; have C12 := p12.cell
        have L9 := p9.lt; have L11 := p11.lt; have L12 := p12.lt
        go_cut [13] (fun s13 W => ∃ g, s13 = .pointer (some ⟨g, 0, none⟩) ∧ W.cell? ⟨g, 0, none⟩ = some (.int .i64 (wrap64 (flI xb z + 1))) ∧ W.cell? ⟨g, 1, none⟩ = some (.int .i64 (wrap64 (flI yb z + 1))) ∧ KP W1 W)
        case first =>
          go_region_held3 (fun W => (∀ b o, b < W1.heap.size → W.cell? ⟨b, o, none⟩ = W1.cell? ⟨b, o, none⟩) ∧ (∀ b o, b < W1.heap.size → W.frozen? ⟨b, o, none⟩ = W1.frozen? ⟨b, o, none⟩) ∧ W1.heap.size ≤ W.heap.size ∧ Below W1.heap.size W1 W)
            ((repeat' (first | (with_reducible exact kp_refl _) | (with_reducible assumption) | (with_reducible refine kp_set ?_ ?_ _) | (with_reducible refine kp_alloc ?_ _) | (with_reducible refine kp_drew ?_) | (with_reducible refine kp_below ?_ (by with_reducible assumption)) | go_size)))
            (first | (go_at_call 22; refine (floor_z _ _ _ (by have := HB.out; omega) (by have := HB.out; omega) z1).mono ?_; rintro e w' ⟨rfl, hb⟩; obtain ⟨hc, hf⟩ := bcell hb; have hz := hb.size; (try simp only [World.size_alloc, World.size_setCell, World.size_drew] at hz); (first | (with_reducible have hl := lt_rule6 hz) | (with_reducible have hl := lt_rule5 hz) | (with_reducible have hl := lt_rule4 hz) | (with_reducible have hl := lt_rule3 hz) | (with_reducible have hl := lt_rule2 hz) | (with_reducible have hl := lt_rule1 hz) | have hl := lt_rule0 hz); (try (have hz0 : w.heap.size < w'.heap.size := by omega)); (try (have hz1 : w.heap.size + 1 < w'.heap.size := by omega)); (try (have hz2 : w.heap.size + 1 + 1 < w'.heap.size := by omega)); (try (have hz3 : w.heap.size + 1 + 1 + 1 < w'.heap.size := by omega)); (try (have hz4 : w.heap.size + 1 + 1 + 1 + 1 < w'.heap.size := by omega))))
          all_goals (go_wp2_with fail; go_meet)
          all_goals (refine ⟨_, rfl, ?_, ?_, ?_⟩ <;> first | (simp [i64_w]; done) | (simp (disch := first | omega | (simp only [World.size_alloc, World.size_setCell, World.size_drew] <;> omega) | (left; omega) | (right; omega)) [c_set_ne, c_alloc_lt, c_alloc_eq, c_drew, i64_w] <;> first | rfl | (simp [i64_w]; done)) | (simp (disch := first | omega | (simp only [World.size_alloc, World.size_setCell, World.size_drew] <;> omega) | (left; omega) | (right; omega) | (simp (disch := first | omega | (simp only [World.size_alloc, World.size_setCell, World.size_drew] <;> omega) | (left; omega) | (right; omega)) [c_set_ne, c_alloc_lt, c_alloc_eq, c_drew, *]; done)) [c_set_eq, c_set_ne, c_alloc_lt, c_alloc_eq, c_drew, i64_w, *] <;> first | rfl | (simp [i64_w]; done)) | ((repeat' (first | (with_reducible exact kp_refl _) | (with_reducible assumption) | (with_reducible refine kp_set ?_ ?_ _) | (with_reducible refine kp_alloc ?_ _) | (with_reducible refine kp_drew ?_) | (with_reducible refine kp_below ?_ (by with_reducible assumption)) | go_size)); done))
        case rest =>
          obtain ⟨g, rfl, h0, h1, hk, hf, hs, hbW⟩ := hcut
          replace hB0 := hB0.trans (hbW.mono hB0.size)
          go_wp2
          go_ret
          exact ⟨ret_bool (by simp [eqRc]), by (repeat' (first | (with_reducible exact Below.refl _ _) | (with_reducible assumption) | (with_reducible refine Below.setCell ?_ ?_ _) | (with_reducible refine Below.alloc ?_ ?_ _) | (with_reducible refine below_dn ?_ _) | (with_reducible refine below_call ?_ ?_ (by assumption)) | (with_reducible refine Below.drew ?_) | go_size))⟩
      · have hn := R'.out.2.1 (Or.inr (by simpa using hb0))
        clear R'
        go_wp2_with (first | (go_at_call 26; refine (tiles_any _ _ _ _ _ _ z0 z1).mono ?_; rintro e wl ⟨rfl, hb⟩; replace p3 := p3.keep (show Below _ _ wl from by (repeat' (first | (with_reducible exact Below.refl _ _) | (with_reducible assumption) | (with_reducible refine Below.setCell ?_ ?_ _) | (with_reducible refine Below.alloc ?_ ?_ _) | (with_reducible refine below_dn ?_ _) | (with_reducible refine below_call ?_ ?_ (by assumption)) | (with_reducible refine Below.drew ?_) | go_size))); have c_p3 := p3.cell; have f_p3 := p3.frozen; have l_p3 := p3.lt; replace p5 := p5.keep (show Below _ _ wl from by (repeat' (first | (with_reducible exact Below.refl _ _) | (with_reducible assumption) | (with_reducible refine Below.setCell ?_ ?_ _) | (with_reducible refine Below.alloc ?_ ?_ _) | (with_reducible refine below_dn ?_ _) | (with_reducible refine below_call ?_ ?_ (by assumption)) | (with_reducible refine Below.drew ?_) | go_size))); have c_p5 := p5.cell; have f_p5 := p5.frozen; have l_p5 := p5.lt; replace p9 := p9.keep (show Below _ _ wl from by (repeat' (first | (with_reducible exact Below.refl _ _) | (with_reducible assumption) | (with_reducible refine Below.setCell ?_ ?_ _) | (with_reducible refine Below.alloc ?_ ?_ _) | (with_reducible refine below_dn ?_ _) | (with_reducible refine below_call ?_ ?_ (by assumption)) | (with_reducible refine Below.drew ?_) | go_size))); have c_p9 := p9.cell; have f_p9 := p9.frozen; have l_p9 := p9.lt))
        go_ret
        exact ⟨ret_bool (by simp [eqRc]), by (repeat' (first | (with_reducible exact Below.refl _ _) | (with_reducible assumption) | (with_reducible refine Below.setCell ?_ ?_ _) | (with_reducible refine Below.alloc ?_ ?_ _) | (with_reducible refine below_dn ?_ _) | (with_reducible refine below_call ?_ ?_ (by assumption)) | (with_reducible refine Below.drew ?_) | go_size))⟩
    · have hn := R'.out.2.1 (Or.inl (by simpa using ha))
      clear R'
      go_wp2_with (first | (go_at_call 26; refine (tiles_any _ _ _ _ _ _ z0 z1).mono ?_; rintro e wl ⟨rfl, hb⟩; replace p3 := p3.keep (show Below _ _ wl from by (repeat' (first | (with_reducible exact Below.refl _ _) | (with_reducible assumption) | (with_reducible refine Below.setCell ?_ ?_ _) | (with_reducible refine Below.alloc ?_ ?_ _) | (with_reducible refine below_dn ?_ _) | (with_reducible refine below_call ?_ ?_ (by assumption)) | (with_reducible refine Below.drew ?_) | go_size))); have c_p3 := p3.cell; have f_p3 := p3.frozen; have l_p3 := p3.lt; replace p5 := p5.keep (show Below _ _ wl from by (repeat' (first | (with_reducible exact Below.refl _ _) | (with_reducible assumption) | (with_reducible refine Below.setCell ?_ ?_ _) | (with_reducible refine Below.alloc ?_ ?_ _) | (with_reducible refine below_dn ?_ _) | (with_reducible refine below_call ?_ ?_ (by assumption)) | (with_reducible refine Below.drew ?_) | go_size))); have c_p5 := p5.cell; have f_p5 := p5.frozen; have l_p5 := p5.lt; replace p9 := p9.keep (show Below _ _ wl from by (repeat' (first | (with_reducible exact Below.refl _ _) | (with_reducible assumption) | (with_reducible refine Below.setCell ?_ ?_ _) | (with_reducible refine Below.alloc ?_ ?_ _) | (with_reducible refine below_dn ?_ _) | (with_reducible refine below_call ?_ ?_ (by assumption)) | (with_reducible refine Below.drew ?_) | go_size))); have c_p9 := p9.cell; have f_p9 := p9.frozen; have l_p9 := p9.lt))
      go_ret
      exact ⟨ret_bool (by simp [eqRc]), by (repeat' (first | (with_reducible exact Below.refl _ _) | (with_reducible assumption) | (with_reducible refine Below.setCell ?_ ?_ _) | (with_reducible refine Below.alloc ?_ ?_ _) | (with_reducible refine below_dn ?_ _) | (with_reducible refine below_call ?_ ?_ (by assumption)) | (with_reducible refine Below.drew ?_) | go_size))⟩

end Go.Proofs.Ytmleopbelmibcaa
