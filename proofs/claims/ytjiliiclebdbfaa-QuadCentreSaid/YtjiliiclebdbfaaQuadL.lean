/- The chapter's example of layer 7. -/
import Derived.Test.YtjiliiclebdbfaaQuadZ
import Derived.Test.YtjiliiclebdbfaaStoreL
namespace Go.Proofs.Ytjiliiclebdbfaa
open Go.RowKit
set_option linter.unusedVariables false
set_option linter.unusedSimpArgs false
attribute [local go_sem] eqGuard_errV neq_errV eql_errV

/-- A new plane in a new store. -/
theorem start_plane (most : Nat) (h : (emptyN twoN most 3).2.1 = 0) : StOk (emptyN twoN most 3).2.2 ∧ lvlN (emptyN twoN most 3).2.2 (emptyN twoN most 3).1 = 3 ∧ (emptyN twoN most 3).2.2.length ≤ 5 ∧ ∀ X Y, planeX (emptyN twoN most 3).2.2 (emptyN twoN most 3).1 X Y = false := by
  have d := empty_done (most := most) StOk.fresh (show 3 ≤ 62 by omega)
  rw [show [deadN, aliveN] = twoN from rfl] at d
  have e : ((3 : Nat) : Int) = 3 := rfl
  rw [e] at d
  obtain ⟨hl, hc⟩ := d.yes h
  have hl' : lvlN (emptyN twoN most 3).2.2 (emptyN twoN most 3).1 = ((2 : Nat) : Int) + 1 := by rw [hl]; rfl
  refine ⟨d.ok, by rw [hl]; rfl, d.len, fun X Y => ?_⟩
  rw [planeX_at (l := 3) (by rw [hl])]
  unfold planeN
  cases hp : hasN (emptyN twoN most 3).2.2 (emptyN twoN most 3).1 X Y with
  | false => rfl
  | true =>
    have := has_lt hl' hp
    rw [hc _ _ this.1 this.2]
    rfl
theorem level_lit {base S : Nat} {w : World} {ns : List Nd} {most : Nat} (h : St base w S ns most) (x : Nat) (L : Int) (hl : lvlN ns x = L) (h0 : 0 ≤ L) {W : World} (b : Below w.heap.size w W) : Calls Try.prog 17 #[.pointer (some ⟨S, 0, none⟩), .int .u32 x] W fun e w' => e = .returned (.int .i64 L) ∧ W = w' :=
  level_at h x (by have := lvlN_lt (show 0 ≤ lvlN ns x by omega); have := h.two; omega) L hl b
theorem get_lit {base S : Nat} {w : World} {ns : List Nd} {most : Nat} (h : St base w S ns most) (x : Nat) (hl : 1 ≤ lvlN ns x) (X Y : Int) (r : Bool) (hr : planeX ns x X Y = r) {W : World} (b : Below w.heap.size w W) :
    Calls Try.prog 50 #[.agg #[.pointer (some ⟨S, 0, none⟩), .int .u32 x], .agg #[.int .i64 (X), .int .i64 (Y)]] W fun e w' => e = .returned (.bool r) ∧ Below W.heap.size W w' := by
  have := get_any (h.below b) x ((lvlN ns x).toNat - 1) (by omega) X Y
  rw [← planeX_at (by omega), hr] at this
  exact this
set_option maxRecDepth 20000 in
set_option maxHeartbeats 2000000 in
theorem lives7 (w : World) : Calls Try.prog 46 #[] w fun e w' => e = .returned (.bool true) ∧ Below w.heap.size w w' := by
  have HN := Lib.hid (show Calls Try.prog 15 #[.int .i64 900] w _ from new_in w 900 (by omega) (by omega))
  have he : (emptyN twoN 900 3).2.1 = 0 := by kernel_rfl
  obtain ⟨s0, l0, n0, c0⟩ := start_plane 900 he
  have HQ := Lib.hid fun S (W : World) (h : St w.heap.size W S twoN 900) => (show Calls Try.prog 47 #[.pointer (some ⟨S, 0, none⟩)] W fun e w' => e = .returned (.tuple #[.agg #[.pointer (some ⟨S, 0, none⟩), .int .u32 (emptyN twoN 900 3).1], .nilIface]) ∧ Left w.heap.size S 900 (emptyN twoN 900 3).2.2 W w' by
    have := quadNew_any h
    rw [planeV_ok he, he, errV0] at this
    exact this)
  generalize emptyN twoN 900 3 = E at *
  obtain ⟨e1, s1, n1, ok, no⟩ := setPl_done (most := 900) (ns := E.2.2) (x := E.1) (X := 5) (Y := -9) (L1 := 5) true s0 (by omega) (by decide) (by decide +kernel) (by omega) (by omega)
  have hok : (setPl E.2.2 900 E.1 5 (-9) true).2.1 = 0 := by
    apply Classical.byContradiction
    intro h
    have := (no h).2.2
    rw [l0] at n1
    have e : ((5 : Int) - 3).toNat = 2 := rfl
    rw [e] at n1
    omega
  have HSET := Lib.hid fun S (W W0 : World) (h : St w.heap.size W0 S E.2.2 900) (b : Below W0.heap.size W0 W) => (show Calls Try.prog 48 #[.agg #[.pointer (some ⟨S, 0, none⟩), .int .u32 E.1], .agg #[.int .i64 (5), .int .i64 (-9)], .bool true] W fun e w' => e = .returned (.tuple #[.agg #[.pointer (some ⟨S, 0, none⟩), .int .u32 (setPl E.2.2 900 E.1 5 (-9) true).1], .nilIface]) ∧ Left w.heap.size S 900 (setPl E.2.2 900 E.1 5 (-9) true).2.2 W w' by
    have := setPl_any (h.below b) E.1 (by omega) 5 (-9) true (by decide)
    rw [planeV_ok hok, hok, errV0] at this
    exact this)
  obtain ⟨a1, a2, a3, a4, a5⟩ := ok hok
  clear ok no n1
  generalize setPl E.2.2 900 E.1 5 (-9) true = R at *
  have l5 : lvlN R.2.2 R.1 = 5 := by
    apply Classical.byContradiction
    intro h
    have h34 : lvlN R.2.2 R.1 = 3 ∨ lvlN R.2.2 R.1 = 4 := by omega
    rcases h34 with h | h
    · rw [h] at a3; revert a3; decide +kernel
    · rw [h] at a3; revert a3; decide +kernel
  have g1 := a5 5 (-9)
  rw [if_pos ⟨rfl, rfl⟩] at g1
  have g2 := a5 5 (-8)
  rw [if_neg (by decide), c0] at g2
  have l3 : lvlN R.2.2 E.1 = 3 := by rw [e1.lvl (lvlN_lt (by omega)), l0]
  have HL5 := Lib.hid fun S (W W0 : World) (h : St w.heap.size W0 S R.2.2 900) (b : Below W0.heap.size W0 W) => level_lit h R.1 5 l5 (by omega) b
  have HL3 := Lib.hid fun S (W W0 : World) (h : St w.heap.size W0 S R.2.2 900) (b : Below W0.heap.size W0 W) => level_lit h E.1 3 l3 (by omega) b
  have HG1 := Lib.hid fun S (W W0 : World) (h : St w.heap.size W0 S R.2.2 900) (b : Below W0.heap.size W0 W) => get_lit h R.1 (by omega) 5 (-9) true g1 b
  have HG2 := Lib.hid fun S (W W0 : World) (h : St w.heap.size W0 S R.2.2 900) (b : Below W0.heap.size W0 W) => get_lit h R.1 (by omega) 5 (-8) false g2 b
  have q := fun w => eql_nil_nil (P := Try.prog) w (ti := 27) Try.underlying27
  clear he s0 l0 n0 c0 e1 s1 hok a1 a2 a3 a4 a5 l5 g1 g2 l3
  go_enter Try.func46, Try.ntmps46
  go_wp2_with ((go_at_call 15); (with_reducible refine (HN.out).mono ?_); rintro e w1 ⟨S, rfl, h1, b1⟩; have H1 := Lib.hid h1; have B1 := Lib.hid b1; clear h1 b1)
  go_wp2_with ((go_at_call 47); (with_reducible refine (HQ.out S w1 H1.out).mono ?_); rintro e w2 ⟨rfl, k2⟩; have K2 := Lib.hid k2; have B2 := Lib.hid (B1.out.trans (Left.low k2 H1.out)); clear k2)
  go_wp2_with ((go_at_call 48); (with_reducible refine (HSET.out S _ w2 K2.out.st (by (repeat' (first | (with_reducible exact Below.refl _ _) | (with_reducible assumption) | (with_reducible exact Hid.out (by assumption)) | (with_reducible refine below_a ?_ _) | (with_reducible refine below_dn ?_ _) | (with_reducible refine below_c ?_ (by assumption)) | (with_reducible refine below_d ?_) | (with_reducible refine Below.setCell ?_ ?_ _) | (with_reducible refine Below.alloc ?_ ?_ _) | (with_reducible refine below_call ?_ ?_ (by assumption)) | (with_reducible refine Below.drew ?_) | go_size | ((try simp only [World.size_alloc, World.size_setCell, World.size_drew] at *); omega))))).mono ?_); rintro e w3 ⟨rfl, k3⟩; have H3 := Lib.hid k3.st; have B3 := Lib.hid ((B2.out.trans ((show Below w2.heap.size w2 _ from by (repeat' (first | (with_reducible exact Below.refl _ _) | (with_reducible assumption) | (with_reducible exact Hid.out (by assumption)) | (with_reducible refine below_a ?_ _) | (with_reducible refine below_dn ?_ _) | (with_reducible refine below_c ?_ (by assumption)) | (with_reducible refine below_d ?_) | (with_reducible refine Below.setCell ?_ ?_ _) | (with_reducible refine Below.alloc ?_ ?_ _) | (with_reducible refine below_call ?_ ?_ (by assumption)) | (with_reducible refine Below.drew ?_) | go_size | ((try simp only [World.size_alloc, World.size_setCell, World.size_drew] at *); omega)))).mono (B2.out.size))).trans (Left.low k3 (K2.out.st.below (by (repeat' (first | (with_reducible exact Below.refl _ _) | (with_reducible assumption) | (with_reducible exact Hid.out (by assumption)) | (with_reducible refine below_a ?_ _) | (with_reducible refine below_dn ?_ _) | (with_reducible refine below_c ?_ (by assumption)) | (with_reducible refine below_d ?_) | (with_reducible refine Below.setCell ?_ ?_ _) | (with_reducible refine Below.alloc ?_ ?_ _) | (with_reducible refine below_call ?_ ?_ (by assumption)) | (with_reducible refine Below.drew ?_) | go_size | ((try simp only [World.size_alloc, World.size_setCell, World.size_drew] at *); omega))))))); have p3 := Pt.left (show Pt _ w2.heap.size #[.pointer (some ⟨S, 0, none⟩), .int .u32 E.1] 91 from by (repeat' (first | (with_reducible assumption) | (with_reducible refine Pt.drew ?_) | (with_reducible refine Pt.new' (by first | rfl | (simp; done) | omega)) | (with_reducible refine Pt.alloc ?_ _) | (with_reducible refine Pt.keep ?_ (by with_reducible assumption))))) (K2.out.st.below (by (repeat' (first | (with_reducible exact Below.refl _ _) | (with_reducible assumption) | (with_reducible exact Hid.out (by assumption)) | (with_reducible refine below_a ?_ _) | (with_reducible refine below_dn ?_ _) | (with_reducible refine below_c ?_ (by assumption)) | (with_reducible refine below_d ?_) | (with_reducible refine Below.setCell ?_ ?_ _) | (with_reducible refine Below.alloc ?_ ?_ _) | (with_reducible refine below_call ?_ ?_ (by assumption)) | (with_reducible refine Below.drew ?_) | go_size | ((try simp only [World.size_alloc, World.size_setCell, World.size_drew] at *); omega))))) k3 (by decide) (by decide) (by decide); have c3 := p3.cell; have l3 := p3.lt; clear k3)
  go_wp2_with (first | ((go_at_call 17); (with_reducible refine (HL5.out S _ w3 H3.out (by (repeat' (first | (with_reducible exact Below.refl _ _) | (with_reducible assumption) | (with_reducible exact Hid.out (by assumption)) | (with_reducible refine below_a ?_ _) | (with_reducible refine below_dn ?_ _) | (with_reducible refine below_c ?_ (by assumption)) | (with_reducible refine below_d ?_) | (with_reducible refine Below.setCell ?_ ?_ _) | (with_reducible refine Below.alloc ?_ ?_ _) | (with_reducible refine below_call ?_ ?_ (by assumption)) | (with_reducible refine Below.drew ?_) | go_size | ((try simp only [World.size_alloc, World.size_setCell, World.size_drew] at *); omega))))).mono ?_); rintro e w' ⟨rfl, rfl⟩) | ((go_at_call 17); (with_reducible refine (HL3.out S _ w3 H3.out (by (repeat' (first | (with_reducible exact Below.refl _ _) | (with_reducible assumption) | (with_reducible exact Hid.out (by assumption)) | (with_reducible refine below_a ?_ _) | (with_reducible refine below_dn ?_ _) | (with_reducible refine below_c ?_ (by assumption)) | (with_reducible refine below_d ?_) | (with_reducible refine Below.setCell ?_ ?_ _) | (with_reducible refine Below.alloc ?_ ?_ _) | (with_reducible refine below_call ?_ ?_ (by assumption)) | (with_reducible refine Below.drew ?_) | go_size | ((try simp only [World.size_alloc, World.size_setCell, World.size_drew] at *); omega))))).mono ?_); rintro e w' ⟨rfl, rfl⟩) | ((go_at_call 50); (with_reducible refine (HG1.out S _ w3 H3.out (by (repeat' (first | (with_reducible exact Below.refl _ _) | (with_reducible assumption) | (with_reducible exact Hid.out (by assumption)) | (with_reducible refine below_a ?_ _) | (with_reducible refine below_dn ?_ _) | (with_reducible refine below_c ?_ (by assumption)) | (with_reducible refine below_d ?_) | (with_reducible refine Below.setCell ?_ ?_ _) | (with_reducible refine Below.alloc ?_ ?_ _) | (with_reducible refine below_call ?_ ?_ (by assumption)) | (with_reducible refine Below.drew ?_) | go_size | ((try simp only [World.size_alloc, World.size_setCell, World.size_drew] at *); omega))))).mono ?_); rintro e w4 ⟨rfl, hb_w4⟩; obtain ⟨hc, hf⟩ := bcell hb_w4; have hz := hb_w4.size; (try simp only [World.size_alloc, World.size_setCell, World.size_drew] at hz); (first | (with_reducible have hl := lt_rule6 hz) | (with_reducible have hl := lt_rule5 hz) | (with_reducible have hl := lt_rule4 hz) | (with_reducible have hl := lt_rule3 hz) | (with_reducible have hl := lt_rule2 hz) | (with_reducible have hl := lt_rule1 hz) | have hl := lt_rule0 hz); (try (have hz0 : w.heap.size < w4.heap.size := by omega)); (try (have hz1 : w.heap.size + 1 < w4.heap.size := by omega)); (try (have hz2 : w.heap.size + 1 + 1 < w4.heap.size := by omega)); (try (have hz3 : w.heap.size + 1 + 1 + 1 < w4.heap.size := by omega)); (try (have hz4 : w.heap.size + 1 + 1 + 1 + 1 < w4.heap.size := by omega))) | ((go_at_call 50); (with_reducible refine (HG2.out S _ w3 H3.out (by (repeat' (first | (with_reducible exact Below.refl _ _) | (with_reducible assumption) | (with_reducible exact Hid.out (by assumption)) | (with_reducible refine below_a ?_ _) | (with_reducible refine below_dn ?_ _) | (with_reducible refine below_c ?_ (by assumption)) | (with_reducible refine below_d ?_) | (with_reducible refine Below.setCell ?_ ?_ _) | (with_reducible refine Below.alloc ?_ ?_ _) | (with_reducible refine below_call ?_ ?_ (by assumption)) | (with_reducible refine Below.drew ?_) | go_size | ((try simp only [World.size_alloc, World.size_setCell, World.size_drew] at *); omega))))).mono ?_); rintro e w5 ⟨rfl, hb_w5⟩; obtain ⟨hc, hf⟩ := bcell hb_w5; have hz := hb_w5.size; (try simp only [World.size_alloc, World.size_setCell, World.size_drew] at hz); (first | (with_reducible have hl := lt_rule6 hz) | (with_reducible have hl := lt_rule5 hz) | (with_reducible have hl := lt_rule4 hz) | (with_reducible have hl := lt_rule3 hz) | (with_reducible have hl := lt_rule2 hz) | (with_reducible have hl := lt_rule1 hz) | have hl := lt_rule0 hz); (try (have hz0 : w.heap.size < w5.heap.size := by omega)); (try (have hz1 : w.heap.size + 1 < w5.heap.size := by omega)); (try (have hz2 : w.heap.size + 1 + 1 < w5.heap.size := by omega)); (try (have hz3 : w.heap.size + 1 + 1 + 1 < w5.heap.size := by omega)); (try (have hz4 : w.heap.size + 1 + 1 + 1 + 1 < w5.heap.size := by omega))))
  go_ret
  exact ⟨rfl, B3.out.trans ((show Below w3.heap.size w3 w5 from by (repeat' (first | (with_reducible exact Below.refl _ _) | (with_reducible assumption) | (with_reducible exact Hid.out (by assumption)) | (with_reducible refine below_a ?_ _) | (with_reducible refine below_dn ?_ _) | (with_reducible refine below_c ?_ (by assumption)) | (with_reducible refine below_d ?_) | (with_reducible refine Below.setCell ?_ ?_ _) | (with_reducible refine Below.alloc ?_ ?_ _) | (with_reducible refine below_call ?_ ?_ (by assumption)) | (with_reducible refine Below.drew ?_) | go_size | ((try simp only [World.size_alloc, World.size_setCell, World.size_drew] at *); omega)))).mono B3.out.size)⟩
end Go.Proofs.Ytjiliiclebdbfaa
