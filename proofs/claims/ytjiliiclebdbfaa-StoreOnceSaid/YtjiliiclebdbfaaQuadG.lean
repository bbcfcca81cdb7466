/- Contracts of package quad: Set. -/
import Derived.Test.YtjiliiclebdbfaaQuadF
import Derived.Deep.DrawnRows
namespace Go.Proofs.Ytjiliiclebdbfaa
open Go.RowKit
set_option linter.unusedVariables false
set_option linter.unusedSimpArgs false
attribute [local go_sem] eqGuard_errV neq_errV eql_errV
attribute [local go_sem ↓] Go.wp_at_zero Go.wp_at_succ

/-- What Reach leaves. -/
theorem reach_done : ∀ {n x : Nat} {ns : List Nd} {most : Nat} {X Y : Int}, StOk ns → 3 ≤ lvlN ns x → (insB X && insB Y) = true → 62 < lvlN ns x + n →
    Ext ns (reachGo most X Y n x ns).2.2 ∧ StOk (reachGo most X Y n x ns).2.2 ∧ ((reachGo most X Y n x ns).2.1 = 0 → 3 ≤ lvlN (reachGo most X Y n x ns).2.2 (reachGo most X Y n x ns).1 ∧ hasN (reachGo most X Y n x ns).2.2 (reachGo most X Y n x ns).1 X Y = true) ∧ ((reachGo most X Y n x ns).2.1 ≠ 0 → (reachGo most X Y n x ns).1 = 0 ∧ (reachGo most X Y n x ns).2.1 = 7 ∧ most ≤ (reachGo most X Y n x ns).2.2.length) := by
  intro n
  induction n with
  | zero =>
    intro x ns most X Y s h3 hp hn
    have := lvl_le s x
    omega
  | succ n ih =>
    intro x ns most X Y s h3 hp hn
    unfold reachGo
    cases hb : hasN ns x X Y with
    | true => exact ⟨.refl _, s, fun _ => ⟨h3, hb⟩, fun h => absurd rfl h⟩
    | false =>
      have hlv : lvlN ns x < 62 := by
        apply Int.not_le.1
        intro h62
        have := lvl_le s x
        rw [has_top (by omega) hp] at hb
        cases hb
      obtain ⟨r0, _, d, _, _⟩ := expand_done0 (most := most) (x := x) (l := (lvlN ns x - 1).toNat) s (by omega) (by omega)
      generalize expandN ns most x = r at d
      simp only [Bool.false_eq_true, if_false]
      by_cases h0 : r.2.1 = 0
      · rw [if_pos h0]
        have hl := (d.yes h0).1
        obtain ⟨a, b, c, e⟩ := ih (x := r.1) (most := most) (X := X) (Y := Y) d.ok (by rw [hl]; omega) hp (by rw [hl]; omega)
        exact ⟨d.ext.trans a, b, c, e⟩
      · rw [if_neg h0]
        obtain ⟨h1, h2, h3⟩ := d.no h0
        exact ⟨d.ext, d.ok, fun h => absurd h h0, fun _ => ⟨rfl, h2, h3⟩⟩
/-- Set: the square of the plane then. -/
def setPl (ns : List Nd) (most x : Nat) (X Y : Int) (on : Bool) : Res :=
  if (reachGo most X Y 64 x ns).2.1 = 0 then
    setN most on (lvlN (reachGo most X Y 64 x ns).2.2 (reachGo most X Y 64 x ns).1).toNat (reachGo most X Y 64 x ns).1 (X + halfN (lvlN (reachGo most X Y 64 x ns).2.2 (reachGo most X Y 64 x ns).1)).toNat (Y + halfN (lvlN (reachGo most X Y 64 x ns).2.2 (reachGo most X Y 64 x ns).1)).toNat (reachGo most X Y 64 x ns).2.2
  else (0, (reachGo most X Y 64 x ns).2.1, (reachGo most X Y 64 x ns).2.2)
section
variable {base S : Nat} {w : World} {ns : List Nd} {most : Nat}
set_option maxRecDepth 20000 in
set_option maxHeartbeats 4000000 in
theorem setPl_any (h : St base w S ns most) (x : Nat) (hl : 3 ≤ lvlN ns x) (X Y : Int) (on : Bool) (hp : (insB X && insB Y) = true) :
    Calls Try.prog 48 #[.agg #[.pointer (some ⟨S, 0, none⟩), .int .u32 x], .agg #[.int .i64 (X), .int .i64 (Y)], .bool on] w fun e w' => e = .returned (.tuple #[planeV S (setPl ns most x X Y on), errV (setPl ns most x X Y on).2.1]) ∧ Left base S most (setPl ns most x X Y on).2.2 w w' := by
  have hx := lvlN_lt (show 0 ≤ lvlN ns x by omega)
  have H := Lib.hid h
  have HRD := Lib.hid (reach_done (most := most) (n := 64) (x := x) (X := X) (Y := Y) h.ok hl hp (by omega))
  have HRW := Lib.hid (fun W (b : Below w.heap.size w W) => reach_yes (h.below b) x hl X Y hp)
  have HX := Lib.hid (show x < 4294967296 by have := h.two; omega)
  have HE : Hid (setPl ns most x X Y on = _) := Lib.hid (by unfold setPl; rfl)
  clear h hx hl hp
  generalize setPl ns most x X Y on = R at HE ⊢
  generalize reachGo most X Y 64 x ns = r at *
  by_cases he : r.2.1 = 0
  · rw [planeV_ok he, he, errV0] at HRW
    have HE0 := Lib.hid he
    rw [if_pos he] at HE
    have hr := HRD.out.2.2.1 he
    have HR3 := Lib.hid hr
    clear he hr
    go_enter Try.func48, Try.ntmps48
    go_upto_region 4 with ((go_at_call 60); (with_reducible refine (HRW.out _ (by (repeat' (first | (with_reducible exact Below.refl _ _) | (with_reducible assumption) | (with_reducible exact Hid.out (by assumption)) | (with_reducible refine below_a ?_ _) | (with_reducible refine below_dn ?_ _) | (with_reducible refine below_c ?_ (by assumption)) | (with_reducible refine below_d ?_) | (with_reducible refine Below.setCell ?_ ?_ _) | (with_reducible refine Below.alloc ?_ ?_ _) | (with_reducible refine below_call ?_ ?_ (by assumption)) | (with_reducible refine Below.drew ?_) | go_size | ((try simp only [World.size_alloc, World.size_setCell, World.size_drew] at *); omega))))).mono ?_); rintro e w1 ⟨rfl, k1⟩; have K1 := Lib.hid ((Left.of H.out (show Below w.heap.size w _ from by (repeat' (first | (with_reducible exact Below.refl _ _) | (with_reducible assumption) | (with_reducible exact Hid.out (by assumption)) | (with_reducible refine below_a ?_ _) | (with_reducible refine below_dn ?_ _) | (with_reducible refine below_c ?_ (by assumption)) | (with_reducible refine below_d ?_) | (with_reducible refine Below.setCell ?_ ?_ _) | (with_reducible refine Below.alloc ?_ ?_ _) | (with_reducible refine below_call ?_ ?_ (by assumption)) | (with_reducible refine Below.drew ?_) | go_size | ((try simp only [World.size_alloc, World.size_setCell, World.size_drew] at *); omega))))).call k1); have pP := Lib.hid (Pt.left (show Pt _ w.heap.size #[.pointer (some ⟨S, 0, none⟩), .int .u32 x] 91 from by (repeat' (first | (with_reducible assumption) | (with_reducible refine Pt.drew ?_) | (with_reducible refine Pt.new' (by first | rfl | (simp; done) | omega)) | (with_reducible refine Pt.alloc ?_ _) | (with_reducible refine Pt.keep ?_ (by with_reducible assumption))))) (H.out.below (by (repeat' (first | (with_reducible exact Below.refl _ _) | (with_reducible assumption) | (with_reducible exact Hid.out (by assumption)) | (with_reducible refine below_a ?_ _) | (with_reducible refine below_dn ?_ _) | (with_reducible refine below_c ?_ (by assumption)) | (with_reducible refine below_d ?_) | (with_reducible refine Below.setCell ?_ ?_ _) | (with_reducible refine Below.alloc ?_ ?_ _) | (with_reducible refine below_call ?_ ?_ (by assumption)) | (with_reducible refine Below.drew ?_) | go_size | ((try simp only [World.size_alloc, World.size_setCell, World.size_drew] at *); omega))))) k1 (by decide) (by decide) (by decide)); have pQ := Lib.hid (Pt.left (show Pt _ (w.heap.size + 1) #[.int .i64 X, .int .i64 Y] 95 from by (repeat' (first | (with_reducible assumption) | (with_reducible refine Pt.drew ?_) | (with_reducible refine Pt.new' (by first | rfl | (simp; done) | omega)) | (with_reducible refine Pt.alloc ?_ _) | (with_reducible refine Pt.keep ?_ (by with_reducible assumption))))) (H.out.below (by (repeat' (first | (with_reducible exact Below.refl _ _) | (with_reducible assumption) | (with_reducible exact Hid.out (by assumption)) | (with_reducible refine below_a ?_ _) | (with_reducible refine below_dn ?_ _) | (with_reducible refine below_c ?_ (by assumption)) | (with_reducible refine below_d ?_) | (with_reducible refine Below.setCell ?_ ?_ _) | (with_reducible refine Below.alloc ?_ ?_ _) | (with_reducible refine below_call ?_ ?_ (by assumption)) | (with_reducible refine Below.drew ?_) | go_size | ((try simp only [World.size_alloc, World.size_setCell, World.size_drew] at *); omega))))) k1 (by decide) (by decide) (by decide)); have pR := Lib.hid (Pt.left (show Pt _ (w.heap.size + 1 + 1) #[.pointer none, .int .u32 0] 91 from by (repeat' (first | (with_reducible assumption) | (with_reducible refine Pt.drew ?_) | (with_reducible refine Pt.new' (by first | rfl | (simp; done) | omega)) | (with_reducible refine Pt.alloc ?_ _) | (with_reducible refine Pt.keep ?_ (by with_reducible assumption))))) (H.out.below (by (repeat' (first | (with_reducible exact Below.refl _ _) | (with_reducible assumption) | (with_reducible exact Hid.out (by assumption)) | (with_reducible refine below_a ?_ _) | (with_reducible refine below_dn ?_ _) | (with_reducible refine below_c ?_ (by assumption)) | (with_reducible refine below_d ?_) | (with_reducible refine Below.setCell ?_ ?_ _) | (with_reducible refine Below.alloc ?_ ?_ _) | (with_reducible refine below_call ?_ ?_ (by assumption)) | (with_reducible refine Below.drew ?_) | go_size | ((try simp only [World.size_alloc, World.size_setCell, World.size_drew] at *); omega))))) k1 (by decide) (by decide) (by decide)); have cP := pP.out.cell; have fP := pP.out.frozen; have lP := pP.out.lt; clear k1)
    have pP2 := Lib.hid ((pP.out.set 0 (.pointer (some ⟨S, 0, none⟩))).set 1 (.int .u32 r.1))
    have pQ2 := Lib.hid ((pQ.out.set_ne (a := ⟨w.heap.size, 0, none⟩) (by simp) (.pointer (some ⟨S, 0, none⟩))).set_ne (a := ⟨w.heap.size, 1, none⟩) (by simp) (.int .u32 r.1))
    have pR2 := Lib.hid ((pR.out.set_ne (a := ⟨w.heap.size, 0, none⟩) (by simp; omega) (.pointer (some ⟨S, 0, none⟩))).set_ne (a := ⟨w.heap.size, 1, none⟩) (by simp; omega) (.int .u32 r.1))
    have K2 := Lib.hid (Left.set2 K1.out pP.out (by decide) (by decide) (by decide) (by omega) 0 (.pointer (some ⟨S, 0, none⟩)) 1 (.int .u32 r.1))
    replace pP2 : Hid (Pt _ w.heap.size #[.pointer (some ⟨S, 0, none⟩), .int .u32 r.1] 91) := pP2
    clear pP pQ pR K1 cP fP lP
    generalize (w1.setCell ⟨w.heap.size, 0, none⟩ (.pointer (some ⟨S, 0, none⟩))).setCell ⟨w.heap.size, 1, none⟩ (.int .u32 r.1) = W2 at *
    have r32 := Lib.hid (show r.1 < 4294967296 from by have := lvlN_lt (show 0 ≤ lvlN r.2.2 r.1 by have := HR3.out.1; omega); have := K2.out.st.two; omega)
    have HST := Lib.hid (fun W (b : Below W2.heap.size W2 W) => start_any (K2.out.st.below b) r.1 r32.out X Y HR3.out.2)
    have hlt := has_lt (ns := r.2.2) (x := r.1) (l := (lvlN r.2.2 r.1).toNat - 1) (by have := HR3.out.1; omega) HR3.out.2
    rw [show (lvlN r.2.2 r.1).toNat - 1 + 1 = (lvlN r.2.2 r.1).toNat by have := HR3.out.1; omega] at hlt
    have HSET := Lib.hid (fun W (b : Below W2.heap.size W2 W) => set_any (K2.out.st.below b) on (x := r.1) (l := (lvlN r.2.2 r.1).toNat) (by have := HR3.out.1; omega) hlt.1 hlt.2)
    rw [← HE.out] at HSET
    clear hlt
    generalize (X + halfN (lvlN r.2.2 r.1)).toNat = px at *
    generalize (Y + halfN (lvlN r.2.2 r.1)).toNat = py at *
    have cP := pP2.out.cell
    have cQ := pQ2.out.cell
    have cR := pR2.out.cell
    have fR := pR2.out.frozen
    have lP := pP2.out.lt
    have lQ := pQ2.out.lt
    have lR := pR2.out.lt
    go_cut [8, 9] (fun s8 s9 W => s9 = .int .u32 (R.1 : Nat) ∧ s8 = errV R.2.1 ∧ Hid (Left base S most R.2.2 W2 W))
    case first =>
      go_region_with (first | ((go_at_call 82); (with_reducible refine (HST.out _ (by (repeat' (first | (with_reducible exact Below.refl _ _) | (with_reducible assumption) | (with_reducible exact Hid.out (by assumption)) | (with_reducible refine below_a ?_ _) | (with_reducible refine below_dn ?_ _) | (with_reducible refine below_c ?_ (by assumption)) | (with_reducible refine below_d ?_) | (with_reducible refine Below.setCell ?_ ?_ _) | (with_reducible refine Below.alloc ?_ ?_ _) | (with_reducible refine below_call ?_ ?_ (by assumption)) | (with_reducible refine Below.drew ?_) | go_size | ((try simp only [World.size_alloc, World.size_setCell, World.size_drew] at *); omega))))).mono ?_); rintro e w2 ⟨rfl, hb_w2⟩; obtain ⟨hc, hf⟩ := bcell hb_w2; have hz := hb_w2.size; (try simp only [World.size_alloc, World.size_setCell, World.size_drew] at hz); (first | (with_reducible have hl := lt_rule6 hz) | (with_reducible have hl := lt_rule5 hz) | (with_reducible have hl := lt_rule4 hz) | (with_reducible have hl := lt_rule3 hz) | (with_reducible have hl := lt_rule2 hz) | (with_reducible have hl := lt_rule1 hz) | have hl := lt_rule0 hz); (try (have hz0 : w.heap.size < w2.heap.size := by omega)); (try (have hz1 : w.heap.size + 1 < w2.heap.size := by omega)); (try (have hz2 : w.heap.size + 1 + 1 < w2.heap.size := by omega)); (try (have hz3 : w.heap.size + 1 + 1 + 1 < w2.heap.size := by omega)); (try (have hz4 : w.heap.size + 1 + 1 + 1 + 1 < w2.heap.size := by omega)); (try simp only [World.size_drew] at hc hf)) | ((go_at_call 81); (with_reducible refine (HSET.out _ (by (repeat' (first | (with_reducible exact Below.refl _ _) | (with_reducible assumption) | (with_reducible exact Hid.out (by assumption)) | (with_reducible refine below_a ?_ _) | (with_reducible refine below_dn ?_ _) | (with_reducible refine below_c ?_ (by assumption)) | (with_reducible refine below_d ?_) | (with_reducible refine Below.setCell ?_ ?_ _) | (with_reducible refine Below.alloc ?_ ?_ _) | (with_reducible refine below_call ?_ ?_ (by assumption)) | (with_reducible refine Below.drew ?_) | go_size | ((try simp only [World.size_alloc, World.size_setCell, World.size_drew] at *); omega))))).mono ?_); rintro e w3 ⟨rfl, k3⟩; have K3 := Lib.hid ((Left.of K2.out.st (show Below W2.heap.size W2 _ from by (repeat' (first | (with_reducible exact Below.refl _ _) | (with_reducible assumption) | (with_reducible exact Hid.out (by assumption)) | (with_reducible refine below_a ?_ _) | (with_reducible refine below_dn ?_ _) | (with_reducible refine below_c ?_ (by assumption)) | (with_reducible refine below_d ?_) | (with_reducible refine Below.setCell ?_ ?_ _) | (with_reducible refine Below.alloc ?_ ?_ _) | (with_reducible refine below_call ?_ ?_ (by assumption)) | (with_reducible refine Below.drew ?_) | go_size | ((try simp only [World.size_alloc, World.size_setCell, World.size_drew] at *); omega))))).call k3); clear k3))
      all_goals (go_wp2_with fail; go_meet)
      all_goals exact ⟨rfl, rfl, K3⟩
    case rest =>
      obtain ⟨rfl, rfl, k3⟩ := hcut
      have K3 := Lib.hid (K2.out.call k3.out)
      have pP3 := Lib.hid (Pt.left pP2.out K2.out.st k3.out (by decide) (by decide) (by decide))
      have pR3 := Lib.hid (Pt.left pR2.out K2.out.st k3.out (by decide) (by decide) (by decide))
      clear cP cQ cR fR lP lQ lR
      have cP := pP3.out.cell
      have cR := pR3.out.cell
      have fR := pR3.out.frozen
      have lR := pR3.out.lt
      go_wp2_with fail
      · refine bodyPost_ret (by simp [results, Try.results48, go_sem, *]; rfl) rfl ?_
        have h0 : ¬ R.2.1 = 0 := by simpa using ‹(!decide _) = true›
        exact ⟨by rw [planeV_no h0], K3.out.set2 pR3.out (by decide) (by decide) (by decide) (by omega) _ _ _ _⟩
      · refine bodyPost_ret (by simp [results, Try.results48, go_sem, *]; rfl) rfl ?_
        have h0 : R.2.1 = 0 := by simpa using ‹(!decide _) = false›
        exact ⟨by rw [planeV_ok h0, h0]; rfl, K3.out.set2 pR3.out (by decide) (by decide) (by decide) (by omega) _ _ _ _⟩
  · rw [planeV_no he] at HRW
    have HE0 := Lib.hid he
    rw [if_neg he] at HE
    clear he
    go_enter Try.func48, Try.ntmps48
    go_wp2_with ((go_at_call 60); (with_reducible refine (HRW.out _ (by (repeat' (first | (with_reducible exact Below.refl _ _) | (with_reducible assumption) | (with_reducible exact Hid.out (by assumption)) | (with_reducible refine below_a ?_ _) | (with_reducible refine below_dn ?_ _) | (with_reducible refine below_c ?_ (by assumption)) | (with_reducible refine below_d ?_) | (with_reducible refine Below.setCell ?_ ?_ _) | (with_reducible refine Below.alloc ?_ ?_ _) | (with_reducible refine below_call ?_ ?_ (by assumption)) | (with_reducible refine Below.drew ?_) | go_size | ((try simp only [World.size_alloc, World.size_setCell, World.size_drew] at *); omega))))).mono ?_); rintro e w1 ⟨rfl, k1⟩; have K1 := Lib.hid ((Left.of H.out (show Below w.heap.size w _ from by (repeat' (first | (with_reducible exact Below.refl _ _) | (with_reducible assumption) | (with_reducible exact Hid.out (by assumption)) | (with_reducible refine below_a ?_ _) | (with_reducible refine below_dn ?_ _) | (with_reducible refine below_c ?_ (by assumption)) | (with_reducible refine below_d ?_) | (with_reducible refine Below.setCell ?_ ?_ _) | (with_reducible refine Below.alloc ?_ ?_ _) | (with_reducible refine below_call ?_ ?_ (by assumption)) | (with_reducible refine Below.drew ?_) | go_size | ((try simp only [World.size_alloc, World.size_setCell, World.size_drew] at *); omega))))).call k1); have pP := Lib.hid (Pt.left (show Pt _ w.heap.size #[.pointer (some ⟨S, 0, none⟩), .int .u32 x] 91 from by (repeat' (first | (with_reducible assumption) | (with_reducible refine Pt.drew ?_) | (with_reducible refine Pt.new' (by first | rfl | (simp; done) | omega)) | (with_reducible refine Pt.alloc ?_ _) | (with_reducible refine Pt.keep ?_ (by with_reducible assumption))))) (H.out.below (by (repeat' (first | (with_reducible exact Below.refl _ _) | (with_reducible assumption) | (with_reducible exact Hid.out (by assumption)) | (with_reducible refine below_a ?_ _) | (with_reducible refine below_dn ?_ _) | (with_reducible refine below_c ?_ (by assumption)) | (with_reducible refine below_d ?_) | (with_reducible refine Below.setCell ?_ ?_ _) | (with_reducible refine Below.alloc ?_ ?_ _) | (with_reducible refine below_call ?_ ?_ (by assumption)) | (with_reducible refine Below.drew ?_) | go_size | ((try simp only [World.size_alloc, World.size_setCell, World.size_drew] at *); omega))))) k1 (by decide) (by decide) (by decide)); have pR := Lib.hid (Pt.left (show Pt _ (w.heap.size + 1 + 1) #[.pointer none, .int .u32 0] 91 from by (repeat' (first | (with_reducible assumption) | (with_reducible refine Pt.drew ?_) | (with_reducible refine Pt.new' (by first | rfl | (simp; done) | omega)) | (with_reducible refine Pt.alloc ?_ _) | (with_reducible refine Pt.keep ?_ (by with_reducible assumption))))) (H.out.below (by (repeat' (first | (with_reducible exact Below.refl _ _) | (with_reducible assumption) | (with_reducible exact Hid.out (by assumption)) | (with_reducible refine below_a ?_ _) | (with_reducible refine below_dn ?_ _) | (with_reducible refine below_c ?_ (by assumption)) | (with_reducible refine below_d ?_) | (with_reducible refine Below.setCell ?_ ?_ _) | (with_reducible refine Below.alloc ?_ ?_ _) | (with_reducible refine below_call ?_ ?_ (by assumption)) | (with_reducible refine Below.drew ?_) | go_size | ((try simp only [World.size_alloc, World.size_setCell, World.size_drew] at *); omega))))) k1 (by decide) (by decide) (by decide)); have cP := pP.out.cell; have fP := pP.out.frozen; have lP := pP.out.lt; have cR := pR.out.cell; have fR := pR.out.frozen; have lR := pR.out.lt; clear k1)
    · refine bodyPost_ret (by simp [results, Try.results48, go_sem, *]; rfl) rfl ?_
      rw [HE.out]
      exact ⟨by rw [planeV_no (show ¬ ((0, r.2.1, r.2.2) : Res).2.1 = 0 from HE0.out)], (Left.set2 K1.out pP.out (by decide) (by decide) (by decide) (by omega) _ _ _ _).set2 ((pR.out.set_ne (by simp; omega) _).set_ne (by simp; omega) _) (by decide) (by decide) (by decide) (by omega) _ _ _ _⟩
    · exact absurd (by have h := ‹(!decide _) = false›; simpa using h) HE0.out
end
end Go.Proofs.Ytjiliiclebdbfaa
