/- Contracts of package quad: Expand. -/
import Derived.Test.YtjiliiclebdbfaaQuadC
import Derived.Deep.DrawnRows
namespace Go.Proofs.Ytjiliiclebdbfaa
open Go.RowKit
set_option linter.unusedVariables false
set_option linter.unusedSimpArgs false
attribute [local go_sem] eqGuard_errV neq_errV eql_errV
attribute [local go_sem ↓] Go.wp_at_zero Go.wp_at_succ

/-- The four greater quarters, one behind the other, from the i-th on; their square. -/
def exGo (most : Nat) (kk : K4) (o : Nat) : Nat → Nat → K4 → List Nd → Res
  | 0, _, out, ns => makeN ns most out
  | n + 1, i, out, ns => if (makeN ns most (setK ⟨o, o, o, o⟩ (3 - i) (kid kk i))).2.1 = 0 then exGo most kk o n (i + 1) (setK out i (makeN ns most (setK ⟨o, o, o, o⟩ (3 - i) (kid kk i))).1) (makeN ns most (setK ⟨o, o, o, o⟩ (3 - i) (kid kk i))).2.2 else (0, (makeN ns most (setK ⟨o, o, o, o⟩ (3 - i) (kid kk i))).2.1, (makeN ns most (setK ⟨o, o, o, o⟩ (3 - i) (kid kk i))).2.2)
def expandN (ns : List Nd) (most x : Nat) : Res :=
  if 1 ≤ lvlN ns x ∧ lvlN ns x < 62 then
    if (emptyN ns most (lvlN ns x - 1)).2.1 = 0 then exGo most (kidsOf ns x) (emptyN ns most (lvlN ns x - 1)).1 4 0 ⟨0, 0, 0, 0⟩ (emptyN ns most (lvlN ns x - 1)).2.2 else (0, (emptyN ns most (lvlN ns x - 1)).2.1, (emptyN ns most (lvlN ns x - 1)).2.2)
  else (0, 1, ns)
theorem errV0 : errV 0 = .nilIface := rfl
section
variable {base S : Nat} {w : World} {ns : List Nd} {most : Nat}
theorem makeN_32 (h : St base w S ns most) (k : K4) : (makeN ns most k).1 < 4294967296 := by
  have h2 := h.two
  have := makeN_lt (k := k) (show 0 < ns.length by omega) h2.2.1
  omega
theorem emptyN_32 (h : St base w S ns most) {l : Nat} (hl : l ≤ 62) {w' : World} (h' : St base w' S (emptyN ns most l).2.2 most) : (emptyN ns most l).1 < 4294967296 := by
  have d := empty_done (most := most) h.ok hl
  have h2 := h'.two
  by_cases h0 : (emptyN ns most l).2.1 = 0
  · have := lvlN_lt (show 0 ≤ lvlN (emptyN ns most l).2.2 (emptyN ns most l).1 by rw [(d.yes h0).1]; omega)
    omega
  · rw [(d.no h0).1]; omega
theorem expand_no (h : St base w S ns most) (x : Nat) (hx : x < 4294967296) (hl : ¬ (1 ≤ lvlN ns x ∧ lvlN ns x < 62)) :
    Calls Try.prog 58 #[.agg #[.pointer (some ⟨S, 0, none⟩), .int .u32 x]] w fun e w' => e = .returned (.tuple #[.agg #[.pointer none, .int .u32 0], errV 1]) ∧ Left base S most ns w w' := by
  have H := Lib.hid h
  have HX := Lib.hid hx
  clear hx
  by_cases h1 : 1 ≤ lvlN ns x
  · have hl1 : lvlN ns x = ((lvlN ns x - 1).toNat : Nat) + 1 := by omega
    have HO := Lib.hid (fun W (b : Below w.heap.size w W) => of_in h x hl1 b)
    have HV := Lib.hid (fun W (b : Below w.heap.size w W) => level_at h x HX.out _ rfl b)
    have hd : decide (62 ≤ lvlN ns x) = true := decide_eq_true (by omega)
    clear h hl hl1 h1
    go_enter Try.func58, Try.ntmps58
    go_wp2_with (first | ((go_at_call 28); (with_reducible refine (HO.out _ (by (repeat' (first | (with_reducible exact Below.refl _ _) | (with_reducible assumption) | (with_reducible exact Hid.out (by assumption)) | (with_reducible refine below_a ?_ _) | (with_reducible refine below_dn ?_ _) | (with_reducible refine below_c ?_ (by assumption)) | (with_reducible refine below_d ?_) | (with_reducible refine Below.setCell ?_ ?_ _) | (with_reducible refine Below.alloc ?_ ?_ _) | (with_reducible refine below_call ?_ ?_ (by assumption)) | (with_reducible refine Below.drew ?_) | go_size | ((try simp only [World.size_alloc, World.size_setCell, World.size_drew] at *); omega))))).mono ?_); rintro e w1 ⟨rfl, hb_w1⟩; obtain ⟨hc, hf⟩ := bcell hb_w1; have hz := hb_w1.size; (try simp only [World.size_alloc, World.size_setCell, World.size_drew] at hz); (first | (with_reducible have hl := lt_rule6 hz) | (with_reducible have hl := lt_rule5 hz) | (with_reducible have hl := lt_rule4 hz) | (with_reducible have hl := lt_rule3 hz) | (with_reducible have hl := lt_rule2 hz) | (with_reducible have hl := lt_rule1 hz) | have hl := lt_rule0 hz); (try (have hz0 : w.heap.size < w1.heap.size := by omega)); (try (have hz1 : w.heap.size + 1 < w1.heap.size := by omega)); (try (have hz2 : w.heap.size + 1 + 1 < w1.heap.size := by omega)); (try (have hz3 : w.heap.size + 1 + 1 + 1 < w1.heap.size := by omega)); (try (have hz4 : w.heap.size + 1 + 1 + 1 + 1 < w1.heap.size := by omega))) | ((go_at_call 17); (with_reducible refine (HV.out _ (by (repeat' (first | (with_reducible exact Below.refl _ _) | (with_reducible assumption) | (with_reducible exact Hid.out (by assumption)) | (with_reducible refine below_a ?_ _) | (with_reducible refine below_dn ?_ _) | (with_reducible refine below_c ?_ (by assumption)) | (with_reducible refine below_d ?_) | (with_reducible refine Below.setCell ?_ ?_ _) | (with_reducible refine Below.alloc ?_ ?_ _) | (with_reducible refine below_call ?_ ?_ (by assumption)) | (with_reducible refine Below.drew ?_) | go_size | ((try simp only [World.size_alloc, World.size_setCell, World.size_drew] at *); omega))))).mono ?_); rintro e w' ⟨rfl, rfl⟩) | ((go_at_call 61); (with_reducible refine (of_num 1 _ rfl).mono ?_); rintro e w' ⟨rfl, rfl⟩))
    refine bodyPost_ret (by simp [results, Try.results58, go_sem, *]; rfl) rfl ?_
    exact ⟨rfl, Left.of H.out (by (repeat' (first | (with_reducible exact Below.refl _ _) | (with_reducible assumption) | (with_reducible exact Hid.out (by assumption)) | (with_reducible refine below_a ?_ _) | (with_reducible refine below_dn ?_ _) | (with_reducible refine below_c ?_ (by assumption)) | (with_reducible refine below_d ?_) | (with_reducible refine Below.setCell ?_ ?_ _) | (with_reducible refine Below.alloc ?_ ?_ _) | (with_reducible refine below_call ?_ ?_ (by assumption)) | (with_reducible refine Below.drew ?_) | go_size | ((try simp only [World.size_alloc, World.size_setCell, World.size_drew] at *); omega))))⟩
  · have HO := Lib.hid (fun W (b : Below w.heap.size w W) => of_out h x HX.out (by omega) b)
    clear h hl h1
    go_enter Try.func58, Try.ntmps58
    go_wp2_with (first | ((go_at_call 28); (with_reducible refine (HO.out _ (by (repeat' (first | (with_reducible exact Below.refl _ _) | (with_reducible assumption) | (with_reducible exact Hid.out (by assumption)) | (with_reducible refine below_a ?_ _) | (with_reducible refine below_dn ?_ _) | (with_reducible refine below_c ?_ (by assumption)) | (with_reducible refine below_d ?_) | (with_reducible refine Below.setCell ?_ ?_ _) | (with_reducible refine Below.alloc ?_ ?_ _) | (with_reducible refine below_call ?_ ?_ (by assumption)) | (with_reducible refine Below.drew ?_) | go_size | ((try simp only [World.size_alloc, World.size_setCell, World.size_drew] at *); omega))))).mono ?_); rintro e w1 ⟨rfl, hb_w1⟩; obtain ⟨hc, hf⟩ := bcell hb_w1; have hz := hb_w1.size; (try simp only [World.size_alloc, World.size_setCell, World.size_drew] at hz); (first | (with_reducible have hl := lt_rule6 hz) | (with_reducible have hl := lt_rule5 hz) | (with_reducible have hl := lt_rule4 hz) | (with_reducible have hl := lt_rule3 hz) | (with_reducible have hl := lt_rule2 hz) | (with_reducible have hl := lt_rule1 hz) | have hl := lt_rule0 hz); (try (have hz0 : w.heap.size < w1.heap.size := by omega)); (try (have hz1 : w.heap.size + 1 < w1.heap.size := by omega)); (try (have hz2 : w.heap.size + 1 + 1 < w1.heap.size := by omega)); (try (have hz3 : w.heap.size + 1 + 1 + 1 < w1.heap.size := by omega)); (try (have hz4 : w.heap.size + 1 + 1 + 1 + 1 < w1.heap.size := by omega))) | ((go_at_call 61); (with_reducible refine (of_num 1 _ rfl).mono ?_); rintro e w' ⟨rfl, rfl⟩))
    refine bodyPost_ret (by simp [results, Try.results58, go_sem, *]; rfl) rfl ?_
    exact ⟨rfl, Left.of H.out (by (repeat' (first | (with_reducible exact Below.refl _ _) | (with_reducible assumption) | (with_reducible exact Hid.out (by assumption)) | (with_reducible refine below_a ?_ _) | (with_reducible refine below_dn ?_ _) | (with_reducible refine below_c ?_ (by assumption)) | (with_reducible refine below_d ?_) | (with_reducible refine Below.setCell ?_ ?_ _) | (with_reducible refine Below.alloc ?_ ?_ _) | (with_reducible refine below_call ?_ ?_ (by assumption)) | (with_reducible refine Below.drew ?_) | go_size | ((try simp only [World.size_alloc, World.size_setCell, World.size_drew] at *); omega))))⟩
set_option maxRecDepth 20000 in
set_option maxHeartbeats 4000000 in
theorem expand_yes (h : St base w S ns most) (x l : Nat) (hl : lvlN ns x = (l : Int) + 1) (hl2 : l < 61) :
    Calls Try.prog 58 #[.agg #[.pointer (some ⟨S, 0, none⟩), .int .u32 x]] w fun e w' => e = .returned (.tuple #[planeV S (expandN ns most x), errV (expandN ns most x).2.1]) ∧ Left base S most (expandN ns most x).2.2 w w' := by
  have h2 := h.two
  have hx := lvlN_lt (show 0 ≤ lvlN ns x by omega)
  have hkk := lvl_kids h.ok hl
  have HX := Lib.hid (And.intro (show x < 4294967296 by omega) hl2)
  have HO := Lib.hid (fun W (b : Below w.heap.size w W) => of_in h x hl b)
  have HV := Lib.hid (fun W (b : Below w.heap.size w W) => level_at h x HX.out.1 ((l : Int) + 1) hl b)
  have hd : decide (62 ≤ (l : Int) + 1) = false := decide_eq_false (by omega)
  have HE : Hid (expandN ns most x = if (emptyN ns most l).2.1 = 0 then exGo most (kidsOf ns x) (emptyN ns most l).1 4 0 ⟨0, 0, 0, 0⟩ (emptyN ns most l).2.2 else (0, (emptyN ns most l).2.1, (emptyN ns most l).2.2)) := Lib.hid (by
    unfold expandN
    rw [if_pos ⟨by omega, by omega⟩, hl, show ((l : Int) + 1 - 1) = l by omega])
  have HM := Lib.hid (fun W (b : Below w.heap.size w W) => empty_l (h.below b) (l : Int))
  have H32 := Lib.hid (fun w' (h' : St base w' S (emptyN ns most l).2.2 most) => emptyN_32 h (show l ≤ 62 by omega) h')
  have HK := Lib.hid (fun i => show kid (kidsOf ns x) i < 4294967296 by have := (hkk.2.2 i).2; omega)
  have H := Lib.hid h
  have hw0 := Lib.hid (show IntKind.i64.wrap (l : Int) = (l : Int) by rw [i64_w, w64 (by omega) (by omega)])
  clear h h2 hx hl hl2 hkk
  generalize expandN ns most x = R at HE ⊢
  generalize emptyN ns most l = r at *
  generalize kidsOf ns x = kk at *
  have hpl1 := Lib.hid (planeV_ok (S := S) (r := R))
  have hpl2 := Lib.hid (planeV_no (S := S) (r := R))
  go_enter Try.func58, Try.ntmps58
  go_upto_region 4 with (first | ((go_at_call 28); (with_reducible refine (HO.out _ (by (repeat' (first | (with_reducible exact Below.refl _ _) | (with_reducible assumption) | (with_reducible exact Hid.out (by assumption)) | (with_reducible refine below_a ?_ _) | (with_reducible refine below_dn ?_ _) | (with_reducible refine below_c ?_ (by assumption)) | (with_reducible refine below_d ?_) | (with_reducible refine Below.setCell ?_ ?_ _) | (with_reducible refine Below.alloc ?_ ?_ _) | (with_reducible refine below_call ?_ ?_ (by assumption)) | (with_reducible refine Below.drew ?_) | go_size | ((try simp only [World.size_alloc, World.size_setCell, World.size_drew] at *); omega))))).mono ?_); rintro e w1 ⟨rfl, hb_w1⟩; obtain ⟨hc, hf⟩ := bcell hb_w1; have hz := hb_w1.size; (try simp only [World.size_alloc, World.size_setCell, World.size_drew] at hz); (first | (with_reducible have hl := lt_rule6 hz) | (with_reducible have hl := lt_rule5 hz) | (with_reducible have hl := lt_rule4 hz) | (with_reducible have hl := lt_rule3 hz) | (with_reducible have hl := lt_rule2 hz) | (with_reducible have hl := lt_rule1 hz) | have hl := lt_rule0 hz); (try (have hz0 : w.heap.size < w1.heap.size := by omega)); (try (have hz1 : w.heap.size + 1 < w1.heap.size := by omega)); (try (have hz2 : w.heap.size + 1 + 1 < w1.heap.size := by omega)); (try (have hz3 : w.heap.size + 1 + 1 + 1 < w1.heap.size := by omega)); (try (have hz4 : w.heap.size + 1 + 1 + 1 + 1 < w1.heap.size := by omega))) | ((go_at_call 17); (with_reducible refine (HV.out _ (by (repeat' (first | (with_reducible exact Below.refl _ _) | (with_reducible assumption) | (with_reducible exact Hid.out (by assumption)) | (with_reducible refine below_a ?_ _) | (with_reducible refine below_dn ?_ _) | (with_reducible refine below_c ?_ (by assumption)) | (with_reducible refine below_d ?_) | (with_reducible refine Below.setCell ?_ ?_ _) | (with_reducible refine Below.alloc ?_ ?_ _) | (with_reducible refine below_call ?_ ?_ (by assumption)) | (with_reducible refine Below.drew ?_) | go_size | ((try simp only [World.size_alloc, World.size_setCell, World.size_drew] at *); omega))))).mono ?_); rintro e w' ⟨rfl, rfl⟩))
  have pP := Lib.hid ((Pt.keep (show Pt _ w.heap.size #[.pointer (some ⟨S, 0, none⟩), .int .u32 x] 91 from by (repeat' (first | (with_reducible assumption) | (with_reducible refine Pt.drew ?_) | (with_reducible refine Pt.new' (by first | rfl | (simp; done) | omega)) | (with_reducible refine Pt.alloc ?_ _) | (with_reducible refine Pt.keep ?_ (by with_reducible assumption))))) hb_w1).alloc (.cells (kArr kk) 55))
  have pR := Lib.hid ((Pt.keep (show Pt _ (w.heap.size + 1) #[.pointer none, .int .u32 0] 91 from by (repeat' (first | (with_reducible assumption) | (with_reducible refine Pt.drew ?_) | (with_reducible refine Pt.new' (by first | rfl | (simp; done) | omega)) | (with_reducible refine Pt.alloc ?_ _) | (with_reducible refine Pt.keep ?_ (by with_reducible assumption))))) hb_w1).alloc (.cells (kArr kk) 55))
  have pK := Lib.hid (Pt.new w1 (kArr kk) 55)
  have HB := Lib.hid (below_a (show Below w.heap.size w w1 from by (repeat' (first | (with_reducible exact Below.refl _ _) | (with_reducible assumption) | (with_reducible exact Hid.out (by assumption)) | (with_reducible refine below_a ?_ _) | (with_reducible refine below_dn ?_ _) | (with_reducible refine below_c ?_ (by assumption)) | (with_reducible refine below_d ?_) | (with_reducible refine Below.setCell ?_ ?_ _) | (with_reducible refine Below.alloc ?_ ?_ _) | (with_reducible refine below_call ?_ ?_ (by assumption)) | (with_reducible refine Below.drew ?_) | go_size | ((try simp only [World.size_alloc, World.size_setCell, World.size_drew] at *); omega)))) (.cells (kArr kk) 55))
  unfold kArr at pP pR pK HB
  have B1 := Lib.hid (show Below w.heap.size w w1 from by (repeat' (first | (with_reducible exact Below.refl _ _) | (with_reducible assumption) | (with_reducible exact Hid.out (by assumption)) | (with_reducible refine below_a ?_ _) | (with_reducible refine below_dn ?_ _) | (with_reducible refine below_c ?_ (by assumption)) | (with_reducible refine below_d ?_) | (with_reducible refine Below.setCell ?_ ?_ _) | (with_reducible refine Below.alloc ?_ ?_ _) | (with_reducible refine below_call ?_ ?_ (by assumption)) | (with_reducible refine Below.drew ?_) | go_size | ((try simp only [World.size_alloc, World.size_setCell, World.size_drew] at *); omega))))
  clear hb_w1 hc hf hz hl hz0 hz1 hd
  generalize hKb : w1.heap.size = kb at *
  have HKb := Lib.hid (show w.heap.size ≤ kb by rw [← hKb]; exact (show Below w.heap.size w w1 from B1.out).size)
  clear hKb B1
  generalize w1.alloc (.cells #[.int .u32 kk.a, .int .u32 kk.b, .int .u32 kk.c, .int .u32 kk.d] 55) = W1 at *
  have cp0 : W1.cell? ⟨w.heap.size, 0, none⟩ = some (.pointer (some ⟨S, 0, none⟩)) := by rw [pP.out.cell]; rfl
  have cp1 : W1.cell? ⟨w.heap.size, 1, none⟩ = some (.int .u32 x) := by rw [pP.out.cell]; rfl
  have hw1 := hw0.out
  go_cut [6, 7] (fun s6 s7 W => s6 = .int .u32 (r.1 : Nat) ∧ s7 = errV r.2.1 ∧ Hid (Left base S most r.2.2 W1 W))
  case first =>
    go_region_with (first | ((go_at_call 17); (with_reducible refine (HV.out _ (by (repeat' (first | (with_reducible exact Below.refl _ _) | (with_reducible assumption) | (with_reducible exact Hid.out (by assumption)) | (with_reducible refine below_a ?_ _) | (with_reducible refine below_dn ?_ _) | (with_reducible refine below_c ?_ (by assumption)) | (with_reducible refine below_d ?_) | (with_reducible refine Below.setCell ?_ ?_ _) | (with_reducible refine Below.alloc ?_ ?_ _) | (with_reducible refine below_call ?_ ?_ (by assumption)) | (with_reducible refine Below.drew ?_) | go_size | ((try simp only [World.size_alloc, World.size_setCell, World.size_drew] at *); omega))))).mono ?_); rintro e w' ⟨rfl, rfl⟩) | ((go_at_call 32); (with_reducible refine (HM.out _ (by (repeat' (first | (with_reducible exact Below.refl _ _) | (with_reducible assumption) | (with_reducible exact Hid.out (by assumption)) | (with_reducible refine below_a ?_ _) | (with_reducible refine below_dn ?_ _) | (with_reducible refine below_c ?_ (by assumption)) | (with_reducible refine below_d ?_) | (with_reducible refine Below.setCell ?_ ?_ _) | (with_reducible refine Below.alloc ?_ ?_ _) | (with_reducible refine below_call ?_ ?_ (by assumption)) | (with_reducible refine Below.drew ?_) | go_size | ((try simp only [World.size_alloc, World.size_setCell, World.size_drew] at *); omega))))).mono ?_); rintro e w3 ⟨rfl, k3⟩; have K3 := Lib.hid ((Left.of (H.out.below HB.out) (show Below W1.heap.size W1 _ from by (repeat' (first | (with_reducible exact Below.refl _ _) | (with_reducible assumption) | (with_reducible exact Hid.out (by assumption)) | (with_reducible refine below_a ?_ _) | (with_reducible refine below_dn ?_ _) | (with_reducible refine below_c ?_ (by assumption)) | (with_reducible refine below_d ?_) | (with_reducible refine Below.setCell ?_ ?_ _) | (with_reducible refine Below.alloc ?_ ?_ _) | (with_reducible refine below_call ?_ ?_ (by assumption)) | (with_reducible refine Below.drew ?_) | go_size | ((try simp only [World.size_alloc, World.size_setCell, World.size_drew] at *); omega))))).call k3); clear k3))
    all_goals (go_wp2_with fail; go_meet)
    all_goals exact ⟨rfl, rfl, K3⟩
  case rest =>
    obtain ⟨rfl, rfl, k3⟩ := hcut
    have HH := Lib.hid (H.out.below HB.out)
    have pP3 := Lib.hid (Pt.left pP.out HH.out k3.out (by decide) (by decide) (by decide))
    have pR3 := Lib.hid (Pt.left pR.out HH.out k3.out (by decide) (by decide) (by decide))
    have pK3 := Lib.hid (Pt.left pK.out HH.out k3.out (by decide) (by decide) (by decide))
    have K3 := Lib.hid ((Left.of H.out HB.out).call k3.out)
    have fR := pR3.out.frozen
    have cR := pR3.out.cell
    have lR := pR3.out.lt
    clear cp0 cp1 hw1
    go_wp2_with fail
    · refine bodyPost_ret (by simp [results, Try.results58, go_sem, *]; rfl) rfl ?_
      have h0 : ¬ r.2.1 = 0 := by simpa using ‹(!decide _) = true›
      have hR := HE.out.trans (if_neg h0)
      exact ⟨by rw [hpl2.out (by rw [hR]; exact h0), hR], by rw [hR]; exact K3.out.set2 pR3.out (by decide) (by decide) (by decide) (by omega) _ _ _ _⟩
    · have h0 : r.2.1 = 0 := by simpa using ‹(!decide _) = false›
      have HR := Lib.hid (HE.out.trans (if_pos h0))
      have o32 := Lib.hid (H32.out _ K3.out.1)
      have HN3 := Lib.hid (Left.alloc K3.out (.cells #[.int .u32 0, .int .u32 0, .int .u32 0, .int .u32 0] 55))
      have pP4 := Lib.hid (pP3.out.alloc (.cells #[.int .u32 0, .int .u32 0, .int .u32 0, .int .u32 0] 55))
      have pR4 := Lib.hid (pR3.out.alloc (.cells #[.int .u32 0, .int .u32 0, .int .u32 0, .int .u32 0] 55))
      have pK4 := Lib.hid (pK3.out.alloc (.cells #[.int .u32 0, .int .u32 0, .int .u32 0, .int .u32 0] 55))
      have pO4 := Lib.hid (Pt.new wc #[.int .u32 0, .int .u32 0, .int .u32 0, .int .u32 0] 55)
      have hkO := Lib.hid (show kb < wc.heap.size from pK3.out.lt)
      have hRO := Lib.hid (show w.heap.size + 1 < wc.heap.size from pR3.out.lt)
      clear fR cR lR pP3 pR3 pK3 k3
      rename (!decide (r.2.1 = 0)) = false => hz1
      clear hz1 h0
      generalize hOb : wc.heap.size = ob at *
      clear hOb
      generalize wc.alloc (.cells #[.int .u32 0, .int .u32 0, .int .u32 0, .int .u32 0] 55) = W4 at *
      go_loopw [49] (fun v wr => ∃ (i : Nat) (out : K4) (ns1 : List Nd), i ≤ 4 ∧ v = .int .i64 i ∧ Hid (R = exGo most kk r.1 (4 - i) i out ns1) ∧ Hid (∀ j, kid out j < 4294967296) ∧ Hid (Left base S most ns1 w wr) ∧ Hid (Pt wr w.heap.size #[.pointer (some ⟨S, 0, none⟩), .int .u32 x] 91) ∧ Hid (Pt wr (w.heap.size + 1) #[.pointer none, .int .u32 0] 91) ∧ Hid (Pt wr kb (kArr kk) 55) ∧ Hid (Pt wr ob (kArr out) 55)) (fun v _ => 4 - (intOf v).toNat)
      case atStart => exact ⟨0, ⟨0, 0, 0, 0⟩, r.2.2, by omega, rfl, HR, Lib.hid (fun j => by match j with | 0 => exact (by decide : (0 : Nat) < 4294967296) | 1 => exact (by decide : (0 : Nat) < 4294967296) | 2 => exact (by decide : (0 : Nat) < 4294967296) | j + 3 => exact (by decide : (0 : Nat) < 4294967296)), HN3, pP4, pR4, pK4, pO4⟩
      case round =>
        obtain ⟨i, out, ns1, hi, rfl, HR1, H321, HL1, pP5, pR5, pK5, pO5⟩ := hrel
        clear HN3 pP4 pR4 pK4 pO4 HR
        have cP0 : wr.cell? ⟨w.heap.size, 0, none⟩ = some (.pointer (some ⟨S, 0, none⟩)) := by rw [pP5.out.cell]; rfl
        have cP1 : wr.cell? ⟨w.heap.size, 1, none⟩ = some (.int .u32 x) := by rw [pP5.out.cell]; rfl
        by_cases hlt : i < 4
        · have hstep : exGo most kk r.1 (4 - i) i out ns1 = if (makeN ns1 most (setK ⟨r.1, r.1, r.1, r.1⟩ (3 - i) (kid kk i))).2.1 = 0 then exGo most kk r.1 (4 - (i + 1)) (i + 1) (setK out i (makeN ns1 most (setK ⟨r.1, r.1, r.1, r.1⟩ (3 - i) (kid kk i))).1) (makeN ns1 most (setK ⟨r.1, r.1, r.1, r.1⟩ (3 - i) (kid kk i))).2.2 else (0, (makeN ns1 most (setK ⟨r.1, r.1, r.1, r.1⟩ (3 - i) (kid kk i))).2.1, (makeN ns1 most (setK ⟨r.1, r.1, r.1, r.1⟩ (3 - i) (kid kk i))).2.2) := by
            rw [show 4 - i = (4 - (i + 1)) + 1 by omega]; rfl
          have HR2 := Lib.hid (HR1.out.trans hstep)
          have ck : wr.cell? ⟨kb, i, none⟩ = some (.int .u32 (kid kk i)) := by rw [pK5.out.cell]; exact kArr_get kk i hlt
          have co : wr.cell? ⟨ob, i, none⟩ = some (.int .u32 (kid out i)) := by rw [pO5.out.cell]; exact kArr_get out i hlt
          have HI := Lib.hid hlt
          have hK4 := HK.out i
          have o3 := o32.out
          have HK4 := Lib.hid hK4
          clear hstep HR1 hK4 o3
          have b0 : (0 : Int) ≤ 3 - (i : Int) := by omega
          have b1 : (3 : Int) - (i : Int) < 4 := by omega
          have i0 : (0 : Int) ≤ (i : Int) := by omega
          have i1 : (i : Int) < 4 := by omega
          have hsub : ((3 : Int) - (i : Int)).toNat = 3 - i := by omega
          have lP := pP5.out.lt
          have lR := pR5.out.lt
          have lK := pK5.out.lt
          have lO := pO5.out.lt
          have HI2 := Lib.hid (show 3 - i < 4 by omega)
          have HMK := Lib.hid (fun j (h : j < 4) => show kid (setK ⟨r.1, r.1, r.1, r.1⟩ (3 - i) (kid kk i)) j < 4294967296 from by
            have o3 := o32.out
            have k3 := HK4.out
            rw [kid_set _ _ _ _ HI2.out h]
            split
            · exact k3
            · match j, h with
              | 0, _ => exact o3
              | 1, _ => exact o3
              | 2, _ => exact o3
              | 3, _ => exact o3)
          have cN : (wr.alloc (.cells #[.int .u32 r.1, .int .u32 r.1, .int .u32 r.1, .int .u32 r.1] 55)).cell? ⟨wr.heap.size, 3 - i, none⟩ = some (.int .u32 (kid ⟨r.1, r.1, r.1, r.1⟩ (3 - i) : Nat)) := ((Pt.new wr (kArr ⟨r.1, r.1, r.1, r.1⟩) 55).cell _).trans (kArr_get _ _ HI2.out)
          have fN := (Pt.new wr #[.int .u32 r.1, .int .u32 r.1, .int .u32 r.1, .int .u32 r.1] 55).frozen
          have hls : List.set [Value.int .u32 r.1, Value.int .u32 r.1, Value.int .u32 r.1, Value.int .u32 r.1] (3 - i) (.int .u32 (kid kk i : Nat)) = [.int .u32 (setK ⟨r.1, r.1, r.1, r.1⟩ (3 - i) (kid kk i)).a, .int .u32 (setK ⟨r.1, r.1, r.1, r.1⟩ (3 - i) (kid kk i)).b, .int .u32 (setK ⟨r.1, r.1, r.1, r.1⟩ (3 - i) (kid kk i)).c, .int .u32 (setK ⟨r.1, r.1, r.1, r.1⟩ (3 - i) (kid kk i)).d] := by
            have := congrArg Array.toList (kArr_set ⟨r.1, r.1, r.1, r.1⟩ (3 - i) (kid kk i) HI2.out)
            simpa [kArr] using this
          clear hlt hi
          generalize setK ⟨r.1, r.1, r.1, r.1⟩ (3 - i) (kid kk i) = four at *
          have HM4 := Lib.hid (show four.a < 4294967296 ∧ four.b < 4294967296 ∧ four.c < 4294967296 ∧ four.d < 4294967296 from ⟨HMK.out 0 (by decide), HMK.out 1 (by decide), HMK.out 2 (by decide), HMK.out 3 (by decide)⟩)
          go_wp2_with ((go_at_call 31); (with_reducible refine (make_l (HL1.out.st.below (by (repeat' (first | (with_reducible exact Below.refl _ _) | (with_reducible assumption) | (with_reducible exact Hid.out (by assumption)) | (with_reducible refine below_a ?_ _) | (with_reducible refine below_dn ?_ _) | (with_reducible refine below_c ?_ (by assumption)) | (with_reducible refine below_d ?_) | (with_reducible refine Below.setCell ?_ ?_ _) | (with_reducible refine Below.alloc ?_ ?_ _) | (with_reducible refine below_call ?_ ?_ (by assumption)) | (with_reducible refine Below.drew ?_) | go_size | ((try simp only [World.size_alloc, World.size_setCell, World.size_drew] at *); omega))))) four.a four.b four.c four.d HM4.out.1 HM4.out.2.1 HM4.out.2.2.1 HM4.out.2.2.2).mono ?_); rintro e w5 ⟨rfl, k5⟩; have K5 := Lib.hid ((HL1.out.next (show Below wr.heap.size wr _ from by (repeat' (first | (with_reducible exact Below.refl _ _) | (with_reducible assumption) | (with_reducible exact Hid.out (by assumption)) | (with_reducible refine below_a ?_ _) | (with_reducible refine below_dn ?_ _) | (with_reducible refine below_c ?_ (by assumption)) | (with_reducible refine below_d ?_) | (with_reducible refine Below.setCell ?_ ?_ _) | (with_reducible refine Below.alloc ?_ ?_ _) | (with_reducible refine below_call ?_ ?_ (by assumption)) | (with_reducible refine Below.drew ?_) | go_size | ((try simp only [World.size_alloc, World.size_setCell, World.size_drew] at *); omega))))).call k5); have pP6 := Lib.hid (Pt.left (pP5.out.alloc _) (HL1.out.st.below (by (repeat' (first | (with_reducible exact Below.refl _ _) | (with_reducible assumption) | (with_reducible exact Hid.out (by assumption)) | (with_reducible refine below_a ?_ _) | (with_reducible refine below_dn ?_ _) | (with_reducible refine below_c ?_ (by assumption)) | (with_reducible refine below_d ?_) | (with_reducible refine Below.setCell ?_ ?_ _) | (with_reducible refine Below.alloc ?_ ?_ _) | (with_reducible refine below_call ?_ ?_ (by assumption)) | (with_reducible refine Below.drew ?_) | go_size | ((try simp only [World.size_alloc, World.size_setCell, World.size_drew] at *); omega))))) k5 (by decide) (by decide) (by decide)); have pR6 := Lib.hid (Pt.left (pR5.out.alloc _) (HL1.out.st.below (by (repeat' (first | (with_reducible exact Below.refl _ _) | (with_reducible assumption) | (with_reducible exact Hid.out (by assumption)) | (with_reducible refine below_a ?_ _) | (with_reducible refine below_dn ?_ _) | (with_reducible refine below_c ?_ (by assumption)) | (with_reducible refine below_d ?_) | (with_reducible refine Below.setCell ?_ ?_ _) | (with_reducible refine Below.alloc ?_ ?_ _) | (with_reducible refine below_call ?_ ?_ (by assumption)) | (with_reducible refine Below.drew ?_) | go_size | ((try simp only [World.size_alloc, World.size_setCell, World.size_drew] at *); omega))))) k5 (by decide) (by decide) (by decide)); have pK6 := Lib.hid (Pt.left (pK5.out.alloc _) (HL1.out.st.below (by (repeat' (first | (with_reducible exact Below.refl _ _) | (with_reducible assumption) | (with_reducible exact Hid.out (by assumption)) | (with_reducible refine below_a ?_ _) | (with_reducible refine below_dn ?_ _) | (with_reducible refine below_c ?_ (by assumption)) | (with_reducible refine below_d ?_) | (with_reducible refine Below.setCell ?_ ?_ _) | (with_reducible refine Below.alloc ?_ ?_ _) | (with_reducible refine below_call ?_ ?_ (by assumption)) | (with_reducible refine Below.drew ?_) | go_size | ((try simp only [World.size_alloc, World.size_setCell, World.size_drew] at *); omega))))) k5 (by decide) (by decide) (by decide)); have pO6 := Lib.hid (Pt.left (pO5.out.alloc _) (HL1.out.st.below (by (repeat' (first | (with_reducible exact Below.refl _ _) | (with_reducible assumption) | (with_reducible exact Hid.out (by assumption)) | (with_reducible refine below_a ?_ _) | (with_reducible refine below_dn ?_ _) | (with_reducible refine below_c ?_ (by assumption)) | (with_reducible refine below_d ?_) | (with_reducible refine Below.setCell ?_ ?_ _) | (with_reducible refine Below.alloc ?_ ?_ _) | (with_reducible refine below_call ?_ ?_ (by assumption)) | (with_reducible refine Below.drew ?_) | go_size | ((try simp only [World.size_alloc, World.size_setCell, World.size_drew] at *); omega))))) k5 (by decide) (by decide) (by decide)); have cR6 := pR6.out.cell; have fR6 := pR6.out.frozen; have lR6 := pR6.out.lt; have cO6 : w5.cell? ⟨ob, i, none⟩ = some (.int .u32 (kid out i)) := (by rw [pO6.out.cell]; exact kArr_get out i HI.out); have fO6 := pO6.out.frozen; have lO6 := pO6.out.lt; clear k5)
          · refine bodyPost_ret (by simp [results, Try.results58, go_sem, *]; rfl) rfl ?_
            have hne : ¬ (makeN ns1 most four).2.1 = 0 := by have h := ‹(!decide _) = true›; simpa using h
            have h0 := HR2.out.trans (if_neg hne)
            exact ⟨by rw [hpl2.out (by rw [h0]; exact hne), h0], by rw [h0]; exact K5.out.set2 pR6.out (by decide) (by decide) (by decide) (by omega) _ _ _ _⟩
          · go_roundw
            case measure => simp [intOf]; omega
            case rel =>
              have he : (makeN ns1 most four).2.1 = 0 := by have h := ‹(!decide _) = false›; simpa using h
              have h0 := HR2.out.trans (if_pos he)
              have hi4 := HI.out
              have n1 := hkO.out
              have n2 := hRO.out
              refine ⟨i + 1, setK out i (makeN ns1 most four).1, (makeN ns1 most four).2.2, by omega, by go_num, Lib.hid h0, Lib.hid ?_, Lib.hid (K5.out.set pO6.out (by decide) (by decide) (by decide) (by omega) _ _), Lib.hid (pP6.out.set_ne (by show ob ≠ w.heap.size; omega) _), Lib.hid (pR6.out.set_ne (by show ob ≠ w.heap.size + 1; omega) _), Lib.hid (pK6.out.set_ne (by show ob ≠ kb; omega) _), Lib.hid (pt_kset pO6.out HI.out)⟩
              intro j
              have hall : ∀ j, j < 4 → kid (setK out i (makeN ns1 most four).1) j < 4294967296 := fun j hj => by
                rw [kid_set _ _ _ _ HI.out hj]
                split
                · exact makeN_32 HL1.out.st four
                · exact H321.out j
              match j with
              | 0 => exact hall 0 (by omega)
              | 1 => exact hall 1 (by omega)
              | 2 => exact hall 2 (by omega)
              | j + 3 => exact hall 3 (by omega)
        · obtain rfl : i = 4 := by omega
          have HR2 := Lib.hid (show R = makeN ns1 most out from HR1.out)
          have cO := pO5.out.cell
          have HM4 := Lib.hid (show out.a < 4294967296 ∧ out.b < 4294967296 ∧ out.c < 4294967296 ∧ out.d < 4294967296 from ⟨H321.out 0, H321.out 1, H321.out 2, H321.out 3⟩)
          unfold kArr at cO
          have HRT := Lib.hid (fun W (b : Below wr.heap.size wr W) => root_any (HL1.out.st.below b) out.a out.b out.c out.d HM4.out.1 HM4.out.2.1 HM4.out.2.2.1 HM4.out.2.2.2 x)
          rw [show (⟨out.a, out.b, out.c, out.d⟩ : K4) = out from rfl, ← HR2.out] at HRT
          have lR := pR5.out.lt
          clear hlt hi HR1
          by_cases he : R.2.1 = 0
          · rw [planeV_ok he, he, errV0] at HRT
            have HE0 := Lib.hid he
            clear he
            go_wp2_with ((go_at_call 88); (with_reducible refine (HRT.out _ (by (repeat' (first | (with_reducible exact Below.refl _ _) | (with_reducible assumption) | (with_reducible exact Hid.out (by assumption)) | (with_reducible refine below_a ?_ _) | (with_reducible refine below_dn ?_ _) | (with_reducible refine below_c ?_ (by assumption)) | (with_reducible refine below_d ?_) | (with_reducible refine Below.setCell ?_ ?_ _) | (with_reducible refine Below.alloc ?_ ?_ _) | (with_reducible refine below_call ?_ ?_ (by assumption)) | (with_reducible refine Below.drew ?_) | go_size | ((try simp only [World.size_alloc, World.size_setCell, World.size_drew] at *); omega))))).mono ?_); rintro e w5 ⟨rfl, k5⟩; have K5 := Lib.hid ((HL1.out.next (show Below wr.heap.size wr _ from by (repeat' (first | (with_reducible exact Below.refl _ _) | (with_reducible assumption) | (with_reducible exact Hid.out (by assumption)) | (with_reducible refine below_a ?_ _) | (with_reducible refine below_dn ?_ _) | (with_reducible refine below_c ?_ (by assumption)) | (with_reducible refine below_d ?_) | (with_reducible refine Below.setCell ?_ ?_ _) | (with_reducible refine Below.alloc ?_ ?_ _) | (with_reducible refine below_call ?_ ?_ (by assumption)) | (with_reducible refine Below.drew ?_) | go_size | ((try simp only [World.size_alloc, World.size_setCell, World.size_drew] at *); omega))))).call k5); have pR6 := Lib.hid (Pt.left (show Pt _ (w.heap.size + 1) _ _ from by exact pR5.out) (HL1.out.st.below (by (repeat' (first | (with_reducible exact Below.refl _ _) | (with_reducible assumption) | (with_reducible exact Hid.out (by assumption)) | (with_reducible refine below_a ?_ _) | (with_reducible refine below_dn ?_ _) | (with_reducible refine below_c ?_ (by assumption)) | (with_reducible refine below_d ?_) | (with_reducible refine Below.setCell ?_ ?_ _) | (with_reducible refine Below.alloc ?_ ?_ _) | (with_reducible refine below_call ?_ ?_ (by assumption)) | (with_reducible refine Below.drew ?_) | go_size | ((try simp only [World.size_alloc, World.size_setCell, World.size_drew] at *); omega))))) k5 (by decide) (by decide) (by decide)); have cR6 := pR6.out.cell; have fR6 := pR6.out.frozen; have lR6 := pR6.out.lt; clear k5)
            refine bodyPost_ret (by simp [results, Try.results58, go_sem, *]; rfl) rfl ?_
            have e0 := HE0.out
            exact ⟨by rw [hpl1.out e0, e0]; rfl, K5.out.set2 pR6.out (by decide) (by decide) (by decide) (by omega) _ _ _ _⟩
          · rw [planeV_no he] at HRT
            have HE0 := Lib.hid he
            clear he
            go_wp2_with ((go_at_call 88); (with_reducible refine (HRT.out _ (by (repeat' (first | (with_reducible exact Below.refl _ _) | (with_reducible assumption) | (with_reducible exact Hid.out (by assumption)) | (with_reducible refine below_a ?_ _) | (with_reducible refine below_dn ?_ _) | (with_reducible refine below_c ?_ (by assumption)) | (with_reducible refine below_d ?_) | (with_reducible refine Below.setCell ?_ ?_ _) | (with_reducible refine Below.alloc ?_ ?_ _) | (with_reducible refine below_call ?_ ?_ (by assumption)) | (with_reducible refine Below.drew ?_) | go_size | ((try simp only [World.size_alloc, World.size_setCell, World.size_drew] at *); omega))))).mono ?_); rintro e w5 ⟨rfl, k5⟩; have K5 := Lib.hid ((HL1.out.next (show Below wr.heap.size wr _ from by (repeat' (first | (with_reducible exact Below.refl _ _) | (with_reducible assumption) | (with_reducible exact Hid.out (by assumption)) | (with_reducible refine below_a ?_ _) | (with_reducible refine below_dn ?_ _) | (with_reducible refine below_c ?_ (by assumption)) | (with_reducible refine below_d ?_) | (with_reducible refine Below.setCell ?_ ?_ _) | (with_reducible refine Below.alloc ?_ ?_ _) | (with_reducible refine below_call ?_ ?_ (by assumption)) | (with_reducible refine Below.drew ?_) | go_size | ((try simp only [World.size_alloc, World.size_setCell, World.size_drew] at *); omega))))).call k5); have pR6 := Lib.hid (Pt.left (show Pt _ (w.heap.size + 1) _ _ from by exact pR5.out) (HL1.out.st.below (by (repeat' (first | (with_reducible exact Below.refl _ _) | (with_reducible assumption) | (with_reducible exact Hid.out (by assumption)) | (with_reducible refine below_a ?_ _) | (with_reducible refine below_dn ?_ _) | (with_reducible refine below_c ?_ (by assumption)) | (with_reducible refine below_d ?_) | (with_reducible refine Below.setCell ?_ ?_ _) | (with_reducible refine Below.alloc ?_ ?_ _) | (with_reducible refine below_call ?_ ?_ (by assumption)) | (with_reducible refine Below.drew ?_) | go_size | ((try simp only [World.size_alloc, World.size_setCell, World.size_drew] at *); omega))))) k5 (by decide) (by decide) (by decide)); have cR6 := pR6.out.cell; have fR6 := pR6.out.frozen; have lR6 := pR6.out.lt; clear k5)
            refine bodyPost_ret (by simp [results, Try.results58, go_sem, *]; rfl) rfl ?_
            exact ⟨by rw [hpl2.out HE0.out], K5.out.set2 pR6.out (by decide) (by decide) (by decide) (by omega) _ _ _ _⟩
theorem expand_any (h : St base w S ns most) (x : Nat) (hx : x < 4294967296) :
    Calls Try.prog 58 #[.agg #[.pointer (some ⟨S, 0, none⟩), .int .u32 x]] w fun e w' => e = .returned (.tuple #[planeV S (expandN ns most x), errV (expandN ns most x).2.1]) ∧ Left base S most (expandN ns most x).2.2 w w' := by
  by_cases hl : 1 ≤ lvlN ns x ∧ lvlN ns x < 62
  · exact expand_yes h x (lvlN ns x - 1).toNat (by omega) (by omega)
  · have e : expandN ns most x = (0, 1, ns) := if_neg hl
    rw [e]
    exact expand_no h x hx hl
end
end Go.Proofs.Ytjiliiclebdbfaa
