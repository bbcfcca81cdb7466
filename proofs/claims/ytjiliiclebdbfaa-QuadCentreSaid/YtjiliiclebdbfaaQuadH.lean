/- Contracts of package quad: Centre. -/
import Derived.Test.YtjiliiclebdbfaaQuadG
namespace Go.Proofs.Ytjiliiclebdbfaa
open Go.RowKit
set_option linter.unusedVariables false
set_option linter.unusedSimpArgs false

/-- The square in the middle that the i-th quarter has. -/
def cenI (ns : List Nd) (x i : Nat) : Nat := kid (kidsOf ns (kid (kidsOf ns x) i)) (3 - i)
/-- The four in the middle, the first j of them. -/
def cenU (ns : List Nd) (x j : Nat) : K4 := ⟨if 0 < j then cenI ns x 0 else 0, if 1 < j then cenI ns x 1 else 0, if 2 < j then cenI ns x 2 else 0, if 3 < j then cenI ns x 3 else 0⟩
def cenK (ns : List Nd) (x : Nat) : K4 := ⟨cenI ns x 0, cenI ns x 1, cenI ns x 2, cenI ns x 3⟩
theorem cenU_set (ns : List Nd) (x j : Nat) (hj : j < 4) : setK (cenU ns x j) j (cenI ns x j) = cenU ns x (j + 1) := by
  match j, hj with
  | 0, _ => rfl
  | 1, _ => rfl
  | 2, _ => rfl
  | 3, _ => rfl
theorem cenI_eq (ns : List Nd) (x : Nat) : ∀ i, cenI ns x i = kid (kidsOf ns (kid (kidsOf ns x) i)) (3 - i) := fun _ => rfl
section
variable {base S : Nat} {w : World} {ns : List Nd} {most : Nat}
theorem centre_no (h : St base w S ns most) (x : Nat) (hx : x < 4294967296) (hl : lvlN ns x < 2) :
    Calls Try.prog 49 #[.pointer (some ⟨S, 0, none⟩), .int .u32 x] w fun e w' => e = .returned (.tuple #[.agg #[.int .u32 0, .int .u32 0, .int .u32 0, .int .u32 0], .bool false]) ∧ Below w.heap.size w w' := by
  have HX := Lib.hid hx
  have HV := Lib.hid (fun W (b : Below w.heap.size w W) => level_at h x HX.out _ rfl b)
  clear hx
  by_cases h1 : 1 ≤ lvlN ns x
  · have hl1 : lvlN ns x = ((lvlN ns x - 1).toNat : Nat) + 1 := by omega
    have HO := Lib.hid (fun W (b : Below w.heap.size w W) => of_in h x hl1 b)
    have hd : decide (lvlN ns x < 2) = true := decide_eq_true hl
    clear h hl hl1 h1
    go_enter Try.func49, Try.ntmps49
    go_wp2_with (first | ((go_at_call 28); (with_reducible refine (HO.out _ (by (repeat' (first | (with_reducible exact Below.refl _ _) | (with_reducible assumption) | (with_reducible exact Hid.out (by assumption)) | (with_reducible refine below_a ?_ _) | (with_reducible refine below_dn ?_ _) | (with_reducible refine below_c ?_ (by assumption)) | (with_reducible refine below_d ?_) | (with_reducible refine Below.setCell ?_ ?_ _) | (with_reducible refine Below.alloc ?_ ?_ _) | (with_reducible refine below_call ?_ ?_ (by assumption)) | (with_reducible refine Below.drew ?_) | go_size | ((try simp only [World.size_alloc, World.size_setCell, World.size_drew] at *); omega))))).mono ?_); rintro e w1 ⟨rfl, hb_w1⟩; obtain ⟨hc, hf⟩ := bcell hb_w1; have hz := hb_w1.size; (try simp only [World.size_alloc, World.size_setCell, World.size_drew] at hz); (first | (with_reducible have hl := lt_rule6 hz) | (with_reducible have hl := lt_rule5 hz) | (with_reducible have hl := lt_rule4 hz) | (with_reducible have hl := lt_rule3 hz) | (with_reducible have hl := lt_rule2 hz) | (with_reducible have hl := lt_rule1 hz) | have hl := lt_rule0 hz); (try (have hz0 : w.heap.size < w1.heap.size := by omega)); (try (have hz1 : w.heap.size + 1 < w1.heap.size := by omega)); (try (have hz2 : w.heap.size + 1 + 1 < w1.heap.size := by omega)); (try (have hz3 : w.heap.size + 1 + 1 + 1 < w1.heap.size := by omega)); (try (have hz4 : w.heap.size + 1 + 1 + 1 + 1 < w1.heap.size := by omega))) | ((go_at_call 17); (with_reducible refine (HV.out _ (by (repeat' (first | (with_reducible exact Below.refl _ _) | (with_reducible assumption) | (with_reducible exact Hid.out (by assumption)) | (with_reducible refine below_a ?_ _) | (with_reducible refine below_dn ?_ _) | (with_reducible refine below_c ?_ (by assumption)) | (with_reducible refine below_d ?_) | (with_reducible refine Below.setCell ?_ ?_ _) | (with_reducible refine Below.alloc ?_ ?_ _) | (with_reducible refine below_call ?_ ?_ (by assumption)) | (with_reducible refine Below.drew ?_) | go_size | ((try simp only [World.size_alloc, World.size_setCell, World.size_drew] at *); omega))))).mono ?_); rintro e w' ⟨rfl, rfl⟩))
    refine bodyPost_ret (by simp [results, Try.results49, go_sem, *]; rfl) rfl ?_
    exact ⟨rfl, by (repeat' (first | (with_reducible exact Below.refl _ _) | (with_reducible assumption) | (with_reducible exact Hid.out (by assumption)) | (with_reducible refine below_a ?_ _) | (with_reducible refine below_dn ?_ _) | (with_reducible refine below_c ?_ (by assumption)) | (with_reducible refine below_d ?_) | (with_reducible refine Below.setCell ?_ ?_ _) | (with_reducible refine Below.alloc ?_ ?_ _) | (with_reducible refine below_call ?_ ?_ (by assumption)) | (with_reducible refine Below.drew ?_) | go_size | ((try simp only [World.size_alloc, World.size_setCell, World.size_drew] at *); omega)))⟩
  · have HO := Lib.hid (fun W (b : Below w.heap.size w W) => of_out h x HX.out (by omega) b)
    clear h hl h1
    go_enter Try.func49, Try.ntmps49
    go_wp2_with (first | ((go_at_call 28); (with_reducible refine (HO.out _ (by (repeat' (first | (with_reducible exact Below.refl _ _) | (with_reducible assumption) | (with_reducible exact Hid.out (by assumption)) | (with_reducible refine below_a ?_ _) | (with_reducible refine below_dn ?_ _) | (with_reducible refine below_c ?_ (by assumption)) | (with_reducible refine below_d ?_) | (with_reducible refine Below.setCell ?_ ?_ _) | (with_reducible refine Below.alloc ?_ ?_ _) | (with_reducible refine below_call ?_ ?_ (by assumption)) | (with_reducible refine Below.drew ?_) | go_size | ((try simp only [World.size_alloc, World.size_setCell, World.size_drew] at *); omega))))).mono ?_); rintro e w1 ⟨rfl, hb_w1⟩; obtain ⟨hc, hf⟩ := bcell hb_w1; have hz := hb_w1.size; (try simp only [World.size_alloc, World.size_setCell, World.size_drew] at hz); (first | (with_reducible have hl := lt_rule6 hz) | (with_reducible have hl := lt_rule5 hz) | (with_reducible have hl := lt_rule4 hz) | (with_reducible have hl := lt_rule3 hz) | (with_reducible have hl := lt_rule2 hz) | (with_reducible have hl := lt_rule1 hz) | have hl := lt_rule0 hz); (try (have hz0 : w.heap.size < w1.heap.size := by omega)); (try (have hz1 : w.heap.size + 1 < w1.heap.size := by omega)); (try (have hz2 : w.heap.size + 1 + 1 < w1.heap.size := by omega)); (try (have hz3 : w.heap.size + 1 + 1 + 1 < w1.heap.size := by omega)); (try (have hz4 : w.heap.size + 1 + 1 + 1 + 1 < w1.heap.size := by omega))) | ((go_at_call 17); (with_reducible refine (HV.out _ (by (repeat' (first | (with_reducible exact Below.refl _ _) | (with_reducible assumption) | (with_reducible exact Hid.out (by assumption)) | (with_reducible refine below_a ?_ _) | (with_reducible refine below_dn ?_ _) | (with_reducible refine below_c ?_ (by assumption)) | (with_reducible refine below_d ?_) | (with_reducible refine Below.setCell ?_ ?_ _) | (with_reducible refine Below.alloc ?_ ?_ _) | (with_reducible refine below_call ?_ ?_ (by assumption)) | (with_reducible refine Below.drew ?_) | go_size | ((try simp only [World.size_alloc, World.size_setCell, World.size_drew] at *); omega))))).mono ?_); rintro e w' ⟨rfl, rfl⟩))
    refine bodyPost_ret (by simp [results, Try.results49, go_sem, *]; rfl) rfl ?_
    exact ⟨rfl, by (repeat' (first | (with_reducible exact Below.refl _ _) | (with_reducible assumption) | (with_reducible exact Hid.out (by assumption)) | (with_reducible refine below_a ?_ _) | (with_reducible refine below_dn ?_ _) | (with_reducible refine below_c ?_ (by assumption)) | (with_reducible refine below_d ?_) | (with_reducible refine Below.setCell ?_ ?_ _) | (with_reducible refine Below.alloc ?_ ?_ _) | (with_reducible refine below_call ?_ ?_ (by assumption)) | (with_reducible refine Below.drew ?_) | go_size | ((try simp only [World.size_alloc, World.size_setCell, World.size_drew] at *); omega)))⟩
set_option maxRecDepth 20000 in
set_option maxHeartbeats 4000000 in
theorem centre_yes (h : St base w S ns most) (x l : Nat) (hl : lvlN ns x = ((l + 1 : Nat) : Int) + 1) :
    Calls Try.prog 49 #[.pointer (some ⟨S, 0, none⟩), .int .u32 x] w fun e w' => e = .returned (.tuple #[.agg #[.int .u32 (cenK ns x).a, .int .u32 (cenK ns x).b, .int .u32 (cenK ns x).c, .int .u32 (cenK ns x).d], .bool true]) ∧ Below w.heap.size w w' := by
  have h2 := h.two
  have hk := lvl_kids h.ok hl
  have HX := Lib.hid (show x < 4294967296 by omega)
  have HV := Lib.hid (fun W (b : Below w.heap.size w W) => level_at h x HX.out ((l : Int) + 2) (by omega) b)
  have HO := Lib.hid (fun W (b : Below w.heap.size w W) => of_in h x hl b)
  have HO2 := Lib.hid (fun i W (b : Below w.heap.size w W) => of_in h (kid (kidsOf ns x) i) (l := l) (by rw [(hk.2.2 i).1]; omega) b)
  have hd : decide ((l : Int) + 2 < 2) = false := decide_eq_false (by omega)
  have HC := Lib.hid (cenI_eq ns x)
  have HU := Lib.hid (fun i hi => cenU_set ns x i hi)
  clear h h2 hl hk
  generalize kidsOf ns x = kk at *
  go_enter Try.func49, Try.ntmps49
  go_wp2_with (first | ((go_at_call 28); (with_reducible refine (HO.out _ (by (repeat' (first | (with_reducible exact Below.refl _ _) | (with_reducible assumption) | (with_reducible exact Hid.out (by assumption)) | (with_reducible refine below_a ?_ _) | (with_reducible refine below_dn ?_ _) | (with_reducible refine below_c ?_ (by assumption)) | (with_reducible refine below_d ?_) | (with_reducible refine Below.setCell ?_ ?_ _) | (with_reducible refine Below.alloc ?_ ?_ _) | (with_reducible refine below_call ?_ ?_ (by assumption)) | (with_reducible refine Below.drew ?_) | go_size | ((try simp only [World.size_alloc, World.size_setCell, World.size_drew] at *); omega))))).mono ?_); rintro e w1 ⟨rfl, hb_w1⟩; obtain ⟨hc, hf⟩ := bcell hb_w1; have hz := hb_w1.size; (try simp only [World.size_alloc, World.size_setCell, World.size_drew] at hz); (first | (with_reducible have hl := lt_rule6 hz) | (with_reducible have hl := lt_rule5 hz) | (with_reducible have hl := lt_rule4 hz) | (with_reducible have hl := lt_rule3 hz) | (with_reducible have hl := lt_rule2 hz) | (with_reducible have hl := lt_rule1 hz) | have hl := lt_rule0 hz); (try (have hz0 : w.heap.size < w1.heap.size := by omega)); (try (have hz1 : w.heap.size + 1 < w1.heap.size := by omega)); (try (have hz2 : w.heap.size + 1 + 1 < w1.heap.size := by omega)); (try (have hz3 : w.heap.size + 1 + 1 + 1 < w1.heap.size := by omega)); (try (have hz4 : w.heap.size + 1 + 1 + 1 + 1 < w1.heap.size := by omega))) | ((go_at_call 17); (with_reducible refine (HV.out _ (by (repeat' (first | (with_reducible exact Below.refl _ _) | (with_reducible assumption) | (with_reducible exact Hid.out (by assumption)) | (with_reducible refine below_a ?_ _) | (with_reducible refine below_dn ?_ _) | (with_reducible refine below_c ?_ (by assumption)) | (with_reducible refine below_d ?_) | (with_reducible refine Below.setCell ?_ ?_ _) | (with_reducible refine Below.alloc ?_ ?_ _) | (with_reducible refine below_call ?_ ?_ (by assumption)) | (with_reducible refine Below.drew ?_) | go_size | ((try simp only [World.size_alloc, World.size_setCell, World.size_drew] at *); omega))))).mono ?_); rintro e w' ⟨rfl, rfl⟩))
  have pK := Lib.hid (((Pt.new w1 (kArr kk) 55)).alloc (.cells #[.int .u32 0, .int .u32 0, .int .u32 0, .int .u32 0] 55))
  have pR := Lib.hid (((Pt.keep (show Pt _ w.heap.size #[.int .u32 0, .int .u32 0, .int .u32 0, .int .u32 0] 55 from by (repeat' (first | (with_reducible assumption) | (with_reducible refine Pt.drew ?_) | (with_reducible refine Pt.new' (by first | rfl | (simp; done) | omega)) | (with_reducible refine Pt.alloc ?_ _) | (with_reducible refine Pt.keep ?_ (by with_reducible assumption))))) hb_w1).alloc (.cells (kArr kk) 55)).alloc (.cells #[.int .u32 0, .int .u32 0, .int .u32 0, .int .u32 0] 55))
  have pO := Lib.hid (show Pt ((w1.alloc (.cells (kArr kk) 55)).alloc (.cells #[.int .u32 0, .int .u32 0, .int .u32 0, .int .u32 0] 55)) (w1.heap.size + 1) (kArr (cenU ns x 0)) 55 from Pt.new' (World.size_alloc _ _).symm)
  have HB := Lib.hid (below_a (below_a (show Below w.heap.size w w1 from by (repeat' (first | (with_reducible exact Below.refl _ _) | (with_reducible assumption) | (with_reducible exact Hid.out (by assumption)) | (with_reducible refine below_a ?_ _) | (with_reducible refine below_dn ?_ _) | (with_reducible refine below_c ?_ (by assumption)) | (with_reducible refine below_d ?_) | (with_reducible refine Below.setCell ?_ ?_ _) | (with_reducible refine Below.alloc ?_ ?_ _) | (with_reducible refine below_call ?_ ?_ (by assumption)) | (with_reducible refine Below.drew ?_) | go_size | ((try simp only [World.size_alloc, World.size_setCell, World.size_drew] at *); omega)))) (.cells (kArr kk) 55)) (.cells #[.int .u32 0, .int .u32 0, .int .u32 0, .int .u32 0] 55))
  have hz1 := Lib.hid hz0
  clear hb_w1 hc hf hz hl hz0 hd
  unfold kArr at pK pR HB
  rw [show kArr kk = #[.int .u32 kk.a, .int .u32 kk.b, .int .u32 kk.c, .int .u32 kk.d] from rfl] at pO
  generalize w1.heap.size = kb at *
  generalize (w1.alloc (.cells #[.int .u32 kk.a, .int .u32 kk.b, .int .u32 kk.c, .int .u32 kk.d] 55)).alloc (.cells #[.int .u32 0, .int .u32 0, .int .u32 0, .int .u32 0] 55) = W1 at *
  go_loopw [27] (fun v wr => ∃ i : Nat, i ≤ 4 ∧ v = .int .i64 i ∧ Hid (Pt wr kb (kArr kk) 55) ∧ Hid (Pt wr (kb + 1) (kArr (cenU ns x i)) 55) ∧ Hid (Pt wr w.heap.size #[.int .u32 0, .int .u32 0, .int .u32 0, .int .u32 0] 55) ∧ Hid (Below w.heap.size w wr)) (fun v _ => 4 - (intOf v).toNat)
  case atStart => exact ⟨0, by omega, rfl, pK, pO, pR, HB⟩
  case round =>
    obtain ⟨i, hi, rfl, pK1, pO1, pR1, HB1⟩ := hrel
    clear pK pO pR HB
    have lK := pK1.out.lt
    have lO := pO1.out.lt
    have lR := pR1.out.lt
    have fO := pO1.out.frozen
    have fR := pR1.out.frozen
    have cR := pR1.out.cell
    by_cases hlt : i < 4
    · have HI := Lib.hid hlt
      have b0 : (0 : Int) ≤ 3 - (i : Int) := by omega
      have b1 : (3 : Int) - (i : Int) < 4 := by omega
      have i0 : (0 : Int) ≤ (i : Int) := by omega
      have i1 : (i : Int) < 4 := by omega
      have hsub : ((3 : Int) - (i : Int)).toNat = 3 - i := by omega
      have ck : wr.cell? ⟨kb, i, none⟩ = some (.int .u32 (kid kk i)) := by rw [pK1.out.cell]; exact kArr_get kk i hlt
      have co : wr.cell? ⟨kb + 1, i, none⟩ = some (.int .u32 (kid (cenU ns x i) i)) := by rw [pO1.out.cell]; exact kArr_get _ i hlt
      have HO3 := Lib.hid (fun W b => HO2.out i W b)
      have HC3 := Lib.hid (HC.out i)
      have HU3 := Lib.hid (HU.out i hlt)
      have hi3 : 3 - i < 4 := by omega
      generalize kidsOf ns (kid kk i) = four at *
      have cF : ∀ W : World, (W.alloc (.cells #[.int .u32 four.a, .int .u32 four.b, .int .u32 four.c, .int .u32 four.d] 55)).cell? ⟨W.heap.size, 3 - i, none⟩ = some (.int .u32 (kid four (3 - i))) := fun W => ((Pt.new W (kArr four) 55).cell _).trans (kArr_get _ _ hi3)
      have HM := Lib.hid (show 4 - (i + 1) < 4 - i by omega)
      clear hlt hi hi3
      go_wp2_with ((go_at_call 28); (with_reducible refine (HO3.out _ HB1.out).mono ?_); rintro e w2 ⟨rfl, hb_w2⟩; obtain ⟨hc, hf⟩ := bcell hb_w2; have hz := hb_w2.size; (try simp only [World.size_alloc, World.size_setCell, World.size_drew] at hz); (first | (with_reducible have hl := lt_rule6 hz) | (with_reducible have hl := lt_rule5 hz) | (with_reducible have hl := lt_rule4 hz) | (with_reducible have hl := lt_rule3 hz) | (with_reducible have hl := lt_rule2 hz) | (with_reducible have hl := lt_rule1 hz) | have hl := lt_rule0 hz); (try (have hz0 : w.heap.size < w2.heap.size := by omega)); (try (have hz1 : w.heap.size + 1 < w2.heap.size := by omega)); (try (have hz2 : w.heap.size + 1 + 1 < w2.heap.size := by omega)); (try (have hz3 : w.heap.size + 1 + 1 + 1 < w2.heap.size := by omega)); (try (have hz4 : w.heap.size + 1 + 1 + 1 + 1 < w2.heap.size := by omega)))
      have hp := pt_kset (pO1.out.keep hb_w2) (y := kid four (3 - i)) HI.out
      rw [← HC3.out, HU3.out] at hp
      have zz := hz1.out
      rw [← HC3.out]
      refine ⟨⟨i + 1, by have := HI.out; omega, by go_num, Lib.hid (((pK1.out.keep hb_w2).set_ne (by simp) _).alloc _), Lib.hid (hp.alloc _), Lib.hid (((pR1.out.keep hb_w2).set_ne (by simp; omega) _).alloc _), Lib.hid (below_a ((below_c HB1.out hb_w2).setCell (by simp; omega) _) _)⟩, by simp [intOf]; omega⟩
    · obtain rfl : i = 4 := by omega
      have hc4 := pO1.out.cell
      rw [show cenU ns x 4 = cenK ns x from rfl] at hc4
      unfold kArr at hc4
      clear hlt hi
      go_wp2_with fail
      refine bodyPost_ret (by simp [results, Try.results49, go_sem, *]; rfl) rfl ?_
      exact ⟨rfl, by (repeat' (first | (with_reducible exact Below.refl _ _) | (with_reducible assumption) | (with_reducible exact Hid.out (by assumption)) | (with_reducible refine below_a ?_ _) | (with_reducible refine below_dn ?_ _) | (with_reducible refine below_c ?_ (by assumption)) | (with_reducible refine below_d ?_) | (with_reducible refine Below.setCell ?_ ?_ _) | (with_reducible refine Below.alloc ?_ ?_ _) | (with_reducible refine below_call ?_ ?_ (by assumption)) | (with_reducible refine Below.drew ?_) | go_size | ((try simp only [World.size_alloc, World.size_setCell, World.size_drew] at *); omega)))⟩
end
end Go.Proofs.Ytjiliiclebdbfaa
