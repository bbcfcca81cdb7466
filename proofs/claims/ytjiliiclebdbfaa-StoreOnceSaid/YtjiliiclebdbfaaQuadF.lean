/- Contracts of package quad: Reach. -/
import Derived.Test.YtjiliiclebdbfaaQuadX
import Derived.Test.YtjiliiclebdbfaaGridA
import Derived.Deep.LoopGhost
namespace Go.Proofs.Ytjiliiclebdbfaa
open Go.RowKit
set_option linter.unusedVariables false
set_option linter.unusedSimpArgs false
attribute [local go_sem] eqGuard_errV neq_errV eql_errV

/-- Expand, till a point is in it. -/
def reachGo (most : Nat) (X Y : Int) : Nat → Nat → List Nd → Res
  | 0, x, ns => (x, 0, ns)
  | n + 1, x, ns => if hasN ns x X Y then (x, 0, ns) else if (expandN ns most x).2.1 = 0 then reachGo most X Y n (expandN ns most x).1 (expandN ns most x).2.2 else (0, (expandN ns most x).2.1, (expandN ns most x).2.2)
theorem has_top {ns : List Nd} {x : Nat} {X Y : Int} (h : lvlN ns x = 62) (hp : (insB X && insB Y) = true) : hasN ns x X Y = true := by
  unfold insB at hp
  simp only [Bool.and_eq_true, decide_eq_true_eq] at hp
  have e : halfN (lvlN ns x) = 2305843009213693952 := by rw [h]; unfold halfN; rfl
  unfold hasN
  rw [e]
  simp only [Bool.and_eq_true, decide_eq_true_eq]
  omega
section
variable {base S : Nat} {w : World} {ns : List Nd} {most : Nat}
theorem reach_range (h : St base w S ns most) (x : Nat) (hx : x < 4294967296) (hl : 3 ≤ lvlN ns x) (X Y : Int) (hp : (insB X && insB Y) = false) :
    Calls Try.prog 60 #[.agg #[.pointer (some ⟨S, 0, none⟩), .int .u32 x], .agg #[.int .i64 (X), .int .i64 (Y)]] w fun e w' => e = .returned (.tuple #[.agg #[.pointer none, .int .u32 0], errV 8]) ∧ Left base S most ns w w' := by
  have H := Lib.hid h
  have HX := Lib.hid hx
  have HV := Lib.hid (fun W (b : Below w.heap.size w W) => level_at h x HX.out _ rfl b)
  have hd : decide (lvlN ns x < 3) = false := decide_eq_false (by omega)
  clear h hx hl
  go_enter Try.func60, Try.ntmps60
  go_wp2_with (first | ((go_at_call 17); (with_reducible refine (HV.out _ (by (repeat' (first | (with_reducible exact Below.refl _ _) | (with_reducible assumption) | (with_reducible exact Hid.out (by assumption)) | (with_reducible refine below_a ?_ _) | (with_reducible refine below_dn ?_ _) | (with_reducible refine below_c ?_ (by assumption)) | (with_reducible refine below_d ?_) | (with_reducible refine Below.setCell ?_ ?_ _) | (with_reducible refine Below.alloc ?_ ?_ _) | (with_reducible refine below_call ?_ ?_ (by assumption)) | (with_reducible refine Below.drew ?_) | go_size | ((try simp only [World.size_alloc, World.size_setCell, World.size_drew] at *); omega))))).mono ?_); rintro e w' ⟨rfl, rfl⟩) | ((go_at_call 51); (with_reducible refine (pright_any X Y _).mono ?_); rintro e w1 ⟨rfl, hb_w1⟩; obtain ⟨hc, hf⟩ := bcell hb_w1; have hz := hb_w1.size; (try simp only [World.size_alloc, World.size_setCell, World.size_drew] at hz); (first | (with_reducible have hl := lt_rule6 hz) | (with_reducible have hl := lt_rule5 hz) | (with_reducible have hl := lt_rule4 hz) | (with_reducible have hl := lt_rule3 hz) | (with_reducible have hl := lt_rule2 hz) | (with_reducible have hl := lt_rule1 hz) | have hl := lt_rule0 hz); (try (have hz0 : w.heap.size < w1.heap.size := by omega)); (try (have hz1 : w.heap.size + 1 < w1.heap.size := by omega)); (try (have hz2 : w.heap.size + 1 + 1 < w1.heap.size := by omega)); (try (have hz3 : w.heap.size + 1 + 1 + 1 < w1.heap.size := by omega)); (try (have hz4 : w.heap.size + 1 + 1 + 1 + 1 < w1.heap.size := by omega))) | ((go_at_call 61); (with_reducible refine (of_num 8 _ rfl).mono ?_); rintro e w' ⟨rfl, rfl⟩))
  refine bodyPost_ret (by simp [results, Try.results60, go_sem, *]; rfl) rfl ?_
  exact ⟨rfl, Left.of H.out (by (repeat' (first | (with_reducible exact Below.refl _ _) | (with_reducible assumption) | (with_reducible exact Hid.out (by assumption)) | (with_reducible refine below_a ?_ _) | (with_reducible refine below_dn ?_ _) | (with_reducible refine below_c ?_ (by assumption)) | (with_reducible refine below_d ?_) | (with_reducible refine Below.setCell ?_ ?_ _) | (with_reducible refine Below.alloc ?_ ?_ _) | (with_reducible refine below_call ?_ ?_ (by assumption)) | (with_reducible refine Below.drew ?_) | go_size | ((try simp only [World.size_alloc, World.size_setCell, World.size_drew] at *); omega))))⟩
theorem reach_arg (h : St base w S ns most) (x : Nat) (hx : x < 4294967296) (hl : lvlN ns x < 3) (X Y : Int) :
    Calls Try.prog 60 #[.agg #[.pointer (some ⟨S, 0, none⟩), .int .u32 x], .agg #[.int .i64 (X), .int .i64 (Y)]] w fun e w' => e = .returned (.tuple #[.agg #[.pointer none, .int .u32 0], errV 1]) ∧ Left base S most ns w w' := by
  have H := Lib.hid h
  have HX := Lib.hid hx
  have HV := Lib.hid (fun W (b : Below w.heap.size w W) => level_at h x HX.out _ rfl b)
  have hd : decide (lvlN ns x < 3) = true := decide_eq_true (by omega)
  clear h hx hl
  go_enter Try.func60, Try.ntmps60
  go_wp2_with (first | ((go_at_call 17); (with_reducible refine (HV.out _ (by (repeat' (first | (with_reducible exact Below.refl _ _) | (with_reducible assumption) | (with_reducible exact Hid.out (by assumption)) | (with_reducible refine below_a ?_ _) | (with_reducible refine below_dn ?_ _) | (with_reducible refine below_c ?_ (by assumption)) | (with_reducible refine below_d ?_) | (with_reducible refine Below.setCell ?_ ?_ _) | (with_reducible refine Below.alloc ?_ ?_ _) | (with_reducible refine below_call ?_ ?_ (by assumption)) | (with_reducible refine Below.drew ?_) | go_size | ((try simp only [World.size_alloc, World.size_setCell, World.size_drew] at *); omega))))).mono ?_); rintro e w' ⟨rfl, rfl⟩) | ((go_at_call 61); (with_reducible refine (of_num 1 _ rfl).mono ?_); rintro e w' ⟨rfl, rfl⟩))
  refine bodyPost_ret (by simp [results, Try.results60, go_sem, *]; rfl) rfl ?_
  exact ⟨rfl, Left.of H.out (by (repeat' (first | (with_reducible exact Below.refl _ _) | (with_reducible assumption) | (with_reducible exact Hid.out (by assumption)) | (with_reducible refine below_a ?_ _) | (with_reducible refine below_dn ?_ _) | (with_reducible refine below_c ?_ (by assumption)) | (with_reducible refine below_d ?_) | (with_reducible refine Below.setCell ?_ ?_ _) | (with_reducible refine Below.alloc ?_ ?_ _) | (with_reducible refine below_call ?_ ?_ (by assumption)) | (with_reducible refine Below.drew ?_) | go_size | ((try simp only [World.size_alloc, World.size_setCell, World.size_drew] at *); omega))))⟩
set_option maxRecDepth 20000 in
set_option maxHeartbeats 4000000 in
theorem reach_yes (h : St base w S ns most) (x : Nat) (hl : 3 ≤ lvlN ns x) (X Y : Int) (hp : (insB X && insB Y) = true) :
    Calls Try.prog 60 #[.agg #[.pointer (some ⟨S, 0, none⟩), .int .u32 x], .agg #[.int .i64 (X), .int .i64 (Y)]] w fun e w' => e = .returned (.tuple #[planeV S (reachGo most X Y 64 x ns), errV (reachGo most X Y 64 x ns).2.1]) ∧ Left base S most (reachGo most X Y 64 x ns).2.2 w w' := by
  have h2 := h.two
  have hx := lvlN_lt (show 0 ≤ lvlN ns x by omega)
  have H := Lib.hid h
  have HX := Lib.hid (show x < 4294967296 by omega)
  have HV := Lib.hid (fun W (b : Below w.heap.size w W) => level_at h x HX.out _ rfl b)
  have hd : decide (lvlN ns x < 3) = false := decide_eq_false (by omega)
  have HL := Lib.hid hl
  have HPP := Lib.hid hp
  generalize hR : reachGo most X Y 64 x ns = R
  have HR := Lib.hid hR.symm
  clear h h2 hx hl hR
  go_enter Try.func60, Try.ntmps60
  go_wp2_with (first | ((go_at_call 17); (with_reducible refine (HV.out _ (by (repeat' (first | (with_reducible exact Below.refl _ _) | (with_reducible assumption) | (with_reducible exact Hid.out (by assumption)) | (with_reducible refine below_a ?_ _) | (with_reducible refine below_dn ?_ _) | (with_reducible refine below_c ?_ (by assumption)) | (with_reducible refine below_d ?_) | (with_reducible refine Below.setCell ?_ ?_ _) | (with_reducible refine Below.alloc ?_ ?_ _) | (with_reducible refine below_call ?_ ?_ (by assumption)) | (with_reducible refine Below.drew ?_) | go_size | ((try simp only [World.size_alloc, World.size_setCell, World.size_drew] at *); omega))))).mono ?_); rintro e w' ⟨rfl, rfl⟩) | ((go_at_call 51); (with_reducible refine (pright_any X Y _).mono ?_); rintro e w1 ⟨rfl, hb_w1⟩; obtain ⟨hc, hf⟩ := bcell hb_w1; have hz := hb_w1.size; (try simp only [World.size_alloc, World.size_setCell, World.size_drew] at hz); (first | (with_reducible have hl := lt_rule6 hz) | (with_reducible have hl := lt_rule5 hz) | (with_reducible have hl := lt_rule4 hz) | (with_reducible have hl := lt_rule3 hz) | (with_reducible have hl := lt_rule2 hz) | (with_reducible have hl := lt_rule1 hz) | have hl := lt_rule0 hz); (try (have hz0 : w.heap.size < w1.heap.size := by omega)); (try (have hz1 : w.heap.size + 1 < w1.heap.size := by omega)); (try (have hz2 : w.heap.size + 1 + 1 < w1.heap.size := by omega)); (try (have hz3 : w.heap.size + 1 + 1 + 1 < w1.heap.size := by omega)); (try (have hz4 : w.heap.size + 1 + 1 + 1 + 1 < w1.heap.size := by omega))))
  have pP := Lib.hid (Pt.keep (show Pt _ w.heap.size #[.pointer (some ⟨S, 0, none⟩), .int .u32 x] 91 from by (repeat' (first | (with_reducible assumption) | (with_reducible refine Pt.drew ?_) | (with_reducible refine Pt.new' (by first | rfl | (simp; done) | omega)) | (with_reducible refine Pt.alloc ?_ _) | (with_reducible refine Pt.keep ?_ (by with_reducible assumption))))) hb_w1)
  have pQ := Lib.hid (Pt.keep (show Pt _ (w.heap.size + 1) #[.int .i64 X, .int .i64 Y] 95 from by (repeat' (first | (with_reducible assumption) | (with_reducible refine Pt.drew ?_) | (with_reducible refine Pt.new' (by first | rfl | (simp; done) | omega)) | (with_reducible refine Pt.alloc ?_ _) | (with_reducible refine Pt.keep ?_ (by with_reducible assumption))))) hb_w1)
  have pR := Lib.hid (Pt.keep (show Pt _ (w.heap.size + 1 + 1) #[.pointer none, .int .u32 0] 91 from by (repeat' (first | (with_reducible assumption) | (with_reducible refine Pt.drew ?_) | (with_reducible refine Pt.new' (by first | rfl | (simp; done) | omega)) | (with_reducible refine Pt.alloc ?_ _) | (with_reducible refine Pt.keep ?_ (by with_reducible assumption))))) hb_w1)
  have HB := Lib.hid (Left.of H.out (show Below w.heap.size w w1 from by (repeat' (first | (with_reducible exact Below.refl _ _) | (with_reducible assumption) | (with_reducible exact Hid.out (by assumption)) | (with_reducible refine below_a ?_ _) | (with_reducible refine below_dn ?_ _) | (with_reducible refine below_c ?_ (by assumption)) | (with_reducible refine below_d ?_) | (with_reducible refine Below.setCell ?_ ?_ _) | (with_reducible refine Below.alloc ?_ ?_ _) | (with_reducible refine below_call ?_ ?_ (by assumption)) | (with_reducible refine Below.drew ?_) | go_size | ((try simp only [World.size_alloc, World.size_setCell, World.size_drew] at *); omega)))))
  clear hb_w1 hc hf hz hl hz0 hz1 hz2 hd hp
  go_loopg [] (62 - (lvlN ns x).toNat) (fun g wr => ∃ (y : Nat) (ns1 : List Nd) (n : Nat), Hid (R = reachGo most X Y n y ns1) ∧ Hid (lvlN ns1 y + g = 62) ∧ Hid (3 ≤ lvlN ns1 y) ∧ Hid (g < n) ∧ Hid (Left base S most ns1 w wr) ∧ Hid (Pt wr w.heap.size #[.pointer (some ⟨S, 0, none⟩), .int .u32 y] 91) ∧ Hid (Pt wr (w.heap.size + 1) #[.int .i64 X, .int .i64 Y] 95) ∧ Hid (Pt wr (w.heap.size + 1 + 1) #[.pointer none, .int .u32 0] 91))
  case atStart => exact ⟨x, ns, 64, HR, Lib.hid (by have := HL.out; have := lvl_le H.out.ok x; omega), HL, Lib.hid (by omega), HB, pP, pQ, pR⟩
  case round =>
    obtain ⟨y, ns1, n, HR1, HG, HL1, HN, HB1, pP1, pQ1, pR1⟩ := hrel
    clear pP pQ pR HB HR
    obtain ⟨n, rfl⟩ : ∃ m, n = m + 1 := ⟨n - 1, by have := HN.out; omega⟩
    have hy := lvlN_lt (show 0 ≤ lvlN ns1 y by have := HL1.out; omega)
    have HY := Lib.hid (show y < 4294967296 by have := HB1.out.st.two; omega)
    clear hy
    have cP := pP1.out.cell
    have cQ := pQ1.out.cell
    have cR := pR1.out.cell
    have fR := pR1.out.frozen
    have lR := pR1.out.lt
    have lP := pP1.out.lt
    have lQ := pQ1.out.lt
    cases hb : hasN ns1 y X Y with
    | true =>
      have hr : R = (y, 0, ns1) := HR1.out.trans (by show (if hasN ns1 y X Y then _ else _) = _; rw [hb]; rfl)
      have HR2 := Lib.hid hr
      clear hr
      go_wp2_with ((go_at_call 83); (with_reducible refine (has_pl HB1.out.st y HY.out X Y).mono ?_); rintro e w2 ⟨rfl, hb_w2⟩; obtain ⟨hc, hf⟩ := bcell hb_w2; have hz := hb_w2.size; (try simp only [World.size_alloc, World.size_setCell, World.size_drew] at hz); (first | (with_reducible have hl := lt_rule6 hz) | (with_reducible have hl := lt_rule5 hz) | (with_reducible have hl := lt_rule4 hz) | (with_reducible have hl := lt_rule3 hz) | (with_reducible have hl := lt_rule2 hz) | (with_reducible have hl := lt_rule1 hz) | have hl := lt_rule0 hz); (try (have hz0 : w.heap.size < w2.heap.size := by omega)); (try (have hz1 : w.heap.size + 1 < w2.heap.size := by omega)); (try (have hz2 : w.heap.size + 1 + 1 < w2.heap.size := by omega)); (try (have hz3 : w.heap.size + 1 + 1 + 1 < w2.heap.size := by omega)); (try (have hz4 : w.heap.size + 1 + 1 + 1 + 1 < w2.heap.size := by omega)))
      refine bodyPost_ret (by simp [results, Try.results60, go_sem, *]; rfl) rfl ?_
      rw [HR2.out]
      have pR2 := pR1.out.keep hb_w2
      have L2 := HB1.out.next (show Below wr.heap.size wr w2 from by (repeat' (first | (with_reducible exact Below.refl _ _) | (with_reducible assumption) | (with_reducible exact Hid.out (by assumption)) | (with_reducible refine below_a ?_ _) | (with_reducible refine below_dn ?_ _) | (with_reducible refine below_c ?_ (by assumption)) | (with_reducible refine below_d ?_) | (with_reducible refine Below.setCell ?_ ?_ _) | (with_reducible refine Below.alloc ?_ ?_ _) | (with_reducible refine below_call ?_ ?_ (by assumption)) | (with_reducible refine Below.drew ?_) | go_size | ((try simp only [World.size_alloc, World.size_setCell, World.size_drew] at *); omega))))
      exact ⟨rfl, L2.set2 pR2 (by decide) (by decide) (by decide) (by omega) _ _ _ _⟩
    | false =>
      have hlv : lvlN ns1 y < 62 := by
        apply Int.not_le.1
        intro h62
        have := lvl_le HB1.out.st.ok y
        rw [has_top (by omega) HPP.out] at hb
        cases hb
      have hr : R = if (expandN ns1 most y).2.1 = 0 then reachGo most X Y n (expandN ns1 most y).1 (expandN ns1 most y).2.2 else (0, (expandN ns1 most y).2.1, (expandN ns1 most y).2.2) := HR1.out.trans (by show (if hasN ns1 y X Y then _ else _) = _; rw [hb]; rfl)
      have HR2 := Lib.hid hr
      obtain ⟨r0, _, hd, _, _⟩ := expand_done0 (most := most) (x := y) (l := (lvlN ns1 y - 1).toNat) HB1.out.st.ok (by have := HL1.out; omega) (by have := HL1.out; omega)
      have HD := Lib.hid (fun h0 => (hd.yes h0).1)
      have HX2 := Lib.hid (fun W (b : Below wr.heap.size wr W) => expand_any (HB1.out.st.below b) y HY.out)
      have HLT := Lib.hid hlv
      clear hd hr hlv
      generalize expandN ns1 most y = r at *
      by_cases he : r.2.1 = 0
      · rw [planeV_ok he, he, errV0] at HX2
        have HE0 := Lib.hid he
        clear he
        go_wp2_with (first | ((go_at_call 83); (with_reducible refine (has_pl HB1.out.st y HY.out X Y).mono ?_); rintro e w2 ⟨rfl, hb_w2⟩; obtain ⟨hc, hf⟩ := bcell hb_w2; have hz := hb_w2.size; (try simp only [World.size_alloc, World.size_setCell, World.size_drew] at hz); (first | (with_reducible have hl := lt_rule6 hz) | (with_reducible have hl := lt_rule5 hz) | (with_reducible have hl := lt_rule4 hz) | (with_reducible have hl := lt_rule3 hz) | (with_reducible have hl := lt_rule2 hz) | (with_reducible have hl := lt_rule1 hz) | have hl := lt_rule0 hz); (try (have hz0 : w.heap.size < w2.heap.size := by omega)); (try (have hz1 : w.heap.size + 1 < w2.heap.size := by omega)); (try (have hz2 : w.heap.size + 1 + 1 < w2.heap.size := by omega)); (try (have hz3 : w.heap.size + 1 + 1 + 1 < w2.heap.size := by omega)); (try (have hz4 : w.heap.size + 1 + 1 + 1 + 1 < w2.heap.size := by omega))) | ((go_at_call 58); (with_reducible refine (HX2.out _ (by (repeat' (first | (with_reducible exact Below.refl _ _) | (with_reducible assumption) | (with_reducible exact Hid.out (by assumption)) | (with_reducible refine below_a ?_ _) | (with_reducible refine below_dn ?_ _) | (with_reducible refine below_c ?_ (by assumption)) | (with_reducible refine below_d ?_) | (with_reducible refine Below.setCell ?_ ?_ _) | (with_reducible refine Below.alloc ?_ ?_ _) | (with_reducible refine below_call ?_ ?_ (by assumption)) | (with_reducible refine Below.drew ?_) | go_size | ((try simp only [World.size_alloc, World.size_setCell, World.size_drew] at *); omega))))).mono ?_); rintro e w3 ⟨rfl, k3⟩; have K3 := Lib.hid ((HB1.out.next hb_w2).call k3); have pP3 := Lib.hid (Pt.left (pP1.out.keep hb_w2) (HB1.out.st.below hb_w2) k3 (by decide) (by decide) (by decide)); have pQ3 := Lib.hid (Pt.left (pQ1.out.keep hb_w2) (HB1.out.st.below hb_w2) k3 (by decide) (by decide) (by decide)); have pR3 := Lib.hid (Pt.left (pR1.out.keep hb_w2) (HB1.out.st.below hb_w2) k3 (by decide) (by decide) (by decide)); have cP3 := pP3.out.cell; have fP3 := pP3.out.frozen; have lP3 := pP3.out.lt; have cR3 := pR3.out.cell; have fR3 := pR3.out.frozen; have lR3 := pR3.out.lt; clear k3))
        have HF := Lib.hid (show gk - 1 < gk ∧ lvlN r.2.2 r.1 + (gk - 1 : Nat) = 62 ∧ 3 ≤ lvlN r.2.2 r.1 ∧ gk - 1 < n from by
          have hlv := HD.out HE0.out
          have h3 := HL1.out
          have hg := HG.out
          have hn := HN.out
          have h62 := HLT.out
          omega)
        have e0 := HE0.out
        go_roundg (gk - 1)
        case measure => exact HF.out.1
        case rel => exact ⟨r.1, r.2.2, n, Lib.hid (HR2.out.trans (if_pos e0)), Lib.hid HF.out.2.1, Lib.hid HF.out.2.2.1, Lib.hid HF.out.2.2.2, Lib.hid ((Left.set2 K3.out pP3.out (by decide) (by decide) (by decide) (by omega) _ _ _ _).alloc _), Lib.hid (((pP3.out.set 0 _).set 1 _).alloc _), Lib.hid (((pQ3.out.set_ne (by simp) _).set_ne (by simp) _).alloc _), Lib.hid (((pR3.out.set_ne (by simp; omega) _).set_ne (by simp; omega) _).alloc _)⟩
      · rw [planeV_no he] at HX2
        have HE0 := Lib.hid he
        clear he
        go_wp2_with (first | ((go_at_call 83); (with_reducible refine (has_pl HB1.out.st y HY.out X Y).mono ?_); rintro e w2 ⟨rfl, hb_w2⟩; obtain ⟨hc, hf⟩ := bcell hb_w2; have hz := hb_w2.size; (try simp only [World.size_alloc, World.size_setCell, World.size_drew] at hz); (first | (with_reducible have hl := lt_rule6 hz) | (with_reducible have hl := lt_rule5 hz) | (with_reducible have hl := lt_rule4 hz) | (with_reducible have hl := lt_rule3 hz) | (with_reducible have hl := lt_rule2 hz) | (with_reducible have hl := lt_rule1 hz) | have hl := lt_rule0 hz); (try (have hz0 : w.heap.size < w2.heap.size := by omega)); (try (have hz1 : w.heap.size + 1 < w2.heap.size := by omega)); (try (have hz2 : w.heap.size + 1 + 1 < w2.heap.size := by omega)); (try (have hz3 : w.heap.size + 1 + 1 + 1 < w2.heap.size := by omega)); (try (have hz4 : w.heap.size + 1 + 1 + 1 + 1 < w2.heap.size := by omega))) | ((go_at_call 58); (with_reducible refine (HX2.out _ (by (repeat' (first | (with_reducible exact Below.refl _ _) | (with_reducible assumption) | (with_reducible exact Hid.out (by assumption)) | (with_reducible refine below_a ?_ _) | (with_reducible refine below_dn ?_ _) | (with_reducible refine below_c ?_ (by assumption)) | (with_reducible refine below_d ?_) | (with_reducible refine Below.setCell ?_ ?_ _) | (with_reducible refine Below.alloc ?_ ?_ _) | (with_reducible refine below_call ?_ ?_ (by assumption)) | (with_reducible refine Below.drew ?_) | go_size | ((try simp only [World.size_alloc, World.size_setCell, World.size_drew] at *); omega))))).mono ?_); rintro e w3 ⟨rfl, k3⟩; have K3 := Lib.hid ((HB1.out.next hb_w2).call k3); have pP3 := Lib.hid (Pt.left (pP1.out.keep hb_w2) (HB1.out.st.below hb_w2) k3 (by decide) (by decide) (by decide)); have pQ3 := Lib.hid (Pt.left (pQ1.out.keep hb_w2) (HB1.out.st.below hb_w2) k3 (by decide) (by decide) (by decide)); have pR3 := Lib.hid (Pt.left (pR1.out.keep hb_w2) (HB1.out.st.below hb_w2) k3 (by decide) (by decide) (by decide)); have cP3 := pP3.out.cell; have fP3 := pP3.out.frozen; have lP3 := pP3.out.lt; have cR3 := pR3.out.cell; have fR3 := pR3.out.frozen; have lR3 := pR3.out.lt; clear k3))
        · refine bodyPost_ret (by simp [results, Try.results60, go_sem, *]; rfl) rfl ?_
          have hR := HR2.out.trans (if_neg HE0.out)
          rw [hR]
          exact ⟨by rw [planeV_no (show ¬ ((0, r.2.1, r.2.2) : Res).2.1 = 0 from HE0.out)], (Left.set2 K3.out pR3.out (by decide) (by decide) (by decide) (by omega) _ _ _ _).alloc _⟩
        · exact absurd (by have h := ‹(!decide _) = false›; simpa using h) HE0.out
end
end Go.Proofs.Ytjiliiclebdbfaa
