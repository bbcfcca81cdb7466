/- Contracts of package quad: set. -/
import Derived.Test.YtjiliiclebdbfaaQuadB
import Derived.Deep.RegionWith
import Derived.Deep.DeepCutAuto
import Derived.StillTailTactics
import Derived.Deep.DrawnRows
namespace Go.Proofs.Ytjiliiclebdbfaa
open Go.RowKit
set_option linter.unusedVariables false
set_option linter.unusedSimpArgs false
attribute [local go_sem] eqGuard_errV neq_errV eql_errV
attribute [local go_sem ↓] Go.wp_at_zero Go.wp_at_succ

def kArr (k : K4) : Array Value := #[.int .u32 k.a, .int .u32 k.b, .int .u32 k.c, .int .u32 k.d]
theorem kArr_get (k : K4) (q : Nat) (h : q < 4) : (kArr k)[q]? = some (.int .u32 (kid k q)) := by
  match q, h with
  | 0, _ => rfl
  | 1, _ => rfl
  | 2, _ => rfl
  | 3, _ => rfl
theorem kArr_set (k : K4) (q y : Nat) (h : q < 4) : (kArr k).setIfInBounds q (.int .u32 y) = kArr (setK k q y) := by
  match q, h with
  | 0, _ => rfl
  | 1, _ => rfl
  | 2, _ => rfl
  | 3, _ => rfl
theorem pt_kset {W : World} {b : Nat} {kk : K4} {T : TypeId} {q y : Nat} (p : Pt W b (kArr kk) T) (hq : q < 4) : Pt (W.setCell ⟨b, q, none⟩ (.int .u32 (y : Nat))) b (kArr (setK kk q y)) T := by
  have := p.set q (.int .u32 (y : Nat))
  rw [kArr_set kk q y hq] at this
  exact this
section
variable {base S : Nat} {w : World} {ns : List Nd} {most : Nat}
/-- Of a square that has four. -/
theorem of_in (h : St base w S ns most) (x : Nat) {l : Nat} (hl : lvlN ns x = l + 1) {W : World} (b : Below w.heap.size w W) :
    Calls Try.prog 28 #[.pointer (some ⟨S, 0, none⟩), .int .u32 x] W fun e w' => e = .returned (.tuple #[.agg #[.int .u32 (kidsOf ns x).a, .int .u32 (kidsOf ns x).b, .int .u32 (kidsOf ns x).c, .int .u32 (kidsOf ns x).d], .bool true]) ∧ Below W.heap.size W w' := by
  have h2 := h.two
  have hx := (lvl_kids h.ok hl).2.1
  have := of_st (h.below b) x (by omega)
  rw [ofK_pos (by omega), decide_eq_true (show 1 ≤ lvlN ns x by omega)] at this
  exact this
theorem of_out (h : St base w S ns most) (x : Nat) (hx : x < 4294967296) (hl : lvlN ns x < 1) {W : World} (b : Below w.heap.size w W) :
    Calls Try.prog 28 #[.pointer (some ⟨S, 0, none⟩), .int .u32 x] W fun e w' => e = .returned (.tuple #[.agg #[.int .u32 0, .int .u32 0, .int .u32 0, .int .u32 0], .bool false]) ∧ Below W.heap.size W w' := by
  have := of_st (h.below b) x hx
  rw [decide_eq_false (show ¬ 1 ≤ lvlN ns x by omega)] at this
  unfold ofK at this
  rw [if_neg (show ¬ 1 ≤ lvlN ns x by omega)] at this
  exact this
theorem level_at (h : St base w S ns most) (x : Nat) (hx : x < 4294967296) (L : Int) (hl : lvlN ns x = L) {W : World} (b : Below w.heap.size w W) : Calls Try.prog 17 #[.pointer (some ⟨S, 0, none⟩), .int .u32 x] W fun e w' => e = .returned (.int .i64 L) ∧ W = w' := by
  subst hl
  exact level_st (h.below b) x hx
def SetSaid (l : Nat) : Prop := ∀ (base S : Nat) (w : World) (ns : List Nd) (most x px py : Nat) (on : Bool), St base w S ns most → lvlN ns x = l → px < 2 ^ l → py < 2 ^ l →
    Calls Try.prog 81 #[.pointer (some ⟨S, 0, none⟩), .int .u32 x, .agg #[.int .i64 ((px : Nat)), .int .i64 ((py : Nat))], .bool on] w fun e w' => e = .returned (.tuple #[.int .u32 ((setN most on l x px py ns).1 : Nat), errV (setN most on l x px py ns).2.1]) ∧ Left base S most (setN most on l x px py ns).2.2 w w'
theorem set_zero : SetSaid 0 := by
  intro base S w ns most x px py on h hl hx hy
  have h2 := h.two
  have hlt := lvlN_lt (show 0 ≤ lvlN ns x by omega)
  have H := Lib.hid h
  have HX := Lib.hid (And.intro (show x < 4294967296 by omega) (show lvlN ns x < 1 by omega))
  clear h hl hx hy h2 hlt
  cases on
  all_goals
    go_enter Try.func81, Try.ntmps81
    go_wp2_with ((go_at_call 28); (with_reducible refine (of_out H.out x HX.out.1 HX.out.2 (by (repeat' (first | (with_reducible exact Below.refl _ _) | (with_reducible assumption) | (with_reducible exact Hid.out (by assumption)) | (with_reducible refine below_a ?_ _) | (with_reducible refine below_dn ?_ _) | (with_reducible refine below_c ?_ (by assumption)) | (with_reducible refine below_d ?_) | (with_reducible refine Below.setCell ?_ ?_ _) | (with_reducible refine Below.alloc ?_ ?_ _) | (with_reducible refine below_call ?_ ?_ (by assumption)) | (with_reducible refine Below.drew ?_) | go_size | ((try simp only [World.size_alloc, World.size_setCell, World.size_drew] at *); omega))))).mono ?_); rintro e w1 ⟨rfl, b1⟩)
    refine bodyPost_ret (by simp [results, Try.results81, go_sem, *]; rfl) rfl ?_
    exact ⟨rfl, Left.of H.out (by (repeat' (first | (with_reducible exact Below.refl _ _) | (with_reducible assumption) | (with_reducible exact Hid.out (by assumption)) | (with_reducible refine below_a ?_ _) | (with_reducible refine below_dn ?_ _) | (with_reducible refine below_c ?_ (by assumption)) | (with_reducible refine below_d ?_) | (with_reducible refine Below.setCell ?_ ?_ _) | (with_reducible refine Below.alloc ?_ ?_ _) | (with_reducible refine below_call ?_ ?_ (by assumption)) | (with_reducible refine Below.drew ?_) | go_size | ((try simp only [World.size_alloc, World.size_setCell, World.size_drew] at *); omega))))⟩
set_option maxRecDepth 20000 in
set_option maxHeartbeats 4000000 in
theorem set_succ (l : Nat) (ih : SetSaid l) : SetSaid (l + 1) := by
  intro base S w ns most x px py on h hl hx hy
  have hk := lvl_kids h.ok hl
  have h2 := h.two
  have l2 := lvl_le h.ok x
  obtain ⟨-, -, mx, my⟩ := quar_split l px py hx hy
  have hq := quar_lt l px py
  have H := Lib.hid h
  have HX := Lib.hid (And.intro (show x < 4294967296 by omega) (And.intro hl (And.intro (show ((l + 1 : Nat) : Int) = (l : Int) + 1 by omega) (show l ≤ 61 by omega))))
  have HP := Lib.hid (And.intro hx hy)
  have HO := Lib.hid (fun W (b : Below w.heap.size w W) => of_in h x hl b)
  have HI := Lib.hid (fun W (b : Below w.heap.size w W) => ih base S W ns most (kid (kidsOf ns x) (quar l px py)) (px % 2 ^ l) (py % 2 ^ l) on (h.below b) (hk.2.2 _).1 mx my)
  have HW := Lib.hid (fun W => which_any px py l ((l : Int) + 1) rfl (by omega) hx hy W)
  have HE : Hid (setN most on (l + 1) x px py ns = if (setN most on l (kid (kidsOf ns x) (quar l px py)) (px % 2 ^ l) (py % 2 ^ l) ns).2.1 = 0 then makeN (setN most on l (kid (kidsOf ns x) (quar l px py)) (px % 2 ^ l) (py % 2 ^ l) ns).2.2 most (setK (kidsOf ns x) (quar l px py) (setN most on l (kid (kidsOf ns x) (quar l px py)) (px % 2 ^ l) (py % 2 ^ l) ns).1) else (0, (setN most on l (kid (kidsOf ns x) (quar l px py)) (px % 2 ^ l) (py % 2 ^ l) ns).2.1, (setN most on l (kid (kidsOf ns x) (quar l px py)) (px % 2 ^ l) (py % 2 ^ l) ns).2.2)) := Lib.hid rfl
  have HD := Lib.hid (set_done (most := most) on h.ok (hk.2.2 (quar l px py)).1 mx my)
  have HK := Lib.hid (fun i => (hk.2.2 i))
  have q0 : (0 : Int) ≤ (quar l px py : Int) := by omega
  have q1 : (quar l px py : Int) < 4 := by omega
  have HQ := Lib.hid hq
  clear h hl hx hy h2 l2 hk mx my hq ih
  generalize setN most on (l + 1) x px py ns = R at HE ⊢
  generalize setN most on l (kid (kidsOf ns x) (quar l px py)) (px % 2 ^ l) (py % 2 ^ l) ns = r at *
  generalize px % 2 ^ l = nx at *
  generalize py % 2 ^ l = ny at *
  generalize quar l px py = q at *
  generalize kidsOf ns x = kk at *
  go_enter Try.func81, Try.ntmps81
  go_upto_region 6 with ((go_at_call 28); (with_reducible refine (HO.out _ (by (repeat' (first | (with_reducible exact Below.refl _ _) | (with_reducible assumption) | (with_reducible exact Hid.out (by assumption)) | (with_reducible refine below_a ?_ _) | (with_reducible refine below_dn ?_ _) | (with_reducible refine below_c ?_ (by assumption)) | (with_reducible refine below_d ?_) | (with_reducible refine Below.setCell ?_ ?_ _) | (with_reducible refine Below.alloc ?_ ?_ _) | (with_reducible refine below_call ?_ ?_ (by assumption)) | (with_reducible refine Below.drew ?_) | go_size | ((try simp only [World.size_alloc, World.size_setCell, World.size_drew] at *); omega))))).mono ?_); rintro e w1 ⟨rfl, b1⟩; have B1 := Lib.hid (show Below w.heap.size w w1 from by (repeat' (first | (with_reducible exact Below.refl _ _) | (with_reducible assumption) | (with_reducible exact Hid.out (by assumption)) | (with_reducible refine below_a ?_ _) | (with_reducible refine below_dn ?_ _) | (with_reducible refine below_c ?_ (by assumption)) | (with_reducible refine below_d ?_) | (with_reducible refine Below.setCell ?_ ?_ _) | (with_reducible refine Below.alloc ?_ ?_ _) | (with_reducible refine below_call ?_ ?_ (by assumption)) | (with_reducible refine Below.drew ?_) | go_size | ((try simp only [World.size_alloc, World.size_setCell, World.size_drew] at *); omega)))); have pq := Lib.hid (Pt.keep (show Pt _ w.heap.size #[.int .i64 px, .int .i64 py] 95 from by (repeat' (first | (with_reducible assumption) | (with_reducible refine Pt.drew ?_) | (with_reducible refine Pt.new' (by first | rfl | (simp; done) | omega)) | (with_reducible refine Pt.alloc ?_ _) | (with_reducible refine Pt.keep ?_ (by with_reducible assumption))))) b1); clear b1)
  have pK := Lib.hid (Pt.new w1 (kArr kk) 55)
  replace pq := Lib.hid (pq.out.alloc (.cells (kArr kk) 55))
  have HB := Lib.hid (below_a B1.out (.cells (kArr kk) 55))
  unfold kArr at pK pq HB
  generalize w1.alloc (.cells #[.int .u32 kk.a, .int .u32 kk.b, .int .u32 kk.c, .int .u32 kk.d] 55) = W1 at *
  have cq := pq.out.cell
  have lq := pq.out.lt
  go_cut [12, 13] (fun s12 s13 W => ∃ g, s12 = .int .i64 q ∧ s13 = .pointer (some ⟨g, 0, none⟩) ∧ Hid (Pt W g #[.int .i64 nx, .int .i64 ny] 95) ∧ Hid (Below W1.heap.size W1 W) ∧ Hid (W1.heap.size ≤ g))
  case first =>
    go_region_with (first | ((go_at_call 17); (with_reducible refine (level_at H.out x HX.out.1 _ HX.out.2.1 (by (repeat' (first | (with_reducible exact Below.refl _ _) | (with_reducible assumption) | (with_reducible exact Hid.out (by assumption)) | (with_reducible refine below_a ?_ _) | (with_reducible refine below_dn ?_ _) | (with_reducible refine below_c ?_ (by assumption)) | (with_reducible refine below_d ?_) | (with_reducible refine Below.setCell ?_ ?_ _) | (with_reducible refine Below.alloc ?_ ?_ _) | (with_reducible refine below_call ?_ ?_ (by assumption)) | (with_reducible refine Below.drew ?_) | go_size | ((try simp only [World.size_alloc, World.size_setCell, World.size_drew] at *); omega))))).mono ?_); rintro e w' ⟨rfl, rfl⟩) | ((go_at_call 84); (with_reducible refine (HW.out _).mono ?_); rintro e w2 ⟨rfl, hb_w2⟩; obtain ⟨hc, hf⟩ := bcell hb_w2; have hz := hb_w2.size; (try simp only [World.size_alloc, World.size_setCell, World.size_drew] at hz); (first | (with_reducible have hl := lt_rule6 hz) | (with_reducible have hl := lt_rule5 hz) | (with_reducible have hl := lt_rule4 hz) | (with_reducible have hl := lt_rule3 hz) | (with_reducible have hl := lt_rule2 hz) | (with_reducible have hl := lt_rule1 hz) | have hl := lt_rule0 hz); (try (have hz0 : w.heap.size < w2.heap.size := by omega)); (try (have hz1 : w.heap.size + 1 < w2.heap.size := by omega)); (try (have hz2 : w.heap.size + 1 + 1 < w2.heap.size := by omega)); (try (have hz3 : w.heap.size + 1 + 1 + 1 < w2.heap.size := by omega)); (try (have hz4 : w.heap.size + 1 + 1 + 1 + 1 < w2.heap.size := by omega))))
    all_goals (go_wp2_with fail; go_meet)
    all_goals refine ⟨_, rfl, rfl, Lib.hid ?_, Lib.hid ?_, Lib.hid ?_⟩
    all_goals first | (exact (((Pt.keep (b := W1.heap.size) (cs := #[.int .i64 0, .int .i64 0]) (by (repeat' (first | (with_reducible assumption) | (with_reducible refine Pt.drew ?_) | (with_reducible refine Pt.new' (by first | rfl | (simp; done) | omega)) | (with_reducible refine Pt.alloc ?_ _) | (with_reducible refine Pt.keep ?_ (by with_reducible assumption))))) hb_w2).set 0 _).set 1 _)) | ((repeat' (first | (with_reducible assumption) | (with_reducible refine Pt.drew ?_) | (with_reducible refine Pt.new' (by first | rfl | (simp; done) | omega)) | (with_reducible refine Pt.alloc ?_ _) | (with_reducible refine Pt.keep ?_ (by with_reducible assumption)))); done) | (exact Nat.le_refl _) | ((repeat' (first | (with_reducible exact Below.refl _ _) | (with_reducible assumption) | (with_reducible exact Hid.out (by assumption)) | (with_reducible refine below_a ?_ _) | (with_reducible refine below_dn ?_ _) | (with_reducible refine below_c ?_ (by assumption)) | (with_reducible refine below_d ?_) | (with_reducible refine Below.setCell ?_ ?_ _) | (with_reducible refine Below.alloc ?_ ?_ _) | (with_reducible refine below_call ?_ ?_ (by assumption)) | (with_reducible refine Below.drew ?_) | go_size | ((try simp only [World.size_alloc, World.size_setCell, World.size_drew] at *); omega))); done) | (have := hz; omega)
  case rest =>
    obtain ⟨g, rfl, rfl, hpg, hbc, hge⟩ := hcut
    obtain ⟨W2, rfl⟩ : ∃ W : World, W = wc := ⟨_, rfl⟩
    have pKc := Lib.hid (pK.out.keep hbc.out)
    have HBc := Lib.hid (below_c HB.out hbc.out)
    have ck : W2.cell? ⟨w1.heap.size, q, none⟩ = some (.int .u32 (kid kk q)) := by rw [pKc.out.cell]; exact kArr_get kk q HQ.out
    have cg0 : W2.cell? ⟨g, 0, none⟩ = some (.int .i64 nx) := by rw [hpg.out.cell]; rfl
    have cg1 : W2.cell? ⟨g, 1, none⟩ = some (.int .i64 ny) := by rw [hpg.out.cell]; rfl
    go_upto_region 7 with fail
    go_cut [14, 15] (fun s14 s15 W => s14 = .int .u32 (r.1 : Nat) ∧ s15 = errV r.2.1 ∧ Hid (Left base S most r.2.2 W2 W))
    case first =>
      go_region_with ((go_at_call 81); (with_reducible refine (HI.out _ (by first | exact HBc.out | exact below_d HBc.out | exact below_dn HBc.out _)).mono ?_); rintro e w3 ⟨rfl, k3⟩; have K3 := Lib.hid ((Left.of (H.out.below HBc.out) (show Below W2.heap.size W2 _ from by (repeat' (first | (with_reducible exact Below.refl _ _) | (with_reducible assumption) | (with_reducible exact Hid.out (by assumption)) | (with_reducible refine below_a ?_ _) | (with_reducible refine below_dn ?_ _) | (with_reducible refine below_c ?_ (by assumption)) | (with_reducible refine below_d ?_) | (with_reducible refine Below.setCell ?_ ?_ _) | (with_reducible refine Below.alloc ?_ ?_ _) | (with_reducible refine below_call ?_ ?_ (by assumption)) | (with_reducible refine Below.drew ?_) | go_size | ((try simp only [World.size_alloc, World.size_setCell, World.size_drew] at *); omega))))).call k3); clear k3)
      all_goals (go_wp2_with fail; go_meet)
      all_goals exact ⟨rfl, rfl, K3⟩
    case rest =>
      obtain ⟨rfl, rfl, K3⟩ := hcut
      have pK3 := Lib.hid (Pt.left pKc.out (H.out.below HBc.out) K3.out (by decide) (by decide) (by decide))
      have K3w := Lib.hid ((Left.of H.out HBc.out).call K3.out)
      have fK := pK3.out.frozen q
      have lK := pK3.out.lt
      have cK : wc.cell? ⟨w1.heap.size, q, none⟩ = some (.int .u32 (kid kk q)) := by rw [pK3.out.cell]; exact kArr_get kk q HQ.out
      have pS := Lib.hid (pt_kset (kk := kk) (y := r.1) pK3.out HQ.out)
      unfold kArr at pS
      have cS := pS.out.cell
      have HS := Lib.hid (K3w.out.1.setP pK3.out (by decide) (by decide) (by decide) q (.int .u32 (r.1 : Nat)))
      have HSL := Lib.hid (K3w.out.set pK3.out (by decide) (by decide) (by decide) (by have := B1.out.size; omega) q (.int .u32 (r.1 : Nat)))
      have HR := Lib.hid (fun (h0 : r.2.1 = 0) => show (setK kk q r.1).a < 4294967296 ∧ (setK kk q r.1).b < 4294967296 ∧ (setK kk q r.1).c < 4294967296 ∧ (setK kk q r.1).d < 4294967296 from by
        have two := K3w.out.1.two
        have hy := lvlN_lt (show 0 ≤ lvlN r.2.2 r.1 by rw [(HD.out.yes h0).1]; omega)
        have hx := HX.out.1
        have hall : ∀ i, i < 4 → kid (setK kk q r.1) i < 4294967296 := fun i hi => by
          rw [kid_set _ _ _ _ HQ.out hi]
          split
          · omega
          · have := (HK.out i).2; omega
        exact ⟨hall 0 (by omega), hall 1 (by omega), hall 2 (by omega), hall 3 (by omega)⟩)
      go_wp2_with ((go_at_call 31); (with_reducible refine (make_l HS.out _ _ _ _ (HR.out (by simpa using ‹(!decide _) = false›)).1 (HR.out (by simpa using ‹(!decide _) = false›)).2.1 (HR.out (by simpa using ‹(!decide _) = false›)).2.2.1 (HR.out (by simpa using ‹(!decide _) = false›)).2.2.2).mono ?_); rintro e w4 ⟨rfl, k4⟩)
      · refine bodyPost_ret (by simp [results, Try.results81, go_sem, *]; rfl) rfl ?_
        have h0 : ¬ r.2.1 = 0 := by simpa using ‹(!decide _) = true›
        rw [HE.out, if_neg h0]
        exact ⟨rfl, K3w.out⟩
      · refine bodyPost_ret (by simp [results, Try.results81, go_sem, *]; rfl) rfl ?_
        have h0 : r.2.1 = 0 := by simpa using ‹(!decide _) = false›
        rw [HE.out, if_pos h0]
        exact ⟨rfl, HSL.out.call k4⟩
theorem set_all : ∀ l, SetSaid l
  | 0 => set_zero
  | l + 1 => set_succ l (set_all l)
theorem set_any (h : St base w S ns most) {l x px py : Nat} (on : Bool) (hl : lvlN ns x = l) (hx : px < 2 ^ l) (hy : py < 2 ^ l) :
    Calls Try.prog 81 #[.pointer (some ⟨S, 0, none⟩), .int .u32 x, .agg #[.int .i64 ((px : Nat)), .int .i64 ((py : Nat))], .bool on] w fun e w' => e = .returned (.tuple #[.int .u32 ((setN most on l x px py ns).1 : Nat), errV (setN most on l x px py ns).2.1]) ∧ Left base S most (setN most on l x px py ns).2.2 w w' :=
  set_all l base S w ns most x px py on h hl hx hy
end
end Go.Proofs.Ytjiliiclebdbfaa
