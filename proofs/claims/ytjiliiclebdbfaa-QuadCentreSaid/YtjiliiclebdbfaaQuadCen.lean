/- The walk of the statement QuadCentre: of any square of level 3 the four squares in its middle. -/
import Derived.Test.YtjiliiclebdbfaaQuadL
import Derived.Test.YtjiliiclebdbfaaQuadH
import Derived.Test.YtjiliiclebdbfaaArr
namespace Go.Proofs.Ytjiliiclebdbfaa
open Go.RowKit
set_option linter.unusedVariables false
set_option linter.unusedSimpArgs false
attribute [local go_sem] eqGuard_errV neq_errV eql_errV

/-- A bit of a number. -/
def bitC (c : Int) (i : Nat) : Bool := decide (bits BinOp.and IntKind.u64 (c / 2 ^ i) 1 = 1)
/-- A plane that has the first n of 64 cells. -/
structure CenIn (c : Int) (n x : Nat) (ns : List Nd) : Prop where
  ok : StOk ns
  lvl : lvlN ns x = 3
  len : ns.length ≤ 5 + 62 * n
  cells : ∀ i : Nat, i < 64 → planeX ns x ((i : Int) % 8 - 4) ((i : Int) / 8 - 4) = (decide (i < n) && bitC c i)
theorem CenIn.start (c : Int) (h : (emptyN twoN 5000 3).2.1 = 0) : CenIn c 0 (emptyN twoN 5000 3).1 (emptyN twoN 5000 3).2.2 := by
  obtain ⟨s0, l0, n0, c0⟩ := start_plane 5000 h
  exact ⟨s0, l0, by omega, fun i hi => by rw [c0]; simp⟩
theorem CenIn.stay {c : Int} {n x : Nat} {ns : List Nd} (h : CenIn c n x ns) (hb : bitC c n = false) : CenIn c (n + 1) x ns :=
  ⟨h.ok, h.lvl, by have := h.len; omega, fun i hi => by
    rw [h.cells i hi]
    by_cases e : i = n
    · subst e; simp [hb]
    · have : (i < n + 1) = (i < n) := by apply propext; omega
      simp only [this]⟩
theorem CenIn.put {c : Int} {n x : Nat} {ns : List Nd} (h : CenIn c n x ns) (hn : n < 64) (hb : bitC c n = true) :
    (setPl ns 5000 x ((n : Int) % 8 - 4) ((n : Int) / 8 - 4) true).2.1 = 0 ∧ CenIn c (n + 1) (setPl ns 5000 x ((n : Int) % 8 - 4) ((n : Int) / 8 - 4) true).1 (setPl ns 5000 x ((n : Int) % 8 - 4) ((n : Int) / 8 - 4) true).2.2 := by
  have hp : (insB ((n : Int) % 8 - 4) && insB ((n : Int) / 8 - 4)) = true := by
    unfold insB
    simp only [Bool.and_eq_true, decide_eq_true_eq]
    omega
  have hh : hasL 3 ((n : Int) % 8 - 4) ((n : Int) / 8 - 4) = true := by
    unfold hasL
    have e : halfN 3 = 4 := rfl
    rw [e]
    simp only [Bool.and_eq_true, decide_eq_true_eq]
    omega
  obtain ⟨e1, s1, n1, ok, no⟩ := setPl_done (most := 5000) (x := x) (X := (n : Int) % 8 - 4) (Y := (n : Int) / 8 - 4) (L1 := 3) true h.ok (by have := h.lvl; omega) hp hh (by have := h.lvl; omega) (by omega)
  rw [h.lvl] at n1
  have hl := h.len
  have h0 : (setPl ns 5000 x ((n : Int) % 8 - 4) ((n : Int) / 8 - 4) true).2.1 = 0 := by
    apply Classical.byContradiction
    intro h
    have := (no h).2.2
    simp at n1
    omega
  obtain ⟨a1, a2, a3, a4, a5⟩ := ok h0
  refine ⟨h0, s1, by have := h.lvl; omega, by simp at n1; omega, fun i hi => ?_⟩
  rw [a5]
  by_cases e : i = n
  · subst e; simp [hb]
  · have e1 : (i < n + 1) = (i < n) := by apply propext; omega
    rw [if_neg (by omega), h.cells i hi]
    simp only [e1]
theorem CenIn.set {c : Int} {n x : Nat} {ns : List Nd} (h : CenIn c n x ns) (hn : n < 64) (hb : bitC c n = true) {base S : Nat} {w : World} (hs : St base w S ns 5000) : ∃ R : Res, CenIn c (n + 1) R.1 R.2.2 ∧
    Calls Try.prog 48 #[.agg #[.pointer (some ⟨S, 0, none⟩), .int .u32 x], .agg #[.int .i64 ((n : Int) % 8 - 4), .int .i64 ((n : Int) / 8 - 4)], .bool true] w fun e w' => e = .returned (.tuple #[.agg #[.pointer (some ⟨S, 0, none⟩), .int .u32 R.1], .nilIface]) ∧ Left base S 5000 R.2.2 w w' := by
  have hp : (insB ((n : Int) % 8 - 4) && insB ((n : Int) / 8 - 4)) = true := by
    unfold insB
    simp only [Bool.and_eq_true, decide_eq_true_eq]
    omega
  obtain ⟨h0, h1⟩ := h.put hn hb
  have := setPl_any hs x (by have := h.lvl; omega) _ _ true hp
  rw [planeV_ok h0, h0, errV0] at this
  exact ⟨_, h1, this⟩
theorem cen_lvl {ns : List Nd} {x : Nat} (s : StOk ns) (hl : lvlN ns x = 3) (i : Nat) : lvlN ns (cenI ns x i) = 1 ∧ cenI ns x i < ns.length := by
  have h1 := lvl_kids s (show lvlN ns x = ((2 : Nat) : Int) + 1 by rw [hl]; rfl)
  have h2 := lvl_kids s (show lvlN ns (kid (kidsOf ns x) i) = ((1 : Nat) : Int) + 1 by rw [(h1.2.2 i).1]; rfl)
  have h3 := h2.2.2 (3 - i)
  exact ⟨h3.1, by have := h2.2.1; unfold cenI; omega⟩
theorem cen_cell {ns : List Nd} {x : Nat} (hl : lvlN ns x = 3) (i j : Nat) (hi : i < 4) (hj : j < 4) :
    planeX ns x (2 * ((i : Int) % 2) + (j : Int) % 2 - 2) (2 * ((i : Int) / 2) + (j : Int) / 2 - 2) = decide (kid (kidsOf ns (cenI ns x i)) j = 1) := by
  rw [planeX_at (l := 3) (by rw [hl]; rfl)]
  unfold planeN hasN
  rw [hl, show halfN 3 = 4 from rfl]
  have h : i = 0 ∨ i = 1 ∨ i = 2 ∨ i = 3 := by omega
  have k : j = 0 ∨ j = 1 ∨ j = 2 ∨ j = 3 := by omega
  rcases h with rfl | rfl | rfl | rfl <;> rcases k with rfl | rfl | rfl | rfl <;> rfl
theorem idxC (k : K4) (j : Nat) (hj : j < 4) (w : World) : (Instr.index 55 (.agg #[.int .u32 k.a, .int .u32 k.b, .int .u32 k.c, .int .u32 k.d]) (.int .i64 j)).run Try.prog w = .ok (.int .u32 (kid k j : Nat)) w :=
  run_index_arr Try.underlying55 Try.isAgg31 Try.sizeOf31 _ j _ hj (kArr_get k j hj) w
set_option maxRecDepth 20000 in
set_option maxHeartbeats 4000000 in
theorem quadCentre_walk (c : Int) (w : World) : Calls Try.prog 9 #[.int .u64 c] w fun e w' => e = .returned (.bool true) ∧ Below w.heap.size w w' := by
  have HN := Lib.hid fun W => (show Calls Try.prog 15 #[.int .i64 5000] W _ from new_in W 5000 (by omega) (by omega))
  have he : (emptyN twoN 5000 3).2.1 = 0 := by kernel_rfl
  have I0 := Lib.hid (CenIn.start c he)
  have HQ := Lib.hid fun S (W W0 : World) (h : St W0.heap.size W S twoN 5000) => (show Calls Try.prog 47 #[.pointer (some ⟨S, 0, none⟩)] W fun e w' => e = .returned (.tuple #[.agg #[.pointer (some ⟨S, 0, none⟩), .int .u32 (emptyN twoN 5000 3).1], .nilIface]) ∧ Left W0.heap.size S 5000 (emptyN twoN 5000 3).2.2 W w' by
    have := quadNew_any h
    rw [planeV_ok he, he, errV0] at this
    exact this)
  generalize emptyN twoN 5000 3 = E at *
  have q3 := fun w => eql_nil_nil (P := Try.prog) w (ti := 27) Try.underlying27
  have q4 := fun w => neq_nil_nil (P := Try.prog) w (ti := 27) Try.underlying27
  clear he
  go_enter Try.func9, Try.ntmps9
  go_wp2_with ((go_at_call 46); (with_reducible refine (lives7 _).mono ?_); rintro e w1 ⟨rfl, hb_w1⟩; obtain ⟨hc, hf⟩ := bcell hb_w1; have hz := hb_w1.size; (try simp only [World.size_alloc, World.size_setCell, World.size_drew] at hz); (first | (with_reducible have hl := lt_rule6 hz) | (with_reducible have hl := lt_rule5 hz) | (with_reducible have hl := lt_rule4 hz) | (with_reducible have hl := lt_rule3 hz) | (with_reducible have hl := lt_rule2 hz) | (with_reducible have hl := lt_rule1 hz) | have hl := lt_rule0 hz); (try (have hz0 : w.heap.size < w1.heap.size := by omega)); (try (have hz1 : w.heap.size + 1 < w1.heap.size := by omega)); (try (have hz2 : w.heap.size + 1 + 1 < w1.heap.size := by omega)); (try (have hz3 : w.heap.size + 1 + 1 + 1 < w1.heap.size := by omega)); (try (have hz4 : w.heap.size + 1 + 1 + 1 + 1 < w1.heap.size := by omega)))
  have B1 := Lib.hid (show Below w.heap.size w w1 from by (repeat' (first | (with_reducible exact Below.refl _ _) | (with_reducible assumption) | (with_reducible exact Hid.out (by assumption)) | (with_reducible refine below_a ?_ _) | (with_reducible refine below_dn ?_ _) | (with_reducible refine below_c ?_ (by assumption)) | (with_reducible refine below_d ?_) | (with_reducible refine Below.setCell ?_ ?_ _) | (with_reducible refine Below.alloc ?_ ?_ _) | (with_reducible refine below_call ?_ ?_ (by assumption)) | (with_reducible refine Below.drew ?_) | go_size | ((try simp only [World.size_alloc, World.size_setCell, World.size_drew] at *); omega))))
  go_wp2_with ((go_at_call 15); (with_reducible refine (HN.out w1).mono ?_); rintro e w3 ⟨S, rfl, h3, b3⟩; have H3 := Lib.hid h3; have B3 := Lib.hid (below_c B1.out b3); have b13 := Lib.hid b3.size; clear h3 b3)
  go_wp2_with ((go_at_call 47); (with_reducible refine (HQ.out S w3 w1 H3.out).mono ?_); rintro e w4 ⟨rfl, k4⟩; have K4 := Lib.hid k4; have B4 := Lib.hid (B3.out.trans ((Left.low k4 H3.out).mono B1.out.size)); have b34 := Lib.hid (Nat.le_trans b13.out k4.fr.size); clear k4)
  have pP := Lib.hid (Pt.new w4 #[.pointer (some ⟨S, 0, none⟩), .int .u32 E.1] 91)
  have HB := Lib.hid (below_a B4.out (.cells #[.pointer (some ⟨S, 0, none⟩), .int .u32 E.1] 91))
  have HT := Lib.hid (Left.alloc (Left.of K4.out.st (Below.refl _ _)) (.cells #[.pointer (some ⟨S, 0, none⟩), .int .u32 E.1] 91))
  have HH := Lib.hid HT.out.st
  have hPb := Lib.hid (show w1.heap.size ≤ w4.heap.size from b34.out)
  clear HT H3 K4 B3 B4 hb_w1
  generalize w4.heap.size = pb at *
  generalize w4.alloc (.cells #[.pointer (some ⟨S, 0, none⟩), .int .u32 E.1] 91) = W5 at *
  go_loopw [33, 6] (fun v e wr => ∃ (i x : Nat) (ns : List Nd), i ≤ 64 ∧ v = .int .i64 i ∧ e = .nilIface ∧ Hid (CenIn c i x ns) ∧ Hid (Pt wr pb #[.pointer (some ⟨S, 0, none⟩), .int .u32 x] 91) ∧ Hid (St w1.heap.size wr S ns 5000) ∧ Hid (Below w.heap.size w wr)) (fun v _ _ => 64 - (intOf v).toNat)
  case atStart => exact ⟨0, E.1, E.2.2, by omega, rfl, rfl, I0, pP, HH, HB⟩
  case round =>
    obtain ⟨i, x, ns, hi, rfl, rfl, I1, pP1, HH1, HB1⟩ := hrel
    clear pP HH HB I0
    have cP := pP1.out.cell
    have fP := pP1.out.frozen
    have lP := pP1.out.lt
    by_cases hlt : i < 64
    · have HI := Lib.hid hlt
      have i0 : (0 : Int) ≤ (i : Int) := by omega
      have i1 : (i : Int) < 64 := by omega
      have HM := Lib.hid (show 64 - (i + 1) < 64 - i by omega)
      clear hlt hi
      by_cases hb : bits BinOp.and IntKind.u64 (c / 2 ^ i) 1 = 1
      · obtain ⟨R, I2, hset⟩ := I1.out.set HI.out (decide_eq_true hb) HH1.out
        have HS := Lib.hid hset
        have I3 := Lib.hid I2
        clear hset I2
        go_wp2_with ((go_at_call 48); (with_reducible refine (HS.out).mono ?_); rintro e w6 ⟨rfl, k6⟩; have K6 := Lib.hid k6; have B6 := Lib.hid (HB1.out.trans ((Left.low k6 HH1.out).mono (show w.heap.size ≤ w1.heap.size from B1.out.size))); have p6 := pP1.out.left HH1.out k6 (by decide) (by decide) (by decide); have P6 := Lib.hid p6; have c6 := p6.cell; have f6 := p6.frozen; have l6 := p6.lt; clear k6 p6)
        have hle := Lib.hid (Nat.le_trans (show w.heap.size ≤ w1.heap.size from B1.out.size) hPb.out)
        have S6 := Lib.hid ((K6.out.st.setP P6.out (by decide) (by decide) (by decide) 0 (.pointer (some ⟨S, 0, none⟩))).setP (P6.out.set 0 _) (by decide) (by decide) (by decide) 1 (.int .u32 R.1))
        refine ⟨⟨i + 1, R.1, R.2.2, by have := HI.out; omega, by go_num, rfl, I3, Lib.hid ((P6.out.set 0 _).set 1 _), S6, Lib.hid ((B6.out.setCell (p := ⟨pb, 0, none⟩) hle.out _).setCell (p := ⟨pb, 1, none⟩) hle.out _)⟩, by have := HM.out; simp [intOf]; omega⟩
      · have I2 := Lib.hid (I1.out.stay (decide_eq_false hb))
        go_wp2_with fail
        exact ⟨⟨i + 1, x, ns, by have := HI.out; omega, by go_num, rfl, I2, pP1, HH1, HB1⟩, by have := HM.out; simp [intOf]; omega⟩
    · obtain rfl : i = 64 := by omega
      clear hlt hi
      have hl3 := I1.out.lvl
      have HCY := Lib.hid (centre_yes HH1.out x 1 (by rw [hl3]; rfl))
      have HCN := Lib.hid fun W (b : Below wr.heap.size wr W) i => centre_no (HH1.out.below b) (cenI ns x i) (by have := (cen_lvl I1.out.ok hl3 i).2; have := HH1.out.two; omega) (by rw [(cen_lvl I1.out.ok hl3 i).1]; omega)
      have HC1 := Lib.hid fun W (b : Below wr.heap.size wr W) => show Calls Try.prog 49 #[.pointer (some ⟨S, 0, none⟩), .int .u32 1] W _ from centre_no (HH1.out.below b) 1 (by omega) (by have : lvlN ns 1 = 0 := (by unfold lvlN; rw [I1.out.ok.alive]; rfl); omega)
      have HO := Lib.hid fun W (b : Below wr.heap.size wr W) i => of_in HH1.out (cenI ns x i) (l := 0) (by rw [(cen_lvl I1.out.ok hl3 i).1]; rfl) b
      have HG := Lib.hid fun W (b : Below wr.heap.size wr W) i j (hi : i < 4) (hj : j < 4) => get_lit HH1.out x (by omega) _ _ _ (cen_cell hl3 i j hi hj) b
      have HKI := Lib.hid (fun i (hi : i < 4) => show kid (cenK ns x) i = cenI ns x i by match i, hi with | 0, _ => rfl | 1, _ => rfl | 2, _ => rfl | 3, _ => rfl)
      have IDX := Lib.hid (idxC (cenK ns x))
      clear hl3 I1
      generalize cenI ns x = ci at *
      generalize hck : cenK ns x = ck at *
      clear hck
      go_wp2_with ((go_at_call 49); (with_reducible refine HCY.out.mono ?_); rintro e w7 ⟨rfl, hb_w7⟩; obtain ⟨hc, hf⟩ := bcell hb_w7; have hz := hb_w7.size; (try simp only [World.size_alloc, World.size_setCell, World.size_drew] at hz); (first | (with_reducible have hl := lt_rule6 hz) | (with_reducible have hl := lt_rule5 hz) | (with_reducible have hl := lt_rule4 hz) | (with_reducible have hl := lt_rule3 hz) | (with_reducible have hl := lt_rule2 hz) | (with_reducible have hl := lt_rule1 hz) | have hl := lt_rule0 hz); (try (have hz0 : w.heap.size < w7.heap.size := by omega)); (try (have hz1 : w.heap.size + 1 < w7.heap.size := by omega)); (try (have hz2 : w.heap.size + 1 + 1 < w7.heap.size := by omega)); (try (have hz3 : w.heap.size + 1 + 1 + 1 < w7.heap.size := by omega)); (try (have hz4 : w.heap.size + 1 + 1 + 1 + 1 < w7.heap.size := by omega)))
      have pP7 := Lib.hid ((pP1.out.keep hb_w7).alloc (.cells #[.int .u32 ck.a, .int .u32 ck.b, .int .u32 ck.c, .int .u32 ck.d] 55))
      have HB7 := Lib.hid (below_a hb_w7 (.cells #[.int .u32 ck.a, .int .u32 ck.b, .int .u32 ck.c, .int .u32 ck.d] 55))
      clear hb_w7 cP fP lP
      generalize w7.alloc (.cells #[.int .u32 ck.a, .int .u32 ck.b, .int .u32 ck.c, .int .u32 ck.d] 55) = W8 at *
      go_loopw [68] (fun v wq => ∃ i : Nat, i ≤ 4 ∧ v = .int .i64 i ∧ Hid (Pt wq pb #[.pointer (some ⟨S, 0, none⟩), .int .u32 x] 91) ∧ Hid (Below wr.heap.size wr wq)) (fun v _ => 4 - (intOf v).toNat)
      case atStart => exact ⟨0, by omega, rfl, pP7, HB7⟩
      case round =>
        rename World => wq
        obtain ⟨i, hi, rfl, pP8, HB8⟩ := hrel
        clear pP7 HB7
        by_cases hlt : i < 4
        · have HI := Lib.hid hlt
          have i0 : (0 : Int) ≤ (i : Int) := by omega
          have i1 : (i : Int) < 4 := by omega
          have idx := IDX.out i hlt
          rw [HKI.out i hlt] at idx
          have HM := Lib.hid (show 4 - (i + 1) < 4 - i by omega)
          clear hlt hi
          have HOi := Lib.hid fun W (b : Below wr.heap.size wr W) => HO.out W b i
          have HGi := Lib.hid fun W (b : Below wr.heap.size wr W) j (hj : j < 4) => HG.out W b i j HI.out hj
          have HCi := Lib.hid fun W (b : Below wr.heap.size wr W) => HCN.out W b i
          have ID4 := Lib.hid (idxC (kidsOf ns (ci i)))
          generalize kidsOf ns (ci i) = four at *
          generalize ci i = y at *
          have B8 := HB8.out
          go_wp2_with ((go_at_call 28); (with_reducible refine (HOi.out _ B8).mono ?_); rintro e w9 ⟨rfl, hb_w9⟩; obtain ⟨hc, hf⟩ := bcell hb_w9; have hz := hb_w9.size; (try simp only [World.size_alloc, World.size_setCell, World.size_drew] at hz); (first | (with_reducible have hl := lt_rule6 hz) | (with_reducible have hl := lt_rule5 hz) | (with_reducible have hl := lt_rule4 hz) | (with_reducible have hl := lt_rule3 hz) | (with_reducible have hl := lt_rule2 hz) | (with_reducible have hl := lt_rule1 hz) | have hl := lt_rule0 hz); (try (have hz0 : w.heap.size < w9.heap.size := by omega)); (try (have hz1 : w.heap.size + 1 < w9.heap.size := by omega)); (try (have hz2 : w.heap.size + 1 + 1 < w9.heap.size := by omega)); (try (have hz3 : w.heap.size + 1 + 1 + 1 < w9.heap.size := by omega)); (try (have hz4 : w.heap.size + 1 + 1 + 1 + 1 < w9.heap.size := by omega)))
          clear B8
          have pP9 := Lib.hid ((pP8.out.keep hb_w9).alloc (.cells #[.int .u32 four.a, .int .u32 four.b, .int .u32 four.c, .int .u32 four.d] 55))
          have HB9 := Lib.hid (below_a (below_c HB8.out hb_w9) (.cells #[.int .u32 four.a, .int .u32 four.b, .int .u32 four.c, .int .u32 four.d] 55))
          clear hb_w9 idx
          generalize w9.alloc (.cells #[.int .u32 four.a, .int .u32 four.b, .int .u32 four.c, .int .u32 four.d] 55) = W10 at *
          go_loopw [79] (fun v wq => ∃ j : Nat, j ≤ 4 ∧ v = .int .i64 j ∧ Hid (Pt wq pb #[.pointer (some ⟨S, 0, none⟩), .int .u32 x] 91) ∧ Hid (Below wr.heap.size wr wq)) (fun v _ => 4 - (intOf v).toNat)
          case atStart => exact ⟨0, by omega, rfl, pP9, HB9⟩
          case round =>
            rename World => wj
            obtain ⟨j, hj, rfl, pPj, HBj⟩ := hrel
            clear pP9 HB9
            by_cases hjt : j < 4
            · have HJ := Lib.hid hjt
              have j0 : (0 : Int) ≤ (j : Int) := by omega
              have j1 : (j : Int) < 4 := by omega
              have idx := ID4.out j hjt
              have HMj := Lib.hid (show 4 - (j + 1) < 4 - j by omega)
              have HGj := Lib.hid (HGi.out wj HBj.out j hjt)
              have cj := pPj.out.cell
              have lj := pPj.out.lt
              clear hjt hj
              by_cases hk : kid four j = 1
              · rw [decide_eq_true hk] at HGj
                have hk' : ((kid four j : Nat) : Int) = 1 := by omega
                rw [hk'] at idx
                clear hk hk'
                go_wp2_with ((go_at_call 50); (with_reducible refine HGj.out.mono ?_); rintro e wk ⟨rfl, hb_wk⟩; obtain ⟨hc, hf⟩ := bcell hb_wk; have hz := hb_wk.size; (try simp only [World.size_alloc, World.size_setCell, World.size_drew] at hz); (first | (with_reducible have hl := lt_rule6 hz) | (with_reducible have hl := lt_rule5 hz) | (with_reducible have hl := lt_rule4 hz) | (with_reducible have hl := lt_rule3 hz) | (with_reducible have hl := lt_rule2 hz) | (with_reducible have hl := lt_rule1 hz) | have hl := lt_rule0 hz); (try (have hz0 : w.heap.size < wk.heap.size := by omega)); (try (have hz1 : w.heap.size + 1 < wk.heap.size := by omega)); (try (have hz2 : w.heap.size + 1 + 1 < wk.heap.size := by omega)); (try (have hz3 : w.heap.size + 1 + 1 + 1 < wk.heap.size := by omega)); (try (have hz4 : w.heap.size + 1 + 1 + 1 + 1 < wk.heap.size := by omega)))
                exact ⟨⟨j + 1, by have := HJ.out; omega, by go_num, Lib.hid (pPj.out.keep hb_wk), Lib.hid (below_c HBj.out hb_wk)⟩, by have := HMj.out; simp [intOf]; omega⟩
              · rw [decide_eq_false hk] at HGj
                have hk' : ¬ ((kid four j : Nat) : Int) = 1 := by omega
                go_wp2_with ((go_at_call 50); (with_reducible refine HGj.out.mono ?_); rintro e wk ⟨rfl, hb_wk⟩; obtain ⟨hc, hf⟩ := bcell hb_wk; have hz := hb_wk.size; (try simp only [World.size_alloc, World.size_setCell, World.size_drew] at hz); (first | (with_reducible have hl := lt_rule6 hz) | (with_reducible have hl := lt_rule5 hz) | (with_reducible have hl := lt_rule4 hz) | (with_reducible have hl := lt_rule3 hz) | (with_reducible have hl := lt_rule2 hz) | (with_reducible have hl := lt_rule1 hz) | have hl := lt_rule0 hz); (try (have hz0 : w.heap.size < wk.heap.size := by omega)); (try (have hz1 : w.heap.size + 1 < wk.heap.size := by omega)); (try (have hz2 : w.heap.size + 1 + 1 < wk.heap.size := by omega)); (try (have hz3 : w.heap.size + 1 + 1 + 1 < wk.heap.size := by omega)); (try (have hz4 : w.heap.size + 1 + 1 + 1 + 1 < wk.heap.size := by omega)))
                exact ⟨⟨j + 1, by have := HJ.out; omega, by go_num, Lib.hid (pPj.out.keep hb_wk), Lib.hid (below_c HBj.out hb_wk)⟩, by have := HMj.out; simp [intOf]; omega⟩
            · obtain rfl : j = 4 := by omega
              clear hjt hj
              go_wp2_with ((go_at_call 49); (with_reducible refine (HCi.out _ HBj.out).mono ?_); rintro e wl ⟨rfl, hb_wl⟩; obtain ⟨hc, hf⟩ := bcell hb_wl; have hz := hb_wl.size; (try simp only [World.size_alloc, World.size_setCell, World.size_drew] at hz); (first | (with_reducible have hl := lt_rule6 hz) | (with_reducible have hl := lt_rule5 hz) | (with_reducible have hl := lt_rule4 hz) | (with_reducible have hl := lt_rule3 hz) | (with_reducible have hl := lt_rule2 hz) | (with_reducible have hl := lt_rule1 hz) | have hl := lt_rule0 hz); (try (have hz0 : w.heap.size < wl.heap.size := by omega)); (try (have hz1 : w.heap.size + 1 < wl.heap.size := by omega)); (try (have hz2 : w.heap.size + 1 + 1 < wl.heap.size := by omega)); (try (have hz3 : w.heap.size + 1 + 1 + 1 < wl.heap.size := by omega)); (try (have hz4 : w.heap.size + 1 + 1 + 1 + 1 < wl.heap.size := by omega)))
              exact ⟨⟨i + 1, by have := HI.out; omega, by go_num, Lib.hid ((pPj.out.keep hb_wl).alloc _), Lib.hid (below_a (below_c HBj.out hb_wl) _)⟩, by have := HM.out; simp [intOf]; omega⟩
        · obtain rfl : i = 4 := by omega
          clear hlt hi
          go_wp2_with ((go_at_call 49); (with_reducible refine (HC1.out _ HB8.out).mono ?_); rintro e wl ⟨rfl, hb_wl⟩; obtain ⟨hc, hf⟩ := bcell hb_wl; have hz := hb_wl.size; (try simp only [World.size_alloc, World.size_setCell, World.size_drew] at hz); (first | (with_reducible have hl := lt_rule6 hz) | (with_reducible have hl := lt_rule5 hz) | (with_reducible have hl := lt_rule4 hz) | (with_reducible have hl := lt_rule3 hz) | (with_reducible have hl := lt_rule2 hz) | (with_reducible have hl := lt_rule1 hz) | have hl := lt_rule0 hz); (try (have hz0 : w.heap.size < wl.heap.size := by omega)); (try (have hz1 : w.heap.size + 1 < wl.heap.size := by omega)); (try (have hz2 : w.heap.size + 1 + 1 < wl.heap.size := by omega)); (try (have hz3 : w.heap.size + 1 + 1 + 1 < wl.heap.size := by omega)); (try (have hz4 : w.heap.size + 1 + 1 + 1 + 1 < wl.heap.size := by omega)))
          go_ret
          exact ⟨rfl, HB1.out.trans ((below_a (below_c HB8.out hb_wl) _).mono HB1.out.size)⟩
theorem quadCentre_w (a0 : Int) (h0 : (Lit.int .u64 a0).wf = true) (w : World) : Calls Try.prog 9 #[.int .u64 a0] w fun e w' => e = .returned (.bool true) ∧ Below w.heap.size w w' := quadCentre_walk a0 w
end Go.Proofs.Ytjiliiclebdbfaa
