/- Contracts of package base over a store: Read and Next of a square of four by four. -/
import Derived.Test.YtjiliiclebdbfaaBaseP
import Derived.Test.YtjiliiclebdbfaaArr
import Derived.Laws.BitsAllLaws
namespace Go.Proofs.Ytjiliiclebdbfaa
open Go.RowKit
set_option linter.unusedVariables false
set_option linter.unusedSimpArgs false
attribute [local go_sem] eqGuard_errV neq_errV eql_errV

/-- The bit of the j-th cell of the i-th quarter. -/
def bitAt (i j : Nat) : Nat := 4 * (2 * (i / 2) + j / 2) + 2 * (i % 2) + j % 2
/-- What is read, the first j cells of the i-th quarter having been seen; K: the leaf. -/
def rdJ (K : Nat → Nat → Nat) (i : Nat) : Nat → Nat → Nat
  | 0, f => f
  | j + 1, f => if K i j = 1 then rdJ K i j f ||| 2 ^ bitAt i j else rdJ K i j f
def rdI (K : Nat → Nat → Nat) : Nat → Nat
  | 0 => 0
  | i + 1 => rdJ K i 4 (rdI K i)
def leafN (ns : List Nd) (x i j : Nat) : Nat := kid (kidsOf ns (kid (kidsOf ns x) i)) j
def readN (ns : List Nd) (x : Nat) : Nat := rdI (leafN ns x) 4
theorem bitAt_lt (i j : Nat) (hi : i < 4) (hj : j < 4) : bitAt i j < 16 := by unfold bitAt; omega
theorem rdJ_lt (K : Nat → Nat → Nat) (i : Nat) (hi : i < 4) : ∀ j f, j ≤ 4 → f < 65536 → rdJ K i j f < 65536 := by
  intro j
  induction j with
  | zero => intro f _ hf; exact hf
  | succ j ih =>
    intro f hj hf
    have h1 := ih f (by omega) hf
    unfold rdJ
    split
    · have : 2 ^ bitAt i j < 2 ^ 16 := Nat.pow_lt_pow_right (by omega) (bitAt_lt i j hi (by omega))
      exact Nat.or_lt_two_pow (n := 16) h1 this
    · exact h1
theorem rdI_lt (K : Nat → Nat → Nat) : ∀ i, i ≤ 4 → rdI K i < 65536 := by
  intro i
  induction i with
  | zero => intro _; exact (by decide : (0 : Nat) < 65536)
  | succ i ih => intro hi; exact rdJ_lt K i (by omega) 4 _ (by omega) (ih (by omega))
theorem or_run (f i j : Nat) (hf : f < 65536) (hi : i < 4) (hj : j < 4) : bits BinOp.or IntKind.u16 (f : Int) (IntKind.u16.wrap (2 ^ (4 * (2 * (i / 2) + j / 2) + 2 * (i % 2) + j % 2))) = ((f ||| 2 ^ bitAt i j : Nat) : Int) := by
  have h : 2 ^ bitAt i j < 65536 := (show 2 ^ bitAt i j < 2 ^ 16 from Nat.pow_lt_pow_right (by decide) (bitAt_lt i j hi hj))
  have e : IntKind.u16.wrap ((2 : Int) ^ (4 * (2 * (i / 2) + j / 2) + 2 * (i % 2) + j % 2)) = ((2 ^ bitAt i j : Nat) : Int) := by
    have e2 : ((2 : Int) ^ (4 * (2 * (i / 2) + j / 2) + 2 * (i % 2) + j % 2)) = ((2 ^ bitAt i j : Nat) : Int) := by unfold bitAt; simp
    rw [e2, IntKind.wrap_u16]
    clear e2
    generalize 2 ^ bitAt i j = d at *
    omega
  rw [e]
  exact u16_or_nat f _ hf h
theorem idxR (k : K4) (j : Nat) (hj : j < 4) (w : World) : (Instr.index 55 (.agg #[.int .u32 k.a, .int .u32 k.b, .int .u32 k.c, .int .u32 k.d]) (.int .i64 j)).run Try.prog w = .ok (.int .u32 (kid k j : Nat)) w :=
  run_index_arr Try.underlying55 Try.isAgg31 Try.sizeOf31 _ j _ hj (kArr_get k j hj) w
section
variable {base S : Nat} {w : World} {ns : List Nd} {most : Nat}
set_option maxRecDepth 20000 in
set_option maxHeartbeats 4000000 in
theorem read_yes (h : St base w S ns most) (x : Nat) (hl : lvlN ns x = 2) :
    Calls Try.prog 26 #[.pointer (some ⟨S, 0, none⟩), .int .u32 x] w fun e w' => e = .returned (.tuple #[.int .u16 (readN ns x : Nat), .nilIface]) ∧ Below w.heap.size w w' := by
  have h2 := h.two
  have hl' : lvlN ns x = ((1 : Nat) : Int) + 1 := by rw [hl]; rfl
  have hk := lvl_kids h.ok hl'
  have HX := Lib.hid (show x < 4294967296 by omega)
  have HV := Lib.hid (fun W (b : Below w.heap.size w W) => level_at h x HX.out 2 hl b)
  have HO := Lib.hid (fun W (b : Below w.heap.size w W) => of_in h x hl' b)
  have HO2 := Lib.hid (fun i W (b : Below w.heap.size w W) => of_in h (kid (kidsOf ns x) i) (l := 0) (by rw [(hk.2.2 i).1]; rfl) b)
  have HR : Hid (readN ns x = rdI (leafN ns x) 4) := rfl
  have HLF : Hid (∀ i j, leafN ns x i j = kid (kidsOf ns (kid (kidsOf ns x) i)) j) := Lib.hid fun _ _ => rfl
  clear h h2 hl hl' hk
  generalize leafN ns x = K at *
  generalize readN ns x = R at *
  generalize kidsOf ns x = kk at *
  go_enter Try.func26, Try.ntmps26
  go_wp2_with (first | ((go_at_call 28); (with_reducible refine (HO.out _ (by (repeat' (first | (with_reducible exact Below.refl _ _) | (with_reducible assumption) | (with_reducible exact Hid.out (by assumption)) | (with_reducible refine below_a ?_ _) | (with_reducible refine below_dn ?_ _) | (with_reducible refine below_c ?_ (by assumption)) | (with_reducible refine below_d ?_) | (with_reducible refine Below.setCell ?_ ?_ _) | (with_reducible refine Below.alloc ?_ ?_ _) | (with_reducible refine below_call ?_ ?_ (by assumption)) | (with_reducible refine Below.drew ?_) | go_size | ((try simp only [World.size_alloc, World.size_setCell, World.size_drew] at *); omega))))).mono ?_); rintro e w1 ⟨rfl, hb_w1⟩; obtain ⟨hc, hf⟩ := bcell hb_w1; have hz := hb_w1.size; (try simp only [World.size_alloc, World.size_setCell, World.size_drew] at hz); (first | (with_reducible have hl := lt_rule6 hz) | (with_reducible have hl := lt_rule5 hz) | (with_reducible have hl := lt_rule4 hz) | (with_reducible have hl := lt_rule3 hz) | (with_reducible have hl := lt_rule2 hz) | (with_reducible have hl := lt_rule1 hz) | have hl := lt_rule0 hz); (try (have hz0 : w.heap.size < w1.heap.size := by omega)); (try (have hz1 : w.heap.size + 1 < w1.heap.size := by omega)); (try (have hz2 : w.heap.size + 1 + 1 < w1.heap.size := by omega)); (try (have hz3 : w.heap.size + 1 + 1 + 1 < w1.heap.size := by omega)); (try (have hz4 : w.heap.size + 1 + 1 + 1 + 1 < w1.heap.size := by omega))) | ((go_at_call 17); (with_reducible refine (HV.out _ (by (repeat' (first | (with_reducible exact Below.refl _ _) | (with_reducible assumption) | (with_reducible exact Hid.out (by assumption)) | (with_reducible refine below_a ?_ _) | (with_reducible refine below_dn ?_ _) | (with_reducible refine below_c ?_ (by assumption)) | (with_reducible refine below_d ?_) | (with_reducible refine Below.setCell ?_ ?_ _) | (with_reducible refine Below.alloc ?_ ?_ _) | (with_reducible refine below_call ?_ ?_ (by assumption)) | (with_reducible refine Below.drew ?_) | go_size | ((try simp only [World.size_alloc, World.size_setCell, World.size_drew] at *); omega))))).mono ?_); rintro e w' ⟨rfl, rfl⟩))
  have pK := Lib.hid (Pt.new w1 (kArr kk) 55)
  have HB := Lib.hid (below_a (show Below w.heap.size w w1 from by (repeat' (first | (with_reducible exact Below.refl _ _) | (with_reducible assumption) | (with_reducible exact Hid.out (by assumption)) | (with_reducible refine below_a ?_ _) | (with_reducible refine below_dn ?_ _) | (with_reducible refine below_c ?_ (by assumption)) | (with_reducible refine below_d ?_) | (with_reducible refine Below.setCell ?_ ?_ _) | (with_reducible refine Below.alloc ?_ ?_ _) | (with_reducible refine below_call ?_ ?_ (by assumption)) | (with_reducible refine Below.drew ?_) | go_size | ((try simp only [World.size_alloc, World.size_setCell, World.size_drew] at *); omega)))) (.cells (kArr kk) 55))
  unfold kArr at HB
  rw [show kArr kk = #[.int .u32 kk.a, .int .u32 kk.b, .int .u32 kk.c, .int .u32 kk.d] from rfl] at pK
  clear hb_w1 hc hf hz hl
  generalize w1.heap.size = kb at *
  generalize w1.alloc (.cells #[.int .u32 kk.a, .int .u32 kk.b, .int .u32 kk.c, .int .u32 kk.d] 55) = W1 at *
  go_loopw [29, 8] (fun v f wr => ∃ i : Nat, i ≤ 4 ∧ v = .int .i64 i ∧ f = .int .u16 (rdI K i : Nat) ∧ Hid (Pt wr kb (kArr kk) 55) ∧ Hid (Below w.heap.size w wr)) (fun v _ _ => 4 - (intOf v).toNat)
  case atStart => exact ⟨0, by omega, rfl, rfl, pK, HB⟩
  case round =>
    obtain ⟨i, hi, rfl, rfl, pK1, HB1⟩ := hrel
    clear pK HB
    by_cases hlt : i < 4
    · have HI := Lib.hid hlt
      have i0 : (0 : Int) ≤ (i : Int) := by omega
      have i1 : (i : Int) < 4 := by omega
      have ck : wr.cell? ⟨kb, i, none⟩ = some (.int .u32 (kid kk i)) := by rw [pK1.out.cell]; exact kArr_get kk i hlt
      have lK := pK1.out.lt
      have HOi := Lib.hid (HO2.out i wr HB1.out)
      have HLi := Lib.hid (fun j => HLF.out i j)
      have HM := Lib.hid (show 4 - (i + 1) < 4 - i by omega)
      have HSi : Hid (rdI K (i + 1) = rdJ K i 4 (rdI K i)) := rfl
      have Hf0 := Lib.hid (rdI_lt K i hi)
      clear hlt hi
      generalize kidsOf ns (kid kk i) = four at *
      go_wp2_with ((go_at_call 28); (with_reducible refine HOi.out.mono ?_); rintro e w2 ⟨rfl, hb_w2⟩; obtain ⟨hc, hf⟩ := bcell hb_w2; have hz := hb_w2.size; (try simp only [World.size_alloc, World.size_setCell, World.size_drew] at hz); (first | (with_reducible have hl := lt_rule6 hz) | (with_reducible have hl := lt_rule5 hz) | (with_reducible have hl := lt_rule4 hz) | (with_reducible have hl := lt_rule3 hz) | (with_reducible have hl := lt_rule2 hz) | (with_reducible have hl := lt_rule1 hz) | have hl := lt_rule0 hz); (try (have hz0 : w.heap.size < w2.heap.size := by omega)); (try (have hz1 : w.heap.size + 1 < w2.heap.size := by omega)); (try (have hz2 : w.heap.size + 1 + 1 < w2.heap.size := by omega)); (try (have hz3 : w.heap.size + 1 + 1 + 1 < w2.heap.size := by omega)); (try (have hz4 : w.heap.size + 1 + 1 + 1 + 1 < w2.heap.size := by omega)))
      have pK2 := Lib.hid ((pK1.out.keep hb_w2).alloc (.cells #[.int .u32 four.a, .int .u32 four.b, .int .u32 four.c, .int .u32 four.d] 55))
      have HB2 := Lib.hid (below_a (below_c HB1.out hb_w2) (.cells #[.int .u32 four.a, .int .u32 four.b, .int .u32 four.c, .int .u32 four.d] 55))
      clear hb_w2 ck lK pK1 HB1
      generalize w2.alloc (.cells #[.int .u32 four.a, .int .u32 four.b, .int .u32 four.c, .int .u32 four.d] 55) = W3 at *
      have hJ0 : Hid (rdJ K i 0 (rdI K i) = rdI K i) := rfl
      generalize rdI K i = f0 at *
      go_loopw [41, 8] (fun v f wr => ∃ j : Nat, j ≤ 4 ∧ v = .int .i64 j ∧ f = .int .u16 (rdJ K i j f0 : Nat) ∧ W3 = wr) (fun v _ _ => 4 - (intOf v).toNat)
      case atStart => exact ⟨0, by omega, rfl, by rw [hJ0.out], rfl⟩
      case round =>
        obtain ⟨j, hj, rfl, rfl, rfl⟩ := hrel
        by_cases hjt : j < 4
        · have HJ := Lib.hid hjt
          have j0 : (0 : Int) ≤ (j : Int) := by omega
          have j1 : (j : Int) < 4 := by omega
          have idx := idxR four j hjt
          have HMj := Lib.hid (show 4 - (j + 1) < 4 - j by omega)
          have hfj := Lib.hid (rdJ_lt K i HI.out j f0 (by omega) Hf0.out)
          have hor := or_run (rdJ K i j f0) i j hfj.out HI.out hjt
          have hst : rdJ K i (j + 1) f0 = if K i j = 1 then rdJ K i j f0 ||| 2 ^ bitAt i j else rdJ K i j f0 := rfl
          rw [HLi.out j] at hst
          clear hjt hj
          by_cases hk : kid four j = 1
          · rw [if_pos hk] at hst
            have HST := Lib.hid hst
            have hk' : ((kid four j : Nat) : Int) = 1 := by omega
            rw [hk'] at idx
            have HOR := Lib.hid hor
            clear hk hk' hst hor
            go_wp2_with fail
            exact ⟨⟨j + 1, by have := HJ.out; omega, by go_num, by rw [HOR.out, HST.out], trivial⟩, by have := HMj.out; simp [intOf]; omega⟩
          · rw [if_neg hk] at hst
            have HST := Lib.hid hst
            have hk' : ¬ ((kid four j : Nat) : Int) = 1 := by omega
            clear hk hst hor
            go_wp2_with fail
            exact ⟨⟨j + 1, by have := HJ.out; omega, by go_num, by rw [HST.out], trivial⟩, by have := HMj.out; simp [intOf]; omega⟩
        · obtain rfl : j = 4 := by omega
          clear hjt hj
          go_wp2_with fail
          exact ⟨⟨i + 1, by have := HI.out; omega, by go_num, by rw [HSi.out], pK2, HB2⟩, by have := HM.out; simp [intOf]; omega⟩
    · obtain rfl : i = 4 := by omega
      clear hlt hi
      go_wp2_with fail
      refine bodyPost_ret (by simp [results, Try.results26, go_sem, *]; rfl) rfl ?_
      exact ⟨by rw [HR.out], HB1.out⟩
def nextK (f : Nat) : K4 := ⟨cN (innerB f 0), cN (innerB f 1), cN (innerB f 2), cN (innerB f 3)⟩
def nextU (f j : Nat) : K4 := ⟨if 0 < j then cN (innerB f 0) else 0, if 1 < j then cN (innerB f 1) else 0, if 2 < j then cN (innerB f 2) else 0, if 3 < j then cN (innerB f 3) else 0⟩
theorem nextU_set (f j : Nat) (hj : j < 4) : setK (nextU f j) j (cN (innerB f j)) = nextU f (j + 1) := by
  match j, hj with
  | 0, _ => rfl
  | 1, _ => rfl
  | 2, _ => rfl
  | 3, _ => rfl
theorem idxB (f j : Nat) (hj : j < 4) (w : World) : (Instr.index 48 (.agg #[.bool (innerB f 0), .bool (innerB f 1), .bool (innerB f 2), .bool (innerB f 3)]) (.int .i64 j)).run Try.prog w = .ok (.bool (innerB f j)) w :=
  run_index_arr Try.underlying48 Try.isAgg4 Try.sizeOf4 _ j _ hj (by
    match j, hj with
    | 0, _ => rfl
    | 1, _ => rfl
    | 2, _ => rfl
    | 3, _ => rfl) w
set_option maxRecDepth 20000 in
set_option maxHeartbeats 4000000 in
theorem next_yes (h : St base w S ns most) (x : Nat) (hl : lvlN ns x = 2) :
    Calls Try.prog 27 #[.pointer (some ⟨S, 0, none⟩), .int .u32 x] w fun e w' => e = .returned (.tuple #[.int .u32 (makeN ns most (nextK (readN ns x))).1, errV (makeN ns most (nextK (readN ns x))).2.1]) ∧ Left base S most (makeN ns most (nextK (readN ns x))).2.2 w w' := by
  have H := Lib.hid h
  have HR := Lib.hid (read_yes h x hl)
  have hf := rdI_lt (leafN ns x) 4 (by omega)
  have HF := Lib.hid (show readN ns x < 65536 from hf)
  have HIN : Hid (∀ W, Calls Try.prog 24 #[.int .u16 (readN ns x : Nat)] W fun e w' => e = .returned (.agg #[.bool (innerB (readN ns x) 0), .bool (innerB (readN ns x) 1), .bool (innerB (readN ns x) 2), .bool (innerB (readN ns x) 3)]) ∧ Below W.heap.size W w') := Lib.hid fun W =>
    (inner_any _ W hf).mono fun e w' h => by unfold InnerPost at h; exact h
  have q := neq_e1b
  have q4 := fun w => neq_nil_nil (P := Try.prog) w (ti := 27) Try.underlying27
  clear h hl hf
  generalize readN ns x = f at *
  obtain ⟨NK, hnk⟩ : ∃ k, k = nextK f := ⟨_, rfl⟩
  rw [← hnk]
  have HNK := Lib.hid hnk
  clear hnk
  go_enter Try.func27, Try.ntmps27
  go_wp2_with (first | ((go_at_call 26); (with_reducible refine HR.out.mono ?_); rintro e w1 ⟨rfl, hb_w1⟩; obtain ⟨hc, hf⟩ := bcell hb_w1; have hz := hb_w1.size; (try simp only [World.size_alloc, World.size_setCell, World.size_drew] at hz); (first | (with_reducible have hl := lt_rule6 hz) | (with_reducible have hl := lt_rule5 hz) | (with_reducible have hl := lt_rule4 hz) | (with_reducible have hl := lt_rule3 hz) | (with_reducible have hl := lt_rule2 hz) | (with_reducible have hl := lt_rule1 hz) | have hl := lt_rule0 hz); (try (have hz0 : w.heap.size < w1.heap.size := by omega)); (try (have hz1 : w.heap.size + 1 < w1.heap.size := by omega)); (try (have hz2 : w.heap.size + 1 + 1 < w1.heap.size := by omega)); (try (have hz3 : w.heap.size + 1 + 1 + 1 < w1.heap.size := by omega)); (try (have hz4 : w.heap.size + 1 + 1 + 1 + 1 < w1.heap.size := by omega))) | ((go_at_call 24); (with_reducible refine (HIN.out _).mono ?_); rintro e w2 ⟨rfl, hb_w2⟩; obtain ⟨hc, hf⟩ := bcell hb_w2; have hz := hb_w2.size; (try simp only [World.size_alloc, World.size_setCell, World.size_drew] at hz); (first | (with_reducible have hl := lt_rule6 hz) | (with_reducible have hl := lt_rule5 hz) | (with_reducible have hl := lt_rule4 hz) | (with_reducible have hl := lt_rule3 hz) | (with_reducible have hl := lt_rule2 hz) | (with_reducible have hl := lt_rule1 hz) | have hl := lt_rule0 hz); (try (have hz0 : w.heap.size < w2.heap.size := by omega)); (try (have hz1 : w.heap.size + 1 < w2.heap.size := by omega)); (try (have hz2 : w.heap.size + 1 + 1 < w2.heap.size := by omega)); (try (have hz3 : w.heap.size + 1 + 1 + 1 < w2.heap.size := by omega)); (try (have hz4 : w.heap.size + 1 + 1 + 1 + 1 < w2.heap.size := by omega))))
  have pO := Lib.hid (Pt.keep (Pt.new w1 #[.int .u32 0, .int .u32 0, .int .u32 0, .int .u32 0] 55) hb_w2)
  have HB := Lib.hid (show Below w.heap.size w w2 from by (repeat' (first | (with_reducible exact Below.refl _ _) | (with_reducible assumption) | (with_reducible exact Hid.out (by assumption)) | (with_reducible refine below_a ?_ _) | (with_reducible refine below_dn ?_ _) | (with_reducible refine below_c ?_ (by assumption)) | (with_reducible refine below_d ?_) | (with_reducible refine Below.setCell ?_ ?_ _) | (with_reducible refine Below.alloc ?_ ?_ _) | (with_reducible refine below_call ?_ ?_ (by assumption)) | (with_reducible refine Below.drew ?_) | go_size | ((try simp only [World.size_alloc, World.size_setCell, World.size_drew] at *); omega))))
  have hwb := Lib.hid (show w.heap.size ≤ w1.heap.size from hb_w1.size)
  have IDX := Lib.hid (idxB f)
  clear hb_w1 hb_w2 HR HIN
  generalize w1.heap.size = ob at pO hwb ⊢
  go_loopw [22] (fun v wr => ∃ i : Nat, i ≤ 4 ∧ v = .int .i64 i ∧ Hid (Pt wr ob (kArr (nextU f i)) 55) ∧ Hid (Below w.heap.size w wr)) (fun v _ => 4 - (intOf v).toNat)
  case atStart => exact ⟨0, by omega, rfl, pO, HB⟩
  case round =>
    obtain ⟨i, hi, rfl, pO1, HB1⟩ := hrel
    clear pO HB
    by_cases hlt : i < 4
    · have HI := Lib.hid hlt
      have i0 : (0 : Int) ≤ (i : Int) := by omega
      have i1 : (i : Int) < 4 := by omega
      have idx := IDX.out i hlt
      have co : wr.cell? ⟨ob, i, none⟩ = some (.int .u32 (kid (nextU f i) i)) := by rw [pO1.out.cell]; exact kArr_get _ i hlt
      have fo := pO1.out.frozen
      have lo := pO1.out.lt
      have hp := pt_kset pO1.out (y := cN (innerB f i)) hlt
      rw [nextU_set f i hlt] at hp
      have HP := Lib.hid hp
      have HM := Lib.hid (show 4 - (i + 1) < 4 - i by omega)
      clear hp hlt hi
      go_wp2_with ((go_at_call 64); (with_reducible refine (cell_any _ _).mono ?_); rintro e w' ⟨rfl, rfl⟩)
      exact ⟨⟨i + 1, by have := HI.out; omega, by go_num, HP, Lib.hid (HB1.out.setCell hwb.out _)⟩, by have := HM.out; simp [intOf]; omega⟩
    · obtain rfl : i = 4 := by omega
      rw [show nextU f 4 = nextK f from rfl] at pO1
      have HM4 := Lib.hid (show (nextK f).a < 4294967296 ∧ (nextK f).b < 4294967296 ∧ (nextK f).c < 4294967296 ∧ (nextK f).d < 4294967296 from by
        have h0 := cN_le (innerB f 0)
        have h1 := cN_le (innerB f 1)
        have h2 := cN_le (innerB f 2)
        have h3 := cN_le (innerB f 3)
        unfold nextK
        simp only
        omega)
      have HW := Lib.hid (H.out.below HB1.out)
      clear hlt hi
      have hnk := HNK.out
      rw [← hnk] at pO1 HM4
      clear hnk HNK
      have ck := pO1.out.cell
      have lk := pO1.out.lt
      unfold kArr at ck
      go_wp2_with ((go_at_call 31); (with_reducible refine (make_l HW.out NK.a NK.b NK.c NK.d HM4.out.1 HM4.out.2.1 HM4.out.2.2.1 HM4.out.2.2.2).mono ?_); rintro e w5 ⟨rfl, k5⟩; have K5 := Lib.hid ((Left.of H.out HB1.out).call k5); clear k5)
      refine bodyPost_ret (by simp [results, Try.results27, go_sem, *]; rfl) rfl ?_
      exact ⟨rfl, K5.out⟩
end
end Go.Proofs.Ytjiliiclebdbfaa
