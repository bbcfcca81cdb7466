/- Contracts of package base over a store: Read and Next of squares that can't be, and no store. -/
import Derived.Test.YtjiliiclebdbfaaBaseS
import Derived.Test.YtjiliiclebdbfaaStoreL
namespace Go.Proofs.Ytjiliiclebdbfaa
open Go.RowKit
set_option linter.unusedVariables false
set_option linter.unusedSimpArgs false
attribute [local go_sem] eqGuard_errV neq_errV eql_errV

section
variable {base S : Nat} {w : World} {ns : List Nd} {most : Nat}
theorem read_no (h : St base w S ns most) (x : Nat) (hx : x < 4294967296) (hl : ¬ lvlN ns x = 2) :
    Calls Try.prog 26 #[.pointer (some ⟨S, 0, none⟩), .int .u32 x] w fun e w' => e = .returned (.tuple #[.int .u16 0, .iface 60 (.int .i64 1)]) ∧ Below w.heap.size w w' := by
  have HX := Lib.hid hx
  have HV := Lib.hid (fun W (b : Below w.heap.size w W) => level_at h x HX.out _ rfl b)
  clear hx
  by_cases h1 : 1 ≤ lvlN ns x
  · have hl1 : lvlN ns x = ((lvlN ns x - 1).toNat : Nat) + 1 := by omega
    have HO := Lib.hid (fun W (b : Below w.heap.size w W) => of_in h x hl1 b)
    clear h hl1 h1
    generalize lvlN ns x = L at *
    go_enter Try.func26, Try.ntmps26
    go_wp2_with (first | ((go_at_call 28); (with_reducible refine (HO.out _ (by (repeat' (first | (with_reducible exact Below.refl _ _) | (with_reducible assumption) | (with_reducible exact Hid.out (by assumption)) | (with_reducible refine below_a ?_ _) | (with_reducible refine below_dn ?_ _) | (with_reducible refine below_c ?_ (by assumption)) | (with_reducible refine below_d ?_) | (with_reducible refine Below.setCell ?_ ?_ _) | (with_reducible refine Below.alloc ?_ ?_ _) | (with_reducible refine below_call ?_ ?_ (by assumption)) | (with_reducible refine Below.drew ?_) | go_size | ((try simp only [World.size_alloc, World.size_setCell, World.size_drew] at *); omega))))).mono ?_); rintro e w1 ⟨rfl, hb_w1⟩; obtain ⟨hc, hf⟩ := bcell hb_w1; have hz := hb_w1.size; (try simp only [World.size_alloc, World.size_setCell, World.size_drew] at hz); (first | (with_reducible have hl := lt_rule6 hz) | (with_reducible have hl := lt_rule5 hz) | (with_reducible have hl := lt_rule4 hz) | (with_reducible have hl := lt_rule3 hz) | (with_reducible have hl := lt_rule2 hz) | (with_reducible have hl := lt_rule1 hz) | have hl := lt_rule0 hz); (try (have hz0 : w.heap.size < w1.heap.size := by omega)); (try (have hz1 : w.heap.size + 1 < w1.heap.size := by omega)); (try (have hz2 : w.heap.size + 1 + 1 < w1.heap.size := by omega)); (try (have hz3 : w.heap.size + 1 + 1 + 1 < w1.heap.size := by omega)); (try (have hz4 : w.heap.size + 1 + 1 + 1 + 1 < w1.heap.size := by omega))) | ((go_at_call 17); (with_reducible refine (HV.out _ (by (repeat' (first | (with_reducible exact Below.refl _ _) | (with_reducible assumption) | (with_reducible exact Hid.out (by assumption)) | (with_reducible refine below_a ?_ _) | (with_reducible refine below_dn ?_ _) | (with_reducible refine below_c ?_ (by assumption)) | (with_reducible refine below_d ?_) | (with_reducible refine Below.setCell ?_ ?_ _) | (with_reducible refine Below.alloc ?_ ?_ _) | (with_reducible refine below_call ?_ ?_ (by assumption)) | (with_reducible refine Below.drew ?_) | go_size | ((try simp only [World.size_alloc, World.size_setCell, World.size_drew] at *); omega))))).mono ?_); rintro e w' ⟨rfl, rfl⟩) | ((go_at_call 61); (with_reducible refine (of_num 1 _ rfl).mono ?_); rintro e w' ⟨rfl, rfl⟩))
    refine bodyPost_ret (by simp [results, Try.results26, go_sem, *]; rfl) rfl ?_
    exact ⟨rfl, by (repeat' (first | (with_reducible exact Below.refl _ _) | (with_reducible assumption) | (with_reducible exact Hid.out (by assumption)) | (with_reducible refine below_a ?_ _) | (with_reducible refine below_dn ?_ _) | (with_reducible refine below_c ?_ (by assumption)) | (with_reducible refine below_d ?_) | (with_reducible refine Below.setCell ?_ ?_ _) | (with_reducible refine Below.alloc ?_ ?_ _) | (with_reducible refine below_call ?_ ?_ (by assumption)) | (with_reducible refine Below.drew ?_) | go_size | ((try simp only [World.size_alloc, World.size_setCell, World.size_drew] at *); omega)))⟩
  · have HO := Lib.hid (fun W (b : Below w.heap.size w W) => of_out h x HX.out (by omega) b)
    clear h hl h1
    go_enter Try.func26, Try.ntmps26
    go_wp2_with (first | ((go_at_call 28); (with_reducible refine (HO.out _ (by (repeat' (first | (with_reducible exact Below.refl _ _) | (with_reducible assumption) | (with_reducible exact Hid.out (by assumption)) | (with_reducible refine below_a ?_ _) | (with_reducible refine below_dn ?_ _) | (with_reducible refine below_c ?_ (by assumption)) | (with_reducible refine below_d ?_) | (with_reducible refine Below.setCell ?_ ?_ _) | (with_reducible refine Below.alloc ?_ ?_ _) | (with_reducible refine below_call ?_ ?_ (by assumption)) | (with_reducible refine Below.drew ?_) | go_size | ((try simp only [World.size_alloc, World.size_setCell, World.size_drew] at *); omega))))).mono ?_); rintro e w1 ⟨rfl, hb_w1⟩; obtain ⟨hc, hf⟩ := bcell hb_w1; have hz := hb_w1.size; (try simp only [World.size_alloc, World.size_setCell, World.size_drew] at hz); (first | (with_reducible have hl := lt_rule6 hz) | (with_reducible have hl := lt_rule5 hz) | (with_reducible have hl := lt_rule4 hz) | (with_reducible have hl := lt_rule3 hz) | (with_reducible have hl := lt_rule2 hz) | (with_reducible have hl := lt_rule1 hz) | have hl := lt_rule0 hz); (try (have hz0 : w.heap.size < w1.heap.size := by omega)); (try (have hz1 : w.heap.size + 1 < w1.heap.size := by omega)); (try (have hz2 : w.heap.size + 1 + 1 < w1.heap.size := by omega)); (try (have hz3 : w.heap.size + 1 + 1 + 1 < w1.heap.size := by omega)); (try (have hz4 : w.heap.size + 1 + 1 + 1 + 1 < w1.heap.size := by omega))) | ((go_at_call 61); (with_reducible refine (of_num 1 _ rfl).mono ?_); rintro e w' ⟨rfl, rfl⟩))
    refine bodyPost_ret (by simp [results, Try.results26, go_sem, *]; rfl) rfl ?_
    exact ⟨rfl, by (repeat' (first | (with_reducible exact Below.refl _ _) | (with_reducible assumption) | (with_reducible exact Hid.out (by assumption)) | (with_reducible refine below_a ?_ _) | (with_reducible refine below_dn ?_ _) | (with_reducible refine below_c ?_ (by assumption)) | (with_reducible refine below_d ?_) | (with_reducible refine Below.setCell ?_ ?_ _) | (with_reducible refine Below.alloc ?_ ?_ _) | (with_reducible refine below_call ?_ ?_ (by assumption)) | (with_reducible refine Below.drew ?_) | go_size | ((try simp only [World.size_alloc, World.size_setCell, World.size_drew] at *); omega)))⟩
theorem neq_e1b (w : World) : (binOp .neq 27 (.iface 60 (.int .i64 1)) .nilIface).run Try.prog w = .ok (.bool true) w := neq_iface_nil w _ Try.underlying27
theorem next_no (h : St base w S ns most) (x : Nat) (hx : x < 4294967296) (hl : ¬ lvlN ns x = 2) :
    Calls Try.prog 27 #[.pointer (some ⟨S, 0, none⟩), .int .u32 x] w fun e w' => e = .returned (.tuple #[.int .u32 0, .iface 60 (.int .i64 1)]) ∧ Below w.heap.size w w' := by
  have HR := Lib.hid (read_no h x hx hl)
  have q := neq_e1b
  clear h hx hl
  go_enter Try.func27, Try.ntmps27
  go_wp2_with ((go_at_call 26); (with_reducible refine HR.out.mono ?_); rintro e w1 ⟨rfl, hb_w1⟩; obtain ⟨hc, hf⟩ := bcell hb_w1; have hz := hb_w1.size; (try simp only [World.size_alloc, World.size_setCell, World.size_drew] at hz); (first | (with_reducible have hl := lt_rule6 hz) | (with_reducible have hl := lt_rule5 hz) | (with_reducible have hl := lt_rule4 hz) | (with_reducible have hl := lt_rule3 hz) | (with_reducible have hl := lt_rule2 hz) | (with_reducible have hl := lt_rule1 hz) | have hl := lt_rule0 hz); (try (have hz0 : w.heap.size < w1.heap.size := by omega)); (try (have hz1 : w.heap.size + 1 < w1.heap.size := by omega)); (try (have hz2 : w.heap.size + 1 + 1 < w1.heap.size := by omega)); (try (have hz3 : w.heap.size + 1 + 1 + 1 < w1.heap.size := by omega)); (try (have hz4 : w.heap.size + 1 + 1 + 1 + 1 < w1.heap.size := by omega)))
  refine bodyPost_ret (by simp [results, Try.results27, go_sem, *]; rfl) rfl ?_
  exact ⟨rfl, by (repeat' (first | (with_reducible exact Below.refl _ _) | (with_reducible assumption) | (with_reducible exact Hid.out (by assumption)) | (with_reducible refine below_a ?_ _) | (with_reducible refine below_dn ?_ _) | (with_reducible refine below_c ?_ (by assumption)) | (with_reducible refine below_d ?_) | (with_reducible refine Below.setCell ?_ ?_ _) | (with_reducible refine Below.alloc ?_ ?_ _) | (with_reducible refine below_call ?_ ?_ (by assumption)) | (with_reducible refine Below.drew ?_) | go_size | ((try simp only [World.size_alloc, World.size_setCell, World.size_drew] at *); omega)))⟩
end
theorem read_nil (w : World) (x : Nat) (hx : x < 4294967296) :
    Calls Try.prog 26 #[.pointer none, .int .u32 x] w fun e w' => e = .returned (.tuple #[.int .u16 0, .iface 60 (.int .i64 1)]) ∧ Below w.heap.size w w' := by
  go_enter Try.func26, Try.ntmps26
  go_wp2_with (first | ((go_at_call 28); (with_reducible refine (of_nil _ x hx).mono ?_); rintro e w1 ⟨rfl, hb_w1⟩; obtain ⟨hc, hf⟩ := bcell hb_w1; have hz := hb_w1.size; (try simp only [World.size_alloc, World.size_setCell, World.size_drew] at hz); (first | (with_reducible have hl := lt_rule6 hz) | (with_reducible have hl := lt_rule5 hz) | (with_reducible have hl := lt_rule4 hz) | (with_reducible have hl := lt_rule3 hz) | (with_reducible have hl := lt_rule2 hz) | (with_reducible have hl := lt_rule1 hz) | have hl := lt_rule0 hz); (try (have hz0 : w.heap.size < w1.heap.size := by omega)); (try (have hz1 : w.heap.size + 1 < w1.heap.size := by omega)); (try (have hz2 : w.heap.size + 1 + 1 < w1.heap.size := by omega)); (try (have hz3 : w.heap.size + 1 + 1 + 1 < w1.heap.size := by omega)); (try (have hz4 : w.heap.size + 1 + 1 + 1 + 1 < w1.heap.size := by omega))) | ((go_at_call 61); (with_reducible refine (of_num 1 _ rfl).mono ?_); rintro e w' ⟨rfl, rfl⟩))
  refine bodyPost_ret (by simp [results, Try.results26, go_sem, *]; rfl) rfl ?_
  exact ⟨rfl, by (repeat' (first | (with_reducible exact Below.refl _ _) | (with_reducible assumption) | (with_reducible exact Hid.out (by assumption)) | (with_reducible refine below_a ?_ _) | (with_reducible refine below_dn ?_ _) | (with_reducible refine below_c ?_ (by assumption)) | (with_reducible refine below_d ?_) | (with_reducible refine Below.setCell ?_ ?_ _) | (with_reducible refine Below.alloc ?_ ?_ _) | (with_reducible refine below_call ?_ ?_ (by assumption)) | (with_reducible refine Below.drew ?_) | go_size | ((try simp only [World.size_alloc, World.size_setCell, World.size_drew] at *); omega)))⟩
theorem next_nil (w : World) (x : Nat) (hx : x < 4294967296) :
    Calls Try.prog 27 #[.pointer none, .int .u32 x] w fun e w' => e = .returned (.tuple #[.int .u32 0, .iface 60 (.int .i64 1)]) ∧ Below w.heap.size w w' := by
  have q := neq_e1b
  go_enter Try.func27, Try.ntmps27
  go_wp2_with ((go_at_call 26); (with_reducible refine (read_nil _ x hx).mono ?_); rintro e w1 ⟨rfl, hb_w1⟩; obtain ⟨hc, hf⟩ := bcell hb_w1; have hz := hb_w1.size; (try simp only [World.size_alloc, World.size_setCell, World.size_drew] at hz); (first | (with_reducible have hl := lt_rule6 hz) | (with_reducible have hl := lt_rule5 hz) | (with_reducible have hl := lt_rule4 hz) | (with_reducible have hl := lt_rule3 hz) | (with_reducible have hl := lt_rule2 hz) | (with_reducible have hl := lt_rule1 hz) | have hl := lt_rule0 hz); (try (have hz0 : w.heap.size < w1.heap.size := by omega)); (try (have hz1 : w.heap.size + 1 < w1.heap.size := by omega)); (try (have hz2 : w.heap.size + 1 + 1 < w1.heap.size := by omega)); (try (have hz3 : w.heap.size + 1 + 1 + 1 < w1.heap.size := by omega)); (try (have hz4 : w.heap.size + 1 + 1 + 1 + 1 < w1.heap.size := by omega)))
  refine bodyPost_ret (by simp [results, Try.results27, go_sem, *]; rfl) rfl ?_
  exact ⟨rfl, by (repeat' (first | (with_reducible exact Below.refl _ _) | (with_reducible assumption) | (with_reducible exact Hid.out (by assumption)) | (with_reducible refine below_a ?_ _) | (with_reducible refine below_dn ?_ _) | (with_reducible refine below_c ?_ (by assumption)) | (with_reducible refine below_d ?_) | (with_reducible refine Below.setCell ?_ ?_ _) | (with_reducible refine Below.alloc ?_ ?_ _) | (with_reducible refine below_call ?_ ?_ (by assumption)) | (with_reducible refine Below.drew ?_) | go_size | ((try simp only [World.size_alloc, World.size_setCell, World.size_drew] at *); omega)))⟩
set_option maxRecDepth 20000 in
theorem square_nil (w : World) (f : Nat) (hf : f < 65536) :
    Calls Try.prog 25 #[.pointer none, .int .u16 f] w fun e w' => e = .returned (.tuple #[.int .u32 0, .iface 60 (.int .i64 1)]) ∧ Below w.heap.size w w' := by
  have q := neq_e1b
  have HF := Lib.hid hf
  clear hf
  have h0 := sq_at f 0 0 HF.out (by decide) (by decide)
  have h1 := sq_at f 0 1 HF.out (by decide) (by decide)
  have h2 := sq_at f 0 2 HF.out (by decide) (by decide)
  have h3 := sq_at f 0 3 HF.out (by decide) (by decide)
  have H0 := Lib.hid (fun w => at_in f 0 0 w HF.out (by decide) (by decide) (by decide) (by decide))
  have H1 := Lib.hid (fun w => at_in f 1 0 w HF.out (by decide) (by decide) (by decide) (by decide))
  have H2 := Lib.hid (fun w => at_in f 0 1 w HF.out (by decide) (by decide) (by decide) (by decide))
  have H3 := Lib.hid (fun w => at_in f 1 1 w HF.out (by decide) (by decide) (by decide) (by decide))
  clear h0 h1 h2 h3
  have HM := Lib.hid (fun W b0 b1 b2 b3 => make_nil W (cN b0) (cN b1) (cN b2) (cN b3) (by have := cN_le b0; omega))
  go_enter Try.func25, Try.ntmps25
  go_wp2_with fail
  refine wp_loop_rounds 1 ?_
  rw [rounds_succ]
  go_wp2_with fail
  refine wp_loop_rounds 5 ?_
  iterate 5
    all_goals rw [rounds_succ]
    all_goals go_wp2_with (first | ((go_at_call 21); (with_reducible refine (H0.out _).mono ?_); rintro e w' ⟨rfl, rfl⟩) | ((go_at_call 21); (with_reducible refine (H1.out _).mono ?_); rintro e w' ⟨rfl, rfl⟩) | ((go_at_call 21); (with_reducible refine (H2.out _).mono ?_); rintro e w' ⟨rfl, rfl⟩) | ((go_at_call 21); (with_reducible refine (H3.out _).mono ?_); rintro e w' ⟨rfl, rfl⟩) | ((go_at_call 64); (with_reducible refine (cell_any _ _).mono ?_); rintro e w' ⟨rfl, rfl⟩) | ((go_at_call 31); (with_reducible refine (HM.out _ _ _ _ _).mono ?_); rintro e w1 ⟨rfl, hb_w1⟩; obtain ⟨hc, hf⟩ := bcell hb_w1; have hz := hb_w1.size; (try simp only [World.size_alloc, World.size_setCell, World.size_drew] at hz); (first | (with_reducible have hl := lt_rule6 hz) | (with_reducible have hl := lt_rule5 hz) | (with_reducible have hl := lt_rule4 hz) | (with_reducible have hl := lt_rule3 hz) | (with_reducible have hl := lt_rule2 hz) | (with_reducible have hl := lt_rule1 hz) | have hl := lt_rule0 hz); (try (have hz0 : w.heap.size < w1.heap.size := by omega)); (try (have hz1 : w.heap.size + 1 < w1.heap.size := by omega)); (try (have hz2 : w.heap.size + 1 + 1 < w1.heap.size := by omega)); (try (have hz3 : w.heap.size + 1 + 1 + 1 < w1.heap.size := by omega)); (try (have hz4 : w.heap.size + 1 + 1 + 1 + 1 < w1.heap.size := by omega))))
  all_goals
    refine bodyPost_ret (by simp [results, Try.results25, go_sem, *]; rfl) rfl ?_
    exact ⟨rfl, by (repeat' (first | (with_reducible exact Below.refl _ _) | (with_reducible assumption) | (with_reducible exact Hid.out (by assumption)) | (with_reducible refine below_a ?_ _) | (with_reducible refine below_dn ?_ _) | (with_reducible refine below_c ?_ (by assumption)) | (with_reducible refine below_d ?_) | (with_reducible refine Below.setCell ?_ ?_ _) | (with_reducible refine Below.alloc ?_ ?_ _) | (with_reducible refine below_call ?_ ?_ (by assumption)) | (with_reducible refine Below.drew ?_) | go_size | ((try simp only [World.size_alloc, World.size_setCell, World.size_drew] at *); omega)))⟩
end Go.Proofs.Ytjiliiclebdbfaa
