/- Package roots: no roots; and the law RootsNil. -/
import Derived.Test.YtmjdlofkjjofcaaProg
import Derived.Test.YtmjdlofkjjofcaaRoots
import Derived.Test.YtmjdlofkjjofcaaFault
import Derived.Test.YtmjdlofkjjofcaaFaultB
import Derived.Deep.QuietTactic
import Derived.BigQuiet
import Derived.Deep.RegionWith
import Derived.Deep.DrawnRows
namespace Go.Proofs.Ytmjdlofkjjofcaa
open Go.RowKit
set_option linter.unusedVariables false
set_option linter.unusedSimpArgs false

theorem put_nil (x : Int) (w : World) : Calls Try.prog 54 #[.pointer none, .int .u32 x] w fun e w' => e = .returned (.tuple #[.int .i64 0, .iface 87 (.int .i64 1)]) ∧ w = w' := by
  go_enter Try.func54, Try.ntmps54
  go_wp2_with ((go_at_call 92); (with_reducible refine (of_num 1 _ (by decide)).mono ?_); rintro e w' ⟨rfl, rfl⟩)
  refine bodyPost_ret (by simp [results, Try.results54, go_sem, *]; rfl) rfl ?_
  exact ⟨rfl, rfl⟩
theorem get_nil (h : Int) (w : World) : Calls Try.prog 55 #[.pointer none, .int .i64 h] w fun e w' => e = .returned (.tuple #[.int .u32 0, .bool false]) ∧ w = w' := by
  go_enter Try.func55, Try.ntmps55
  go_wp2
  refine bodyPost_ret (by simp [results, Try.results55, go_sem, *]; rfl) rfl ?_
  exact ⟨rfl, rfl⟩
theorem set_nil (h x : Int) (w : World) : Calls Try.prog 58 #[.pointer none, .int .i64 h, .int .u32 x] w fun e w' => e = .returned (.iface 87 (.int .i64 6)) ∧ w = w' := by
  go_enter Try.func58, Try.ntmps58
  go_wp2_with (first | ((go_at_call 92); (with_reducible refine (of_num 6 _ (by decide)).mono ?_); rintro e w' ⟨rfl, rfl⟩) | ((go_at_call 55); (with_reducible refine (get_nil h _).mono ?_); rintro e w' ⟨rfl, rfl⟩))
  go_ret
  exact ⟨rfl, rfl⟩
theorem take_nil (h : Int) (w : World) : Calls Try.prog 59 #[.pointer none, .int .i64 h] w fun e w' => e = .returned (.iface 87 (.int .i64 6)) ∧ w = w' := by
  go_enter Try.func59, Try.ntmps59
  go_wp2_with (first | ((go_at_call 92); (with_reducible refine (of_num 6 _ (by decide)).mono ?_); rintro e w' ⟨rfl, rfl⟩) | ((go_at_call 55); (with_reducible refine (get_nil h _).mono ?_); rintro e w' ⟨rfl, rfl⟩))
  go_ret
  exact ⟨rfl, rfl⟩
theorem drop_nil (h : Int) (w : World) : Calls Try.prog 60 #[.pointer none, .int .i64 h] w fun e w' => e = .returned (.iface 87 (.int .i64 6)) ∧ w = w' := by
  go_enter Try.func60, Try.ntmps60
  go_wp2_with (first | ((go_at_call 92); (with_reducible refine (of_num 6 _ (by decide)).mono ?_); rintro e w' ⟨rfl, rfl⟩) | ((go_at_call 55); (with_reducible refine (get_nil h _).mono ?_); rintro e w' ⟨rfl, rfl⟩))
  go_ret
  exact ⟨rfl, rfl⟩
theorem len_nil (w : World) : Calls Try.prog 61 #[.pointer none] w fun e w' => e = .returned (.int .i64 0) ∧ w = w' := by
  go_enter Try.func61, Try.ntmps61
  go_wp2
  go_ret
  exact ⟨rfl, rfl⟩
theorem all_nil (w : World) : Calls Try.prog 62 #[.pointer none] w fun e w' => e = .returned (.slice none 0 0) ∧ w = w' := by
  go_enter Try.func62, Try.ntmps62
  go_wp2
  go_ret
  exact ⟨rfl, rfl⟩
theorem change_nil (f : Value) (w : World) : Calls Try.prog 56 #[.pointer none, f] w fun e w' => e = .returned (.tuple #[]) ∧ w = w' := by
  go_enter Try.func56, Try.ntmps56
  go_wp2_with ((go_at_call 62); (with_reducible refine (all_nil _).mono ?_); rintro e w' ⟨rfl, rfl⟩)
  go_loop [11] (fun v => v = .int .i64 0) (fun _ => 0)
  case atStart => exact rfl
  case round =>
    obtain rfl := hrel
    go_wp2
    refine bodyPost_end (results_none rfl _ _ _) rfl ?_
    exact ⟨rfl, rfl⟩
set_option maxRecDepth 100000 in
theorem len64_0 (w : World) : Calls Try.prog 105 #[.int .u64 0] w fun e w' => (∃ n : Int, e = .returned (.int .i64 n)) ∧ w = w' := by
  have d1 : decide ((0 : Int) ≥ 4294967296) = false := by decide
  have d2 : decide ((0 : Int) ≥ 65536) = false := by decide
  go_enter Try.func105, Try.ntmps105
  go_wp2_with fail
  go_ret
  exact ⟨⟨_, rfl⟩, rfl⟩
theorem len0 (w : World) : Calls Try.prog 114 #[.int .u64 0] w fun e w' => (∃ n : Int, e = .returned (.int .i64 n)) ∧ w = w' := by
  go_enter Try.func114, Try.ntmps114
  go_wp2_with ((go_at_call 105); (with_reducible refine (len64_0 _).mono ?_); rintro e w' ⟨⟨n, rfl⟩, rfl⟩)
  go_ret
  exact ⟨⟨_, rfl⟩, rfl⟩
theorem ins_nil (w : World) : Calls Try.prog 120 #[.slice none 0 0, .int .i64 0, .int .i64 0] w fun e w' => e = .returned (.tuple #[]) ∧ w = w' := by
  go_enter Try.func120, Try.ntmps120
  go_wp2
  go_loop [6] (fun v => v = .int .i64 1) (fun _ => 0)
  case atStart => exact rfl
  case round =>
    obtain rfl := hrel
    go_wp2
    refine bodyPost_end (results_none rfl _ _ _) rfl ?_
    exact ⟨rfl, rfl⟩
theorem pdq_nil (n : Int) (w : World) : Calls Try.prog 113 #[.slice none 0 0, .int .i64 0, .int .i64 0, .int .i64 n] w fun e w' => e = .returned (.tuple #[]) ∧ w = w' := by
  go_enter Try.func113, Try.ntmps113
  go_wp2
  go_loop [2, 1, 3, 8, 9] (fun a b c d e => a = .int .i64 0 ∧ b = .int .i64 0) (fun _ _ _ _ _ => 0)
  case atStart => exact ⟨rfl, rfl⟩
  case round =>
    obtain ⟨rfl, rfl⟩ := hrel
    go_wp2_with ((go_at_call 120); (with_reducible refine (ins_nil _).mono ?_); rintro e w' ⟨rfl, rfl⟩)
    refine bodyPost_ret (results_none rfl _ _ _) rfl ?_
    exact ⟨rfl, rfl⟩
theorem sort_nil (w : World) : Calls Try.prog 96 #[.slice none 0 0] w fun e w' => e = .returned (.tuple #[]) ∧ w = w' := by
  go_enter Try.func96, Try.ntmps96
  go_wp2_with (first | ((go_at_call 114); (with_reducible refine (len0 _).mono ?_); rintro e w' ⟨⟨n, rfl⟩, rfl⟩) | ((go_at_call 113); (with_reducible refine (pdq_nil _ _).mono ?_); rintro e w' ⟨rfl, rfl⟩))
  refine bodyPost_end (results_none rfl _ _ _) rfl ?_
  exact ⟨rfl, rfl⟩
theorem compact_nil (w : World) : Calls Try.prog 97 #[.slice none 0 0] w fun e w' => e = .returned (.slice none 0 0) ∧ w = w' := by
  go_enter Try.func97, Try.ntmps97
  go_wp2
  go_ret
  exact ⟨rfl, rfl⟩
theorem squares_nil (w : World) : Calls Try.prog 63 #[.pointer none] w fun e w' => e = .returned (.slice none 0 0) ∧ w = w' := by
  go_enter Try.func63, Try.ntmps63
  go_wp2_with ((go_at_call 62); (with_reducible refine (all_nil _).mono ?_); rintro e w' ⟨rfl, rfl⟩)
  go_loop [3, 9] (fun o v => o = .slice none 0 0 ∧ v = .int .i64 0) (fun _ _ => 0)
  case atStart => exact ⟨rfl, rfl⟩
  case round =>
    obtain ⟨rfl, rfl⟩ := hrel
    go_wp2_with (first | ((go_at_call 96); (with_reducible refine (sort_nil _).mono ?_); rintro e w' ⟨rfl, rfl⟩) | ((go_at_call 97); (with_reducible refine (compact_nil _).mono ?_); rintro e w' ⟨rfl, rfl⟩))
    go_ret
    exact ⟨rfl, rfl⟩
set_option maxRecDepth 20000 in
theorem lives12 (w : World) : Calls Try.prog 53 #[] w fun e w' => e = .returned (.bool true) ∧ Below w.heap.size w w' := by
  have q3 := fun w => eql_nil_nil (P := Try.prog) w (ti := 66) Try.underlying66
  have W1 := Lib.hid (show wfI 1 from ⟨by omega, by omega⟩)
  have HN := Lib.hid (show Calls Try.prog 91 #[.int .i64 2] w fun e w' => ∃ r mb, e = .returned (.pointer (some ⟨r, 0, none⟩)) ∧ Rt w' r mb 0 0 0 2 (fun _ => none) ∧ w.heap.size ≤ r ∧ w.heap.size ≤ mb ∧ Below w.heap.size w w' from (roots_new 2 w).mono fun e w' k => ⟨_, _, k.1, k.2.1, by omega, by omega, k.2.2⟩)
  have HP := Lib.hid fun r mb (W : World) (h : Rt W r mb 0 0 0 2 (fun _ => none)) => (show Calls Try.prog 54 #[.pointer (some ⟨r, 0, none⟩), .int .u32 7] W fun e w' => e = .returned (.tuple #[.int .i64 1, .nilIface]) ∧ Rt w' r mb 1 1 1 2 (MF.put (fun _ => none) (.int .i64 1) (.agg #[.int .u32 7, .int .i64 1])) ∧ RtF r mb W w' from roots_put h 7 (by omega) ⟨by omega, by omega⟩ (by decide) 1 rfl)
  have HT := Lib.hid fun r mb g (W : World) (h : Rt W r mb 1 1 1 2 g) (hg : g (.int .i64 1) = some (.agg #[.int .u32 7, .int .i64 1])) => (show Calls Try.prog 59 #[.pointer (some ⟨r, 0, none⟩), .int .i64 1] W fun e w' => e = .returned .nilIface ∧ Rt w' r mb 2 1 1 2 (g.put (.int .i64 1) (.agg #[.int .u32 7, .int .i64 2])) ∧ RtF r mb W w' from roots_take h 1 W1.out 7 1 hg ⟨by omega, by omega⟩ (by decide))
  have HL := Lib.hid fun r mb g (W : World) (h : Rt W r mb 2 1 1 2 g) (hg : g (.int .i64 1) = some (.agg #[.int .u32 7, .int .i64 2])) => (show Calls Try.prog 60 #[.pointer (some ⟨r, 0, none⟩), .int .i64 1] W fun e w' => e = .returned .nilIface ∧ Rt w' r mb 3 1 1 2 (g.put (.int .i64 1) (.agg #[.int .u32 7, .int .i64 1])) ∧ RtF r mb W w' from roots_less h 1 W1.out 7 2 hg ⟨by omega, by omega⟩ (by decide))
  have HG := Lib.hid fun r mb g (W : World) (h : Rt W r mb 3 1 1 2 (MF.put g (.int .i64 1) (.agg #[.int .u32 7, .int .i64 1]))) => (show Calls Try.prog 55 #[.pointer (some ⟨r, 0, none⟩), .int .i64 1] W fun e w' => e = .returned (.tuple #[.int .u32 7, .bool true]) ∧ Below W.heap.size W w' from roots_get h 1 W1.out 7 1 true (by rw [MF.put_same]; rfl) (by rw [MF.put_same]; rfl) (Below.refl _ _))
  have HG2 := Lib.hid fun r mb g (W : World) (h : Rt W r mb 3 0 1 2 (MF.del g (.int .i64 1))) => (show Calls Try.prog 55 #[.pointer (some ⟨r, 0, none⟩), .int .i64 1] W fun e w' => e = .returned (.tuple #[.int .u32 0, .bool false]) ∧ Below W.heap.size W w' from roots_get h 1 W1.out 0 0 false (by rw [MF.del_same]; rfl) (by rw [MF.del_same]; rfl) (Below.refl _ _))
  have HD := Lib.hid fun r mb g (W : World) (h : Rt W r mb 3 1 1 2 g) (hg : g (.int .i64 1) = some (.agg #[.int .u32 7, .int .i64 1])) => (show Calls Try.prog 60 #[.pointer (some ⟨r, 0, none⟩), .int .i64 1] W fun e w' => e = .returned .nilIface ∧ Rt w' r mb 3 0 1 2 (g.del (.int .i64 1)) ∧ RtF r mb W w' from roots_drop h 1 W1.out 7 hg)
  clear W1
  go_enter Try.func53, Try.ntmps53
  go_wp2_with (first
    | (((go_at_call 91); (with_reducible refine (HN.out).mono ?_); rintro e w1 ⟨r, mb, rfl, r1, hr, hm, b1⟩; have R1 := Lib.hid r1; have I1 := Lib.hid hr; have I2 := Lib.hid hm; have B1 := Lib.hid b1; clear r1 hr hm b1))
    | (((go_at_call 54); (with_reducible refine (HP.out r mb _ R1.out).mono ?_); rintro e w2 ⟨rfl, r2, f2⟩; have R2 := Lib.hid r2; have B2 := Lib.hid (B1.out.trans (f2.below I1.out I2.out B1.out.size)); clear r2 f2 B1 R1 HP))
    | (((go_at_call 59); (with_reducible refine (HT.out r mb _ _ R2.out (MF.put_same _ _ _)).mono ?_); rintro e w3 ⟨rfl, r3, f3⟩; have R3 := Lib.hid r3; have B3 := Lib.hid (B2.out.trans (f3.below I1.out I2.out B2.out.size)); clear r3 f3 B2 R2 HT))
    | (((go_at_call 60); (with_reducible refine (HL.out r mb _ _ R3.out (MF.put_same _ _ _)).mono ?_); rintro e w4 ⟨rfl, r4, f4⟩; have R4 := Lib.hid r4; have B4 := Lib.hid (B3.out.trans (f4.below I1.out I2.out B3.out.size)); clear r4 f4 B3 R3 HL))
    | (((go_at_call 55); (with_reducible refine (HG.out r mb _ _ R4.out).mono ?_); rintro e w5 ⟨rfl, b5⟩; have R5 := Lib.hid (R4.out.keep b5); have B5 := Lib.hid (B4.out.trans (b5.mono B4.out.size)); clear b5 B4 R4))
    | (((go_at_call 60); (with_reducible refine (HD.out r mb _ _ R5.out (MF.put_same _ _ _)).mono ?_); rintro e w6 ⟨rfl, r6, f6⟩; have R6 := Lib.hid r6; have B6 := Lib.hid (B5.out.trans (f6.below I1.out I2.out B5.out.size)); clear r6 f6 B5 R5 HD))
    | (((go_at_call 55); (with_reducible refine (HG2.out r mb _ _ R6.out).mono ?_); rintro e w7 ⟨rfl, b7⟩; have B7 := Lib.hid (B6.out.trans (b7.mono B6.out.size)); clear b7 B6 R6)))
  go_ret
  exact ⟨rfl, B7.out⟩
theorem rootsNil_walk (h : Int) (w : World) : Calls Try.prog 8 #[.int .i64 h] w fun e w' => e = .returned (.bool true) ∧ Below w.heap.size w w' := by
  have i1 : isB (.num 1) [1] = true := by decide
  have i6 : isB (.num 6) [6] = true := by decide
  go_enter Try.func8, Try.ntmps8
  go_upto_region 4 with ((go_at_call 53); (with_reducible refine (lives12 _).mono ?_); rintro e w1 ⟨rfl, hb_w1⟩; obtain ⟨hc, hf⟩ := bcell hb_w1; have hz := hb_w1.size; (try simp only [World.size_alloc, World.size_setCell, World.size_drew] at hz); (first | (with_reducible have hl := lt_rule6 hz) | (with_reducible have hl := lt_rule5 hz) | (with_reducible have hl := lt_rule4 hz) | (with_reducible have hl := lt_rule3 hz) | (with_reducible have hl := lt_rule2 hz) | (with_reducible have hl := lt_rule1 hz) | have hl := lt_rule0 hz); (try (have hz0 : w.heap.size < w1.heap.size := by omega)); (try (have hz1 : w.heap.size + 1 < w1.heap.size := by omega)); (try (have hz2 : w.heap.size + 1 + 1 < w1.heap.size := by omega)); (try (have hz3 : w.heap.size + 1 + 1 + 1 < w1.heap.size := by omega)); (try (have hz4 : w.heap.size + 1 + 1 + 1 + 1 < w1.heap.size := by omega)))
  go_upto_region 7 with (first | ((go_at_call 54); (with_reducible refine (put_nil _ _).mono ?_); rintro e w' ⟨rfl, rfl⟩) | ((go_at_call 55); (with_reducible refine (get_nil _ _).mono ?_); rintro e w' ⟨rfl, rfl⟩) | ((go_at_call 56); (with_reducible refine (change_nil _ _).mono ?_); rintro e w' ⟨rfl, rfl⟩))
  go_wp2_with (first
    | ((go_at_call 57); (with_reducible refine (is1_num 1 1 _ _ (by first | (with_reducible rfl) | simp only [World.size_alloc]) true i1).mono ?_); rintro e w9 ⟨rfl, rfl⟩)
    | ((go_at_call 57); (with_reducible refine (is1_num 6 6 _ _ (by first | (with_reducible rfl) | simp only [World.size_alloc]) true i6).mono ?_); rintro e w9 ⟨rfl, rfl⟩)
    | ((go_at_call 58); (with_reducible refine (set_nil _ _ _).mono ?_); rintro e w' ⟨rfl, rfl⟩)
    | ((go_at_call 59); (with_reducible refine (take_nil _ _).mono ?_); rintro e w' ⟨rfl, rfl⟩)
    | ((go_at_call 60); (with_reducible refine (drop_nil _ _).mono ?_); rintro e w' ⟨rfl, rfl⟩)
    | ((go_at_call 61); (with_reducible refine (len_nil _).mono ?_); rintro e w' ⟨rfl, rfl⟩)
    | ((go_at_call 62); (with_reducible refine (all_nil _).mono ?_); rintro e w' ⟨rfl, rfl⟩)
    | ((go_at_call 63); (with_reducible refine (squares_nil _).mono ?_); rintro e w' ⟨rfl, rfl⟩))
  go_ret
  exact ⟨rfl, by (repeat' (first | (with_reducible exact Below.refl _ _) | (with_reducible assumption) | (with_reducible exact Hid.out (by assumption)) | (with_reducible refine below_a ?_ _) | (with_reducible refine below_dn ?_ _) | (with_reducible refine below_c ?_ (by assumption)) | (with_reducible refine below_d ?_) | (with_reducible refine Below.setCell ?_ ?_ _) | (with_reducible refine Below.alloc ?_ ?_ _) | (with_reducible refine below_call ?_ ?_ (by assumption)) | (with_reducible refine Below.drew ?_) | go_size | ((try simp only [World.size_alloc, World.size_setCell, World.size_drew] at *); omega)))⟩
theorem rootsNil_w (a0 : Int) (h0 : (Lit.int .i64 a0).wf = true) (w : World) : Calls Try.prog 8 #[.int .i64 a0] w fun e w' => e = .returned (.bool true) ∧ Below w.heap.size w w' := rootsNil_walk a0 w
end Go.Proofs.Ytmjdlofkjjofcaa
