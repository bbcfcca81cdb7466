/- The walk of the statement GridPoints: any point, and any step: whether it is on the plane, and where it comes to. -/
import Derived.Test.YtmleopbelmibcaaProg
import Derived.Test.YtmleopbelmibcaaKit
import Derived.Test.YtmleopbelmibcaaGrid
import Derived.Test.YtmleopbelmibcaaGridRef
import Derived.Test.YtmleopbelmibcaaFault
import Derived.Test.YtmleopbelmibcaaOpen
import Derived.Deep.QuietTactic
import Derived.BigQuiet
namespace Go.Proofs.Ytmleopbelmibcaa
open Go.RowKit
set_option linter.unusedVariables false
set_option linter.unusedSimpArgs false

theorem shift_bad (x y x' y' : Int) (w : World) (h : (insB x && insB y && (insB x' && insB y')) = false) :
    Calls Try.prog 41 #[.agg #[.int .i64 (x), .int .i64 (y)], .agg #[.int .i64 (x'), .int .i64 (y')]] w fun e w' => e = .returned (.tuple #[.agg #[.int .i64 (0), .int .i64 (0)], .iface 60 (.int .i64 1)]) ∧ Below w.heap.size w w' := by
  cases h1 : (insB x && insB y) <;> cases h2 : (insB x' && insB y')
  case true.true => rw [h1, h2] at h; simp at h
  all_goals
    clear h
    go_enter Try.func41, Try.ntmps41
    go_wp2_with (first | (go_at_call 18; refine (pright_any _ _ _).mono ?_; rintro e w' ⟨rfl, hb⟩; obtain ⟨hc, hf⟩ := bcell hb; have hz := hb.size; (try simp only [World.size_alloc, World.size_setCell, World.size_drew] at hz); (first | (with_reducible have hl := lt_rule6 hz) | (with_reducible have hl := lt_rule5 hz) | (with_reducible have hl := lt_rule4 hz) | (with_reducible have hl := lt_rule3 hz) | (with_reducible have hl := lt_rule2 hz) | (with_reducible have hl := lt_rule1 hz) | have hl := lt_rule0 hz); (try (have hz0 : w.heap.size < w'.heap.size := by omega)); (try (have hz1 : w.heap.size + 1 < w'.heap.size := by omega)); (try (have hz2 : w.heap.size + 1 + 1 < w'.heap.size := by omega)); (try (have hz3 : w.heap.size + 1 + 1 + 1 < w'.heap.size := by omega)); (try (have hz4 : w.heap.size + 1 + 1 + 1 + 1 < w'.heap.size := by omega))) | (go_at_call 70; refine (of_num _ _ (by decide)).mono ?_; rintro e w' ⟨rfl, rfl⟩))
    refine bodyPost_ret (by simp [results, Try.results41, go_sem, *]; rfl) rfl ?_
    exact ⟨rfl, by (repeat' (first | (with_reducible exact Below.refl _ _) | (with_reducible assumption) | (with_reducible refine Below.setCell ?_ ?_ _) | (with_reducible refine Below.alloc ?_ ?_ _) | (with_reducible refine below_dn ?_ _) | (with_reducible refine below_call ?_ ?_ (by assumption)) | (with_reducible refine Below.drew ?_) | go_size))⟩
theorem shift_far (x y x' y' X Y : Int) (w : World) (h1 : (insB x && insB y) = true) (h2 : (insB x' && insB y') = true) (hX : wrap64 (x + x') = X) (hY : wrap64 (y + y') = Y) (h3 : (insB X && insB Y) = false) :
    Calls Try.prog 41 #[.agg #[.int .i64 (x), .int .i64 (y)], .agg #[.int .i64 (x'), .int .i64 (y')]] w fun e w' => e = .returned (.tuple #[.agg #[.int .i64 (0), .int .i64 (0)], .iface 60 (.int .i64 8)]) ∧ Below w.heap.size w w' := by
  have hX' := (i64_w _).trans hX
  have hY' := (i64_w _).trans hY
  go_enter Try.func41, Try.ntmps41
  go_wp2_with (first | (go_at_call 18; refine (pright_any _ _ _).mono ?_; rintro e w' ⟨rfl, hb⟩; obtain ⟨hc, hf⟩ := bcell hb; have hz := hb.size; (try simp only [World.size_alloc, World.size_setCell, World.size_drew] at hz); (first | (with_reducible have hl := lt_rule6 hz) | (with_reducible have hl := lt_rule5 hz) | (with_reducible have hl := lt_rule4 hz) | (with_reducible have hl := lt_rule3 hz) | (with_reducible have hl := lt_rule2 hz) | (with_reducible have hl := lt_rule1 hz) | have hl := lt_rule0 hz); (try (have hz0 : w.heap.size < w'.heap.size := by omega)); (try (have hz1 : w.heap.size + 1 < w'.heap.size := by omega)); (try (have hz2 : w.heap.size + 1 + 1 < w'.heap.size := by omega)); (try (have hz3 : w.heap.size + 1 + 1 + 1 < w'.heap.size := by omega)); (try (have hz4 : w.heap.size + 1 + 1 + 1 + 1 < w'.heap.size := by omega))) | (go_at_call 70; refine (of_num _ _ (by decide)).mono ?_; rintro e w' ⟨rfl, rfl⟩))
  refine bodyPost_ret (by simp [results, Try.results41, go_sem, *]; rfl) rfl ?_
  exact ⟨rfl, by (repeat' (first | (with_reducible exact Below.refl _ _) | (with_reducible assumption) | (with_reducible refine Below.setCell ?_ ?_ _) | (with_reducible refine Below.alloc ?_ ?_ _) | (with_reducible refine below_dn ?_ _) | (with_reducible refine below_call ?_ ?_ (by assumption)) | (with_reducible refine Below.drew ?_) | go_size))⟩
theorem shift_ok (x y x' y' X Y : Int) (w : World) (h1 : (insB x && insB y) = true) (h2 : (insB x' && insB y') = true) (hX : wrap64 (x + x') = X) (hY : wrap64 (y + y') = Y) (h3 : (insB X && insB Y) = true) :
    Calls Try.prog 41 #[.agg #[.int .i64 (x), .int .i64 (y)], .agg #[.int .i64 (x'), .int .i64 (y')]] w fun e w' => e = .returned (.tuple #[.agg #[.int .i64 (X), .int .i64 (Y)], .nilIface]) ∧ Below w.heap.size w w' := by
  have hX' := (i64_w _).trans hX
  have hY' := (i64_w _).trans hY
  go_enter Try.func41, Try.ntmps41
  go_wp2_with (first | (go_at_call 18; refine (pright_any _ _ _).mono ?_; rintro e w' ⟨rfl, hb⟩; obtain ⟨hc, hf⟩ := bcell hb; have hz := hb.size; (try simp only [World.size_alloc, World.size_setCell, World.size_drew] at hz); (first | (with_reducible have hl := lt_rule6 hz) | (with_reducible have hl := lt_rule5 hz) | (with_reducible have hl := lt_rule4 hz) | (with_reducible have hl := lt_rule3 hz) | (with_reducible have hl := lt_rule2 hz) | (with_reducible have hl := lt_rule1 hz) | have hl := lt_rule0 hz); (try (have hz0 : w.heap.size < w'.heap.size := by omega)); (try (have hz1 : w.heap.size + 1 < w'.heap.size := by omega)); (try (have hz2 : w.heap.size + 1 + 1 < w'.heap.size := by omega)); (try (have hz3 : w.heap.size + 1 + 1 + 1 < w'.heap.size := by omega)); (try (have hz4 : w.heap.size + 1 + 1 + 1 + 1 < w'.heap.size := by omega))))
  refine bodyPost_ret (by simp [results, Try.results41, go_sem, *]; rfl) rfl ?_
  exact ⟨rfl, by (repeat' (first | (with_reducible exact Below.refl _ _) | (with_reducible assumption) | (with_reducible refine Below.setCell ?_ ?_ _) | (with_reducible refine Below.alloc ?_ ?_ _) | (with_reducible refine below_dn ?_ _) | (with_reducible refine below_call ?_ ?_ (by assumption)) | (with_reducible refine Below.drew ?_) | go_size))⟩

set_option maxRecDepth 100000 in
set_option maxHeartbeats 4000000 in
theorem gridPoints_bad (x y x' y' : Int) (a b c d : Bool) (ha : insB x = a) (hb0 : insB y = b) (hc0 : insB x' = c) (hd : insB y' = d) (h : (a && b && (c && d)) = false) (w : World) :
    Calls Try.prog 9 #[.agg #[.int .i64 (x), .int .i64 (y)], .agg #[.int .i64 (x'), .int .i64 (y')]] w fun e w' => e = .returned (.bool true) ∧ Below w.heap.size w w' := by
  have qe := eq_pt
  have q1 : isB (.num 1) [1] = true := by decide
  have q8 : isB (.num 8) [8] = true := by decide
  have q6 := fun w => eql_nil_nil (P := Try.prog) w Try.underlying56
  have hs : (insB x && insB y && (insB x' && insB y')) = false := by rw [ha, hb0, hc0, hd]; exact h
  have HS := Lib.hid hs
  clear hs
  cases a <;> cases b <;> cases c <;> cases d
  case true.true.true.true => simp at h
  all_goals clear h
  all_goals
    go_enter Try.func9, Try.ntmps9
    go_wp2_with (first | (go_at_call 41; refine (shift_bad _ _ _ _ _ HS.out).mono ?_; rintro e ws ⟨rfl, hb⟩; replace p2 := p2.keep (show Below _ _ ws from by (repeat' (first | (with_reducible exact Below.refl _ _) | (with_reducible assumption) | (with_reducible refine Below.setCell ?_ ?_ _) | (with_reducible refine Below.alloc ?_ ?_ _) | (with_reducible refine below_dn ?_ _) | (with_reducible refine below_call ?_ ?_ (by assumption)) | (with_reducible refine Below.drew ?_) | go_size))); have c_p2 := p2.cell; have f_p2 := p2.frozen; have l_p2 := p2.lt; replace p3 := p3.keep (show Below _ _ ws from by (repeat' (first | (with_reducible exact Below.refl _ _) | (with_reducible assumption) | (with_reducible refine Below.setCell ?_ ?_ _) | (with_reducible refine Below.alloc ?_ ?_ _) | (with_reducible refine below_dn ?_ _) | (with_reducible refine below_call ?_ ?_ (by assumption)) | (with_reducible refine Below.drew ?_) | go_size))); have c_p3 := p3.cell; have f_p3 := p3.frozen; have l_p3 := p3.lt) | (go_at_call 14; refine (lives4 _).mono ?_; rintro e w' ⟨rfl, hb⟩; have p2 : Pt w' (w.heap.size) #[.int .i64 x, .int .i64 y] 23 := (by (repeat' (first | (with_reducible assumption) | (with_reducible refine Pt.drew ?_) | (with_reducible refine Pt.new' (by first | rfl | (simp; done) | omega)) | (with_reducible refine Pt.alloc ?_ _) | (with_reducible refine Pt.keep ?_ (by with_reducible assumption))))); have c_p2 := p2.cell; have f_p2 := p2.frozen; have l_p2 := p2.lt; have p3 : Pt w' (w.heap.size + 1) #[.int .i64 x', .int .i64 y'] 23 := (by (repeat' (first | (with_reducible assumption) | (with_reducible refine Pt.drew ?_) | (with_reducible refine Pt.new' (by first | rfl | (simp; done) | omega)) | (with_reducible refine Pt.alloc ?_ _) | (with_reducible refine Pt.keep ?_ (by with_reducible assumption))))); have c_p3 := p3.cell; have f_p3 := p3.frozen; have l_p3 := p3.lt) | (go_at_call 36; refine (refRight_any _ _).mono ?_; rintro e w' ⟨rfl, rfl⟩) | (go_at_call 18; refine (pright_any _ _ _).mono ?_; (first | (rintro e w' ⟨rfl, hb⟩; replace p2 := p2.keep (show Below _ _ w' from by (repeat' (first | (with_reducible exact Below.refl _ _) | (with_reducible assumption) | (with_reducible refine Below.setCell ?_ ?_ _) | (with_reducible refine Below.alloc ?_ ?_ _) | (with_reducible refine below_dn ?_ _) | (with_reducible refine below_call ?_ ?_ (by assumption)) | (with_reducible refine Below.drew ?_) | go_size))); have c_p2 := p2.cell; have f_p2 := p2.frozen; have l_p2 := p2.lt; replace p3 := p3.keep (show Below _ _ w' from by (repeat' (first | (with_reducible exact Below.refl _ _) | (with_reducible assumption) | (with_reducible refine Below.setCell ?_ ?_ _) | (with_reducible refine Below.alloc ?_ ?_ _) | (with_reducible refine below_dn ?_ _) | (with_reducible refine below_call ?_ ?_ (by assumption)) | (with_reducible refine Below.drew ?_) | go_size))); have c_p3 := p3.cell; have f_p3 := p3.frozen; have l_p3 := p3.lt; replace p7 := p7.keep (show Below _ _ w' from by (repeat' (first | (with_reducible exact Below.refl _ _) | (with_reducible assumption) | (with_reducible refine Below.setCell ?_ ?_ _) | (with_reducible refine Below.alloc ?_ ?_ _) | (with_reducible refine below_dn ?_ _) | (with_reducible refine below_call ?_ ?_ (by assumption)) | (with_reducible refine Below.drew ?_) | go_size))); have c_p7 := p7.cell; have f_p7 := p7.frozen; have l_p7 := p7.lt) | (rintro e w' ⟨rfl, hb⟩; replace p2 := p2.keep (show Below _ _ w' from by (repeat' (first | (with_reducible exact Below.refl _ _) | (with_reducible assumption) | (with_reducible refine Below.setCell ?_ ?_ _) | (with_reducible refine Below.alloc ?_ ?_ _) | (with_reducible refine below_dn ?_ _) | (with_reducible refine below_call ?_ ?_ (by assumption)) | (with_reducible refine Below.drew ?_) | go_size))); have c_p2 := p2.cell; have f_p2 := p2.frozen; have l_p2 := p2.lt; replace p3 := p3.keep (show Below _ _ w' from by (repeat' (first | (with_reducible exact Below.refl _ _) | (with_reducible assumption) | (with_reducible refine Below.setCell ?_ ?_ _) | (with_reducible refine Below.alloc ?_ ?_ _) | (with_reducible refine below_dn ?_ _) | (with_reducible refine below_call ?_ ?_ (by assumption)) | (with_reducible refine Below.drew ?_) | go_size))); have c_p3 := p3.cell; have f_p3 := p3.frozen; have l_p3 := p3.lt; have p7 : Pt w' (ws.heap.size) #[.int .i64 0, .int .i64 0] 23 := (by (repeat' (first | (with_reducible assumption) | (with_reducible refine Pt.drew ?_) | (with_reducible refine Pt.new' (by first | rfl | (simp; done) | omega)) | (with_reducible refine Pt.alloc ?_ _) | (with_reducible refine Pt.keep ?_ (by with_reducible assumption))))); have c_p7 := p7.cell; have f_p7 := p7.frozen; have l_p7 := p7.lt))) | (go_at_call 42; (refine (is_any (.num 1) _ [1] _ 1 _ rfl rfl (by omega) (by intro i hi; obtain rfl : i = 0 := (by omega); first | (simp; done) | exact (c_alloc_eq rfl).trans rfl)).mono ?_); rintro e w' ⟨rfl, rfl⟩))
    go_ret
    exact ⟨rfl, by (repeat' (first | (with_reducible exact Below.refl _ _) | (with_reducible assumption) | (with_reducible refine Below.setCell ?_ ?_ _) | (with_reducible refine Below.alloc ?_ ?_ _) | (with_reducible refine below_dn ?_ _) | (with_reducible refine below_call ?_ ?_ (by assumption)) | (with_reducible refine Below.drew ?_) | go_size))⟩

end Go.Proofs.Ytmleopbelmibcaa
