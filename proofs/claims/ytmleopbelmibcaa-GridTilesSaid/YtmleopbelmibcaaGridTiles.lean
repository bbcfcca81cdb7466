/- Contracts of grid.Tiles over this seat's program. -/
import Derived.Test.YtmleopbelmibcaaProg
import Derived.Test.YtmleopbelmibcaaKit
import Derived.Test.YtmleopbelmibcaaGrid
import Derived.Deep.RegionWith
import Derived.Deep.RegionHeld3
import Derived.Deep.DeepCutAuto
import Derived.Deep.QuietTactic
import Derived.BigQuiet
import Derived.StillTailTactics
import Derived.BigRegion
namespace Go.Proofs.Ytmleopbelmibcaa
open Go.RowKit
set_option linter.unusedVariables false
set_option linter.unusedSimpArgs false
attribute [local go_sem] max2_int min2_int max_two min_two

set_option maxHeartbeats 4000000 in
theorem tiles_no (a b c d z : Int) (w : World) (z0 : 0 ≤ z) (z1 : z ≤ 16) (h : emptyB a b c d = false) :
    Calls Try.prog 26 #[.agg #[.int .i64 (a), .int .i64 (b), .int .i64 (c), .int .i64 (d)], .int .i64 z] w fun e w' => e = .returned (.agg #[.int .i64 (a / 2 ^ z.toNat / 16), .int .i64 (b / 2 ^ z.toNat / 16), .int .i64 (wrap64 (wrap64 (c - 1) / 2 ^ z.toNat / 16 + 1)), .int .i64 (wrap64 (wrap64 (d - 1) / 2 ^ z.toNat / 16 + 1))]) ∧ Below w.heap.size w w' := by
  go_enter Try.func26, Try.ntmps26
  go_upto_region 3 with (go_at_call 34; refine (empty_any _ _ _ _ _).mono ?_; rintro e w' ⟨rfl, hb⟩; obtain ⟨hc, hf⟩ := bcell hb; have hz := hb.size; (try simp only [World.size_alloc, World.size_setCell, World.size_drew] at hz); (first | (with_reducible have hl := lt_rule6 hz) | (with_reducible have hl := lt_rule5 hz) | (with_reducible have hl := lt_rule4 hz) | (with_reducible have hl := lt_rule3 hz) | (with_reducible have hl := lt_rule2 hz) | (with_reducible have hl := lt_rule1 hz) | have hl := lt_rule0 hz); (try (have hz0 : w.heap.size < w'.heap.size := by omega)); (try (have hz1 : w.heap.size + 1 < w'.heap.size := by omega)); (try (have hz2 : w.heap.size + 1 + 1 < w'.heap.size := by omega)); (try (have hz3 : w.heap.size + 1 + 1 + 1 < w'.heap.size := by omega)); (try (have hz4 : w.heap.size + 1 + 1 + 1 + 1 < w'.heap.size := by omega)))
  go_cut [5, 6] (fun s5 s6 W => ∃ g h : Nat, s5 = .pointer (some ⟨g, 0, none⟩) ∧ s6 = .pointer (some ⟨h, 0, none⟩) ∧ W.cell? ⟨g, 0, none⟩ = some (.int .i64 (a / 2 ^ z.toNat / 16)) ∧ W.cell? ⟨g, 1, none⟩ = some (.int .i64 (b / 2 ^ z.toNat / 16)) ∧ W.cell? ⟨h, 0, none⟩ = some (.int .i64 (wrap64 (c - 1) / 2 ^ z.toNat / 16)) ∧ W.cell? ⟨h, 1, none⟩ = some (.int .i64 (wrap64 (d - 1) / 2 ^ z.toNat / 16)) ∧ KP w' W ∧ Below w.heap.size w W)
  case first =>
    go_region_held3 (fun W => (∀ b o, b < w'.heap.size → W.cell? ⟨b, o, none⟩ = w'.cell? ⟨b, o, none⟩) ∧ (∀ b o, b < w'.heap.size → W.frozen? ⟨b, o, none⟩ = w'.frozen? ⟨b, o, none⟩) ∧ w'.heap.size ≤ W.heap.size ∧ Below w'.heap.size w' W)
      ((repeat' (first | (with_reducible exact kp_refl _) | (with_reducible assumption) | (with_reducible refine kp_set ?_ ?_ _) | (with_reducible refine kp_alloc ?_ _) | (with_reducible refine kp_drew ?_) | (with_reducible refine kp_below ?_ (by with_reducible assumption)) | go_size)))
      (first | (go_at_call 20; refine (tile_any _ _ _ _ z0 z1).mono ?_; rintro e w' ⟨rfl, hb⟩; obtain ⟨hc, hf⟩ := bcell hb; have hz := hb.size; (try simp only [World.size_alloc, World.size_setCell, World.size_drew] at hz); (first | (with_reducible have hl := lt_rule6 hz) | (with_reducible have hl := lt_rule5 hz) | (with_reducible have hl := lt_rule4 hz) | (with_reducible have hl := lt_rule3 hz) | (with_reducible have hl := lt_rule2 hz) | (with_reducible have hl := lt_rule1 hz) | have hl := lt_rule0 hz); (try (have hz0 : w.heap.size < w'.heap.size := by omega)); (try (have hz1 : w.heap.size + 1 < w'.heap.size := by omega)); (try (have hz2 : w.heap.size + 1 + 1 < w'.heap.size := by omega)); (try (have hz3 : w.heap.size + 1 + 1 + 1 < w'.heap.size := by omega)); (try (have hz4 : w.heap.size + 1 + 1 + 1 + 1 < w'.heap.size := by omega))))
    all_goals (go_wp2_with fail; go_meet)
    all_goals (refine ⟨_, _, rfl, rfl, ?_, ?_, ?_, ?_, ?_, ?_⟩ <;> first | (simp [i64_w]; done) | (simp (disch := first | omega | (simp only [World.size_alloc, World.size_setCell, World.size_drew] <;> omega) | (left; omega) | (right; omega)) [c_set_ne, c_alloc_lt, c_alloc_eq, c_drew, i64_w] <;> first | rfl | (simp [i64_w]; done)) | (simp (disch := first | omega | (simp only [World.size_alloc, World.size_setCell, World.size_drew] <;> omega) | (left; omega) | (right; omega) | (simp (disch := first | omega | (simp only [World.size_alloc, World.size_setCell, World.size_drew] <;> omega) | (left; omega) | (right; omega)) [c_set_ne, c_alloc_lt, c_alloc_eq, c_drew, *]; done)) [c_set_eq, c_set_ne, c_alloc_lt, c_alloc_eq, c_drew, i64_w, *] <;> first | rfl | (simp [i64_w]; done)) | ((repeat' (first | (with_reducible exact kp_refl _) | (with_reducible assumption) | (with_reducible refine kp_set ?_ ?_ _) | (with_reducible refine kp_alloc ?_ _) | (with_reducible refine kp_drew ?_) | (with_reducible refine kp_below ?_ (by with_reducible assumption)) | go_size)); done) | ((repeat' (first | (with_reducible exact Below.refl _ _) | (with_reducible assumption) | (with_reducible refine Below.setCell ?_ ?_ _) | (with_reducible refine Below.alloc ?_ ?_ _) | (with_reducible refine below_dn ?_ _) | (with_reducible refine below_call ?_ ?_ (by assumption)) | (with_reducible refine Below.drew ?_) | go_size)); done))
  case rest =>
    obtain ⟨g, h, rfl, rfl, h0, h1, h2, h3, ⟨hc, hf, hs, _⟩, hb⟩ := hcut
    go_wp2
    refine bodyPost_ret (by simp [results, Try.results26, go_sem, *]; rfl) rfl ?_
    exact ⟨rfl, by (repeat' (first | (with_reducible exact Below.refl _ _) | (with_reducible assumption) | (with_reducible refine Below.setCell ?_ ?_ _) | (with_reducible refine Below.alloc ?_ ?_ _) | (with_reducible refine below_dn ?_ _) | (with_reducible refine below_call ?_ ?_ (by assumption)) | (with_reducible refine Below.drew ?_) | go_size))⟩

theorem tiles_any (a b c d z : Int) (w : World) (hz : 0 ≤ z) (hz' : z ≤ 16) :
    Calls Try.prog 26 #[.agg #[.int .i64 (a), .int .i64 (b), .int .i64 (c), .int .i64 (d)], .int .i64 z] w fun e w' => e = .returned (.agg #[.int .i64 (tilesP 0 a b c d z), .int .i64 (tilesP 1 a b c d z), .int .i64 (tilesP 2 a b c d z), .int .i64 (tilesP 3 a b c d z)]) ∧ Below w.heap.size w w' := by
  have H : ∀ i, tilesP i a b c d z = if emptyB a b c d then 0 else match i with | 0 => a / 2 ^ z.toNat / 16 | 1 => b / 2 ^ z.toNat / 16 | 2 => wrap64 (wrap64 (c - 1) / 2 ^ z.toNat / 16 + 1) | _ => wrap64 (wrap64 (d - 1) / 2 ^ z.toNat / 16 + 1) := fun _ => rfl
  cases h : emptyB a b c d
  · rw [H, H, H, H, h]; exact tiles_no a b c d z w hz hz' h
  · rw [H, H, H, H, h]; clear H
    go_enter Try.func26, Try.ntmps26
    go_wp2_with (first | (go_at_call 34; refine (empty_any _ _ _ _ _).mono ?_; rintro e w' ⟨rfl, hb⟩; obtain ⟨hc, hf⟩ := bcell hb; have hz := hb.size; (try simp only [World.size_alloc, World.size_setCell, World.size_drew] at hz); (first | (with_reducible have hl := lt_rule6 hz) | (with_reducible have hl := lt_rule5 hz) | (with_reducible have hl := lt_rule4 hz) | (with_reducible have hl := lt_rule3 hz) | (with_reducible have hl := lt_rule2 hz) | (with_reducible have hl := lt_rule1 hz) | have hl := lt_rule0 hz); (try (have hz0 : w.heap.size < w'.heap.size := by omega)); (try (have hz1 : w.heap.size + 1 < w'.heap.size := by omega)); (try (have hz2 : w.heap.size + 1 + 1 < w'.heap.size := by omega)); (try (have hz3 : w.heap.size + 1 + 1 + 1 < w'.heap.size := by omega)); (try (have hz4 : w.heap.size + 1 + 1 + 1 + 1 < w'.heap.size := by omega))))
    refine bodyPost_ret (by simp [results, Try.results26, go_sem, *]; rfl) rfl ?_
    exact ⟨rfl, by (repeat' (first | (with_reducible exact Below.refl _ _) | (with_reducible assumption) | (with_reducible refine Below.setCell ?_ ?_ _) | (with_reducible refine Below.alloc ?_ ?_ _) | (with_reducible refine below_dn ?_ _) | (with_reducible refine below_call ?_ ?_ (by assumption)) | (with_reducible refine Below.drew ?_) | go_size))⟩
end Go.Proofs.Ytmleopbelmibcaa
