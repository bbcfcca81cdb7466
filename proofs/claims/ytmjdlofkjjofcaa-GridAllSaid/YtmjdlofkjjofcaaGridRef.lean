/- Contracts of the document's answer for layer 4, and of the chapter's example, over this seat's program. -/
import Derived.Test.YtmjdlofkjjofcaaProg
import Derived.Test.YtmjdlofkjjofcaaKit
import Derived.Test.YtmjdlofkjjofcaaGrid
namespace Go.Proofs.Ytmjdlofkjjofcaa
open Go.RowKit
set_option linter.unusedVariables false
set_option linter.unusedSimpArgs false

theorem refRight_any (n : Int) (w : World) :
    Calls Try.prog 22 #[.int .i64 n] w fun e w' => e = .returned (.bool (insB n)) ∧ w = w' := by
  cases h1 : decide (-2305843009213693952 < n) <;> cases h2 : decide (n < 2305843009213693952) <;>
  · go_enter Try.func22, Try.ntmps22
    go_wp2
    go_ret
    exact ⟨by simp only [insB, h1, h2]; rfl, rfl⟩

theorem floor_num (n s : Int) (hs : 0 < s) : (Int.tmod n s < 0 → n.tdiv s - 1 = n / s) ∧ (¬ Int.tmod n s < 0 → n.tdiv s = n / s) := by
  have e1 := Int.tmod_add_mul_tdiv n s
  have e2 := Int.emod_add_mul_ediv n s
  have m1 := Int.emod_nonneg n (show s ≠ 0 by omega)
  have m2 := Int.emod_lt_of_pos n hs
  have t1 : Int.tmod n s < s := Int.tmod_lt_of_pos n hs
  have t2 : -s < Int.tmod n s := Int.lt_tmod_of_pos n hs
  have key : ∀ (q : Int) (r : Int), r + s * q = n → 0 ≤ r → r < s → q = n / s := by
    intro q r h h0 h1
    rw [← h, Int.add_mul_ediv_left _ _ (show s ≠ 0 by omega), Int.ediv_eq_zero_of_lt h0 h1]; omega
  constructor
  · intro h
    refine key _ (Int.tmod n s + s) ?_ (by omega) (by omega)
    rw [Int.mul_sub]; omega
  · intro h
    exact key _ _ e1 (by omega) t1


theorem pow_step (z k : Nat) (hz : z ≤ 16) (h : k < z) : wrap64 (16 * 2 ^ k * 2) = ((16 * 2 ^ (k + 1) : Nat) : Int) := by
  have a := Nat.pow_le_pow_right (n := 2) (by decide) (show k ≤ 15 by omega)
  have e : ((2 ^ k : Nat) : Int) = (2 : Int) ^ k := by simp
  rw [← e, Nat.pow_succ]
  generalize 2 ^ k = s at *
  rw [w64 (by omega) (by omega)]
  omega


def lineA (a c : Int) : Int := if a < c then c else a
def lineB (b d : Int) : Int := if d < b then d else b
theorem line_any (a b c d : Int) (w : World) :
    Calls Try.prog 13 #[.int .i64 a, .int .i64 b, .int .i64 c, .int .i64 d] w fun e w' => e = .returned (.tuple #[.int .i64 (lineA a c), .int .i64 (lineB b d)]) ∧ w = w' := by
  by_cases h1 : a < c <;> by_cases h2 : d < b <;>
  · have e1 : lineA a c = if a < c then c else a := rfl
    have e2 : lineB b d = if d < b then d else b := rfl
    simp only [h1, h2, if_true, if_false] at e1 e2
    rw [e1, e2]
    clear e1 e2
    go_enter Try.func13, Try.ntmps13
    go_wp2
    go_ret2
    exact ⟨rfl, rfl⟩

theorem lives4 (w : World) :
    Calls Try.prog 10 #[] w fun e w' => e = .returned (.bool true) ∧ Below w.heap.size w w' := by
  have q := eq_pt
  go_enter Try.func10, Try.ntmps10
  go_wp2_with (first | (go_at_call 72; refine (tile_any _ _ _ _ (by decide) (by decide)).mono ?_; rintro e w' ⟨rfl, hb⟩; obtain ⟨hc, hf⟩ := bcell hb; have hz := hb.size; (try simp only [World.size_alloc, World.size_setCell, World.size_drew] at hz); (first | (with_reducible have hl := lt_rule6 hz) | (with_reducible have hl := lt_rule5 hz) | (with_reducible have hl := lt_rule4 hz) | (with_reducible have hl := lt_rule3 hz) | (with_reducible have hl := lt_rule2 hz) | (with_reducible have hl := lt_rule1 hz) | have hl := lt_rule0 hz); (try (have hz0 : w.heap.size < w'.heap.size := by omega)); (try (have hz1 : w.heap.size + 1 < w'.heap.size := by omega)); (try (have hz2 : w.heap.size + 1 + 1 < w'.heap.size := by omega)); (try (have hz3 : w.heap.size + 1 + 1 + 1 < w'.heap.size := by omega)); (try (have hz4 : w.heap.size + 1 + 1 + 1 + 1 < w'.heap.size := by omega))) | (go_at_call 23; refine (rright_any _ _ _ _ _).mono ?_; rintro e w' ⟨rfl, hb⟩; obtain ⟨hc, hf⟩ := bcell hb; have hz := hb.size; (try simp only [World.size_alloc, World.size_setCell, World.size_drew] at hz); (first | (with_reducible have hl := lt_rule6 hz) | (with_reducible have hl := lt_rule5 hz) | (with_reducible have hl := lt_rule4 hz) | (with_reducible have hl := lt_rule3 hz) | (with_reducible have hl := lt_rule2 hz) | (with_reducible have hl := lt_rule1 hz) | have hl := lt_rule0 hz); (try (have hz0 : w.heap.size < w'.heap.size := by omega)); (try (have hz1 : w.heap.size + 1 < w'.heap.size := by omega)); (try (have hz2 : w.heap.size + 1 + 1 < w'.heap.size := by omega)); (try (have hz3 : w.heap.size + 1 + 1 + 1 < w'.heap.size := by omega)); (try (have hz4 : w.heap.size + 1 + 1 + 1 + 1 < w'.heap.size := by omega))))
  go_ret
  exact ⟨ret_bool (by decide +kernel), by (repeat' (first | (with_reducible exact Below.refl _ _) | (with_reducible assumption) | (with_reducible refine Below.setCell ?_ ?_ _) | (with_reducible refine Below.alloc ?_ ?_ _) | (with_reducible refine below_dn ?_ _) | (with_reducible refine below_call ?_ ?_ (by assumption)) | (with_reducible refine Below.drew ?_) | go_size))⟩
end Go.Proofs.Ytmjdlofkjjofcaa
