/- Contracts of the document's answer for layer 4, and of the chapter's example, over this seat's program. -/
import Derived.Test.YtmleopbelmibcaaProg
import Derived.Test.YtmleopbelmibcaaKit
import Derived.Test.YtmleopbelmibcaaGrid
namespace Go.Proofs.Ytmleopbelmibcaa
open Go.RowKit
set_option linter.unusedVariables false
set_option linter.unusedSimpArgs false

theorem refRight_any (n : Int) (w : World) :
    Calls Try.prog 36 #[.int .i64 n] w fun e w' => e = .returned (.bool (insB n)) ∧ w = w' := by
  cases h1 : decide (-2305843009213693952 < n) <;> cases h2 : decide (n < 2305843009213693952) <;>
  · go_enter Try.func36, Try.ntmps36
    go_wp2
    go_ret
    exact ⟨by simp only [insB, h1, h2]; rfl, rfl⟩

theorem floor_num (n s : Int) (hs : 0 < s) : (Int.tmod n s < 0 → n.tdiv s - 1 = n / s) ∧ (¬ Int.tmod n s < 0 → n.tdiv s = n / s) := by
  have e1 := Int.tmod_add_mul_tdiv n s
  have e2 := Int.emod_add_mul_ediv n s
  have m1 := Int.emod_nonneg n (show s ≠ 0 by omega)
  have m2 := Int.emod_lt_of_pos n hs
  have t1 : Int.tmod n s < s := Int.tmod_lt_of_pos n hs
  have t2 : -s < Int.tmod n s := Int.lt_tmod_of_pos n hs
  have key : ∀ (q : Int) (r : Int), r + s * q = n → 0 ≤ r → r < s → q = n / s := by
    intro q r h h0 h1
    rw [← h, Int.add_mul_ediv_left _ _ (show s ≠ 0 by omega), Int.ediv_eq_zero_of_lt h0 h1]; omega
  constructor
  · intro h
    refine key _ (Int.tmod n s + s) ?_ (by omega) (by omega)
    rw [Int.mul_sub]; omega
  · intro h
    exact key _ _ e1 (by omega) t1

theorem floor_any (n s : Int) (w : World) (hn : -9223372036854775807 ≤ n) (hn' : n ≤ 9223372036854775807) (hs : 16 ≤ s) (hs' : s ≤ 1048576) :
    Calls Try.prog 22 #[.int .i64 n, .int .i64 s] w fun e w' => e = .returned (.int .i64 (n / s)) ∧ w = w' := by
  have h0 : ¬ s = 0 := by omega
  have k := floor_num n s (by omega)
  have hq : -9223372036854775807 ≤ n.tdiv s ∧ n.tdiv s ≤ 9223372036854775807 := by
    have a : (n.tdiv s).natAbs = n.natAbs / s.natAbs := Int.natAbs_tdiv n s
    have b := Nat.div_le_self n.natAbs s.natAbs
    clear k
    generalize n.natAbs / s.natAbs = r at *
    generalize n.tdiv s = q at *
    omega
  have hq2 : n.tmod s < 0 → -9223372036854775807 ≤ n.tdiv s - 1 := by
    intro h
    rw [k.1 h]
    have e := Int.emod_add_mul_ediv n s
    have m1 := Int.emod_nonneg n h0
    have m2 := Int.emod_lt_of_pos n (show 0 < s by omega)
    by_cases hneg : n / s < 0
    · have m := Int.mul_le_mul_of_nonpos_right (a := s) (b := 16) (c := n / s) (by omega) (by omega)
      clear k hq
      generalize n / s = q at *
      generalize s * q = r at *
      omega
    · omega
  have K := Lib.hid k
  have HQ := Lib.hid hq
  have HQ2 := Lib.hid hq2
  clear k hq hq2
  have HN := Lib.hid (And.intro hn hn')
  clear hn hn'
  by_cases h : n.tmod s < 0
  · go_enter Try.func22, Try.ntmps22
    go_wp2
    go_ret
    refine ⟨ret_int ?_, rfl⟩
    have a := HQ.out
    have b := HQ2.out h
    have c := K.out.1 h
    rw [w64 (n := n.tdiv s) (by omega) (by omega), w64 (by omega) (by omega), c]
  · go_enter Try.func22, Try.ntmps22
    go_wp2
    go_ret
    refine ⟨ret_int ?_, rfl⟩
    have a := HQ.out
    have c := K.out.2 h
    rw [w64 (n := n.tdiv s) (by omega) (by omega), c]

theorem pow_step (z k : Nat) (hz : z ≤ 16) (h : k < z) : wrap64 (16 * 2 ^ k * 2) = ((16 * 2 ^ (k + 1) : Nat) : Int) := by
  have a := Nat.pow_le_pow_right (n := 2) (by decide) (show k ≤ 15 by omega)
  have e : ((2 ^ k : Nat) : Int) = (2 : Int) ^ k := by simp
  rw [← e, Nat.pow_succ]
  generalize 2 ^ k = s at *
  rw [w64 (by omega) (by omega)]
  omega

theorem side_any (z : Nat) (w : World) (hz : z ≤ 16) :
    Calls Try.prog 19 #[.int .i64 z] w fun e w' => e = .returned (.int .i64 (16 * 2 ^ z : Nat)) ∧ w = w' := by
  go_enter Try.func19, Try.ntmps19
  go_wp2
  go_loop [3, 4] (fun n i => ∃ k : Nat, k ≤ z ∧ i = .int .i64 k ∧ n = .int .i64 (16 * 2 ^ k : Nat)) (fun _ i => z - (intOf i).toNat)
  case atStart => exact ⟨0, Nat.zero_le _, rfl, rfl⟩
  case round =>
    obtain ⟨k, hk, rfl, rfl⟩ := hrel
    by_cases hlt : k < z
    · go_wp2
      have hp := pow_step z k hz hlt
      exact ⟨⟨k + 1, by omega, by go_num, by rw [hp]⟩, by simp [intOf]; omega⟩
    · go_wp2
      go_ret
      exact ⟨ret_int (by rw [show k = z by omega]), rfl⟩

def lineA (a c : Int) : Int := if a < c then c else a
def lineB (b d : Int) : Int := if d < b then d else b
theorem line_any (a b c d : Int) (w : World) :
    Calls Try.prog 30 #[.int .i64 a, .int .i64 b, .int .i64 c, .int .i64 d] w fun e w' => e = .returned (.tuple #[.int .i64 (lineA a c), .int .i64 (lineB b d)]) ∧ w = w' := by
  by_cases h1 : a < c <;> by_cases h2 : d < b <;>
  · have e1 : lineA a c = if a < c then c else a := rfl
    have e2 : lineB b d = if d < b then d else b := rfl
    simp only [h1, h2, if_true, if_false] at e1 e2
    rw [e1, e2]
    clear e1 e2
    go_enter Try.func30, Try.ntmps30
    go_wp2
    go_ret2
    exact ⟨rfl, rfl⟩

theorem lives4 (w : World) :
    Calls Try.prog 14 #[] w fun e w' => e = .returned (.bool true) ∧ Below w.heap.size w w' := by
  have q := eq_pt
  go_enter Try.func14, Try.ntmps14
  go_wp2_with (first | (go_at_call 20; refine (tile_any _ _ _ _ (by decide) (by decide)).mono ?_; rintro e w' ⟨rfl, hb⟩; obtain ⟨hc, hf⟩ := bcell hb; have hz := hb.size; (try simp only [World.size_alloc, World.size_setCell, World.size_drew] at hz); (first | (with_reducible have hl := lt_rule6 hz) | (with_reducible have hl := lt_rule5 hz) | (with_reducible have hl := lt_rule4 hz) | (with_reducible have hl := lt_rule3 hz) | (with_reducible have hl := lt_rule2 hz) | (with_reducible have hl := lt_rule1 hz) | have hl := lt_rule0 hz); (try (have hz0 : w.heap.size < w'.heap.size := by omega)); (try (have hz1 : w.heap.size + 1 < w'.heap.size := by omega)); (try (have hz2 : w.heap.size + 1 + 1 < w'.heap.size := by omega)); (try (have hz3 : w.heap.size + 1 + 1 + 1 < w'.heap.size := by omega)); (try (have hz4 : w.heap.size + 1 + 1 + 1 + 1 < w'.heap.size := by omega))) | (go_at_call 37; refine (rright_any _ _ _ _ _).mono ?_; rintro e w' ⟨rfl, hb⟩; obtain ⟨hc, hf⟩ := bcell hb; have hz := hb.size; (try simp only [World.size_alloc, World.size_setCell, World.size_drew] at hz); (first | (with_reducible have hl := lt_rule6 hz) | (with_reducible have hl := lt_rule5 hz) | (with_reducible have hl := lt_rule4 hz) | (with_reducible have hl := lt_rule3 hz) | (with_reducible have hl := lt_rule2 hz) | (with_reducible have hl := lt_rule1 hz) | have hl := lt_rule0 hz); (try (have hz0 : w.heap.size < w'.heap.size := by omega)); (try (have hz1 : w.heap.size + 1 < w'.heap.size := by omega)); (try (have hz2 : w.heap.size + 1 + 1 < w'.heap.size := by omega)); (try (have hz3 : w.heap.size + 1 + 1 + 1 < w'.heap.size := by omega)); (try (have hz4 : w.heap.size + 1 + 1 + 1 + 1 < w'.heap.size := by omega))))
  go_ret
  exact ⟨ret_bool (by decide +kernel), by (repeat' (first | (with_reducible exact Below.refl _ _) | (with_reducible assumption) | (with_reducible refine Below.setCell ?_ ?_ _) | (with_reducible refine Below.alloc ?_ ?_ _) | (with_reducible refine below_dn ?_ _) | (with_reducible refine below_call ?_ ?_ (by assumption)) | (with_reducible refine Below.drew ?_) | go_size))⟩
end Go.Proofs.Ytmleopbelmibcaa
