/- Plain law of four by four cells: what is read is what was made, and the middle's next generation by the reference. -/
import Derived.Test.YtjiliiclebdbfaaBaseR
import Derived.Test.YtjiliiclebdbfaaRef7N
namespace Go.Proofs.Ytjiliiclebdbfaa
open Go.RowKit
set_option linter.unusedVariables false
set_option linter.unusedSimpArgs false

theorem rdJ_bit (K : Nat → Nat → Nat) (i m : Nat) : ∀ j f, (rdJ K i j f).testBit m = true ↔ f.testBit m = true ∨ ∃ j', j' < j ∧ bitAt i j' = m ∧ K i j' = 1 := by
  intro j
  induction j with
  | zero => intro f; exact ⟨.inl, fun h => h.elim id (fun ⟨j', h, _⟩ => absurd h (by omega))⟩
  | succ j ih =>
    intro f
    unfold rdJ
    by_cases hk : K i j = 1
    · rw [if_pos hk, Nat.testBit_or, Bool.or_eq_true, ih, Nat.testBit_two_pow, decide_eq_true_eq]
      constructor
      · rintro ((h | ⟨j', h1, h2⟩) | h)
        · exact .inl h
        · exact .inr ⟨j', by omega, h2⟩
        · exact .inr ⟨j, by omega, h, hk⟩
      · rintro (h | ⟨j', h1, h2, h3⟩)
        · exact .inl (.inl h)
        · by_cases e : j' = j
          · subst e; exact .inr h2
          · exact .inl (.inr ⟨j', by omega, h2, h3⟩)
    · rw [if_neg hk, ih]
      constructor
      · rintro (h | ⟨j', h1, h2⟩)
        · exact .inl h
        · exact .inr ⟨j', by omega, h2⟩
      · rintro (h | ⟨j', h1, h2, h3⟩)
        · exact .inl h
        · by_cases e : j' = j
          · subst e; exact absurd h3 hk
          · exact .inr ⟨j', by omega, h2, h3⟩
theorem rdI_bit (K : Nat → Nat → Nat) (m : Nat) : ∀ i, (rdI K i).testBit m = true ↔ ∃ i' j, i' < i ∧ j < 4 ∧ bitAt i' j = m ∧ K i' j = 1 := by
  intro i
  induction i with
  | zero => exact ⟨fun h => by simp [rdI] at h, fun ⟨i', _, h, _⟩ => absurd h (by omega)⟩
  | succ i ih =>
    show (rdJ K i 4 (rdI K i)).testBit m = true ↔ _
    rw [rdJ_bit, ih]
    constructor
    · rintro (⟨i', j, h1, h2⟩ | ⟨j, h1, h2⟩)
      · exact ⟨i', j, by omega, h2⟩
      · exact ⟨i, j, by omega, h1, h2⟩
    · rintro ⟨i', j, h1, h2, h3⟩
      by_cases e : i' = i
      · subst e; exact .inr ⟨j, h2, h3⟩
      · exact .inl ⟨i', j, by omega, h2, h3⟩
theorem cellB_bit (f : Nat) (x y : Nat) : cellB f x y = f.testBit (4 * y + x) := by
  unfold cellB
  rw [Nat.testBit_eq_decide_div_mod_eq, show (4 * (y : Int) + (x : Int)).toNat = 4 * y + x by omega]
  rfl
/-- What is read of a square is the number whose cells it has. -/
theorem read_back {ns : List Nd} {x f : Nat} (hf : f < 65536) (hc : ∀ px py, px < 2 ^ 2 → py < 2 ^ 2 → cellN ns 2 x px py = cellB f px py) : readN ns x = f := by
  have hK : ∀ i j, i < 4 → j < 4 → (leafN ns x i j = 1 ↔ f.testBit (bitAt i j) = true) := fun i j hi hj => by
    have e : cellN ns 2 x (2 * (i % 2) + j % 2) (2 * (i / 2) + j / 2) = decide (leafN ns x i j = 1) := by
      have h : i = 0 ∨ i = 1 ∨ i = 2 ∨ i = 3 := by omega
      have k : j = 0 ∨ j = 1 ∨ j = 2 ∨ j = 3 := by omega
      rcases h with rfl | rfl | rfl | rfl <;> rcases k with rfl | rfl | rfl | rfl <;> rfl
    rw [hc _ _ (by omega) (by omega), cellB_bit] at e
    have e2 : 4 * (2 * (i / 2) + j / 2) + (2 * (i % 2) + j % 2) = bitAt i j := by unfold bitAt; omega
    rw [e2] at e
    rw [e, decide_eq_true_eq]
  apply Nat.eq_of_testBit_eq
  intro m
  rw [Bool.eq_iff_iff]
  unfold readN
  rw [rdI_bit]
  constructor
  · rintro ⟨i, j, h1, h2, h3, h4⟩
    rw [← h3]
    exact (hK i j h1 h2).1 h4
  · intro h
    have hm : m < 16 := by
      apply Classical.byContradiction
      intro hn
      rw [Nat.testBit_lt_two_pow (Nat.lt_of_lt_of_le (show f < 2 ^ 16 from hf) (Nat.pow_le_pow_right (by omega) (by omega)))] at h
      cases h
    have hb : bitAt (2 * (m / 8) + m % 4 / 2) (2 * (m / 4 % 2) + m % 2) = m := by unfold bitAt; omega
    exact ⟨2 * (m / 8) + m % 4 / 2, 2 * (m / 4 % 2) + m % 2, by omega, by omega, hb, (hK _ _ (by omega) (by omega)).2 (by rw [hb]; exact h)⟩
/-- The points of four by four cells, the first n of them. -/
def cellsL (f : Nat) : Nat → List Pn
  | 0 => []
  | n + 1 => if f.testBit n = true then cellsL f n ++ [((n : Int) % 4, (n : Int) / 4)] else cellsL f n
theorem cellsL_mem (f : Nat) (X Y : Int) : ∀ n, (X, Y) ∈ cellsL f n ↔ ∃ m, m < n ∧ f.testBit m = true ∧ X = (m : Int) % 4 ∧ Y = (m : Int) / 4 := by
  intro n
  induction n with
  | zero => exact ⟨fun h => absurd h (by unfold cellsL; simp), fun ⟨m, h, _⟩ => absurd h (by omega)⟩
  | succ n ih =>
    unfold cellsL
    by_cases hb : f.testBit n = true
    · rw [if_pos hb, List.mem_append, ih, List.mem_singleton, Prod.mk.injEq]
      constructor
      · rintro (⟨m, h1, h2⟩ | ⟨h1, h2⟩)
        · exact ⟨m, by omega, h2⟩
        · exact ⟨n, by omega, hb, h1, h2⟩
      · rintro ⟨m, h1, h2, h3⟩
        by_cases e : m = n
        · subst e; exact .inr h3
        · exact .inl ⟨m, by omega, h2, h3⟩
    · rw [if_neg hb, ih]
      constructor
      · rintro ⟨m, h1, h2⟩
        exact ⟨m, by omega, h2⟩
      · rintro ⟨m, h1, h2, h3⟩
        by_cases e : m = n
        · subst e; exact absurd h2 hb
        · exact ⟨m, by omega, h2, h3⟩
theorem cellsL_len (f : Nat) : ∀ n, (cellsL f n).length ≤ n := by
  intro n
  induction n with
  | zero => exact Nat.le_refl _
  | succ n ih =>
    show (if f.testBit n = true then cellsL f n ++ [((n : Int) % 4, (n : Int) / 4)] else cellsL f n).length ≤ n + 1
    split
    · rw [List.length_append, List.length_singleton]; omega
    · omega
theorem cells_at (f : Nat) (x y : Nat) (hx : x < 4) (hy : y < 4) : decide (((x : Int), (y : Int)) ∈ cellsL f 16) = cellB f x y := by
  rw [cellB_bit, Bool.eq_iff_iff, decide_eq_true_eq, cellsL_mem]
  constructor
  · rintro ⟨m, h1, h2, h3, h4⟩
    rw [show 4 * y + x = m by omega]
    exact h2
  · intro h
    exact ⟨4 * y + x, by omega, h, by omega, by omega⟩
def bN (f n : Nat) : Nat := (f.testBit n).toNat
theorem cnt_cells (f : Nat) (p : Pn) : ∀ n, ((cellsL f n).filter (nearB p)).length = ((List.range n).map fun m => bN f m * if nearB p ((m : Int) % 4, (m : Int) / 4) = true then 1 else 0).sum := by
  intro n
  induction n with
  | zero => rfl
  | succ n ih =>
    rw [List.range_succ, List.map_append, List.sum_append, ← ih]
    show ((if f.testBit n = true then cellsL f n ++ [((n : Int) % 4, (n : Int) / 4)] else cellsL f n).filter (nearB p)).length = _
    by_cases hb : f.testBit n = true
    · rw [if_pos hb, List.filter_append, List.length_append]
      have hbn : bN f n = 1 := by unfold bN; rw [hb]; rfl
      by_cases hn : nearB p ((n : Int) % 4, (n : Int) / 4) = true
      · simp [hn, hbn]
      · simp [hn]
    · rw [if_neg hb]
      have hbn : bN f n = 0 := by unfold bN; simp only [Bool.not_eq_true] at hb; rw [hb]; rfl
      simp [hbn]
theorem ones9 : ∀ m : Fin 2048, onesB (m.val &&& 1911) = bN m.val 0 + bN m.val 1 + bN m.val 2 + bN m.val 4 + bN m.val 5 + bN m.val 6 + bN m.val 8 + bN m.val 9 + bN m.val 10 := by decide +kernel
theorem and_low (x : Nat) : x &&& 1911 = x % 2048 &&& 1911 := by
  apply Nat.eq_of_testBit_eq
  intro m
  rw [Nat.testBit_and, Nat.testBit_and, show (2048 : Nat) = 2 ^ 11 from rfl, Nat.testBit_mod_two_pow]
  by_cases h : m < 11
  · simp [h]
  · have : Nat.testBit 1911 m = false := Nat.testBit_lt_two_pow (Nat.lt_of_lt_of_le (show 1911 < 2 ^ 11 by decide) (Nat.pow_le_pow_right (by omega) (by omega)))
    simp [this]
theorem bN_low (f s k : Nat) (hk : k < 11) : bN (f / 2 ^ s % 2048) k = bN f (s + k) := by
  unfold bN
  rw [show (2048 : Nat) = 2 ^ 11 from rfl, Nat.testBit_mod_two_pow, ← Nat.shiftRight_eq_div_pow, Nat.testBit_shiftRight]
  simp [hk]
theorem nine_bits (f s : Nat) : onesB ((f / 2 ^ s) &&& 1911) = bN f s + bN f (s + 1) + bN f (s + 2) + bN f (s + 4) + bN f (s + 5) + bN f (s + 6) + bN f (s + 8) + bN f (s + 9) + bN f (s + 10) := by
  rw [and_low]
  have := ones9 ⟨f / 2 ^ s % 2048, Nat.mod_lt _ (by omega)⟩
  simp only at this
  rw [this]
  simp only [bN_low f s _ (show 0 < 11 by omega), bN_low f s _ (show 1 < 11 by omega), bN_low f s _ (show 2 < 11 by omega), bN_low f s _ (show 4 < 11 by omega), bN_low f s _ (show 5 < 11 by omega), bN_low f s _ (show 6 < 11 by omega), bN_low f s _ (show 8 < 11 by omega), bN_low f s _ (show 9 < 11 by omega), bN_low f s _ (show 10 < 11 by omega), Nat.add_zero]
theorem cell_bN (f x y : Nat) : cellB f x y = decide (bN f (4 * y + x) = 1) := by
  rw [cellB_bit]
  unfold bN
  cases f.testBit (4 * y + x) <;> rfl
/-- The cells in the middle, one generation later: by the reference just those of Inner. -/
theorem inner_rule (f i : Nat) (hi : i < 4) : decide ((((1 + i % 2 : Nat) : Int), ((1 + i / 2 : Nat) : Int)) ∈ nextP (cellsL f 16)) = innerB f i := by
  have h1 : (decide ((((1 + i % 2 : Nat) : Int), ((1 + i / 2 : Nat) : Int)) ∈ nextP (cellsL f 16))) = ruleP (cellsL f 16) (((1 + i % 2 : Nat) : Int), ((1 + i / 2 : Nat) : Int)) := by
    rw [Bool.eq_iff_iff, decide_eq_true_eq, nextP_mem]
  rw [h1]
  have hal := cells_at f (1 + i % 2) (1 + i / 2) (by omega) (by omega)
  have hcnt : cntTo (cellsL f 16) (((1 + i % 2 : Nat) : Int), ((1 + i / 2 : Nat) : Int)) (cellsL f 16).length + (if cellB f (1 + i % 2 : Nat) (1 + i / 2 : Nat) = true then 1 else 0) = nineB f i := by
    unfold cntTo nineB
    rw [List.take_length, cnt_cells, nine_bits, cell_bN]
    have hle : ∀ n, bN f n ≤ 1 := fun n => by unfold bN; cases f.testBit n <;> decide
    have hif : ∀ n, (if decide (bN f n = 1) = true then 1 else 0) = bN f n := fun n => by
      have := hle n
      split
      · rename_i h; simp at h; omega
      · rename_i h; simp at h; omega
    rw [hif]
    have h : i = 0 ∨ i = 1 ∨ i = 2 ∨ i = 3 := by omega
    rcases h with rfl | rfl | rfl | rfl
    all_goals
      simp [List.range, List.range.loop, nearB]
      omega
  unfold ruleP innerB ruleB
  rw [hal]
  generalize cntTo (cellsL f 16) (((1 + i % 2 : Nat) : Int), ((1 + i / 2 : Nat) : Int)) (cellsL f 16).length = n at *
  rw [← hcnt]
  cases cellB f (1 + i % 2 : Nat) (1 + i / 2 : Nat)
  · simp
    rw [Bool.eq_iff_iff]; simp; omega
  · simp
    rw [Bool.eq_iff_iff]; simp; omega
end Go.Proofs.Ytjiliiclebdbfaa
