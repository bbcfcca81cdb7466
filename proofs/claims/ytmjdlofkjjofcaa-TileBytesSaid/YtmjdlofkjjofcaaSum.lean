/- Contracts of package sum over this seat's program. -/
import Derived.Test.YtmjdlofkjjofcaaProg
import Derived.Test.YtmjdlofkjjofcaaKit
import Derived.Test.YtmjdlofkjjofcaaSumV
import Derived.Laws.BitsAllLaws
import Derived.Deep.QuietTactic
import Derived.BigQuiet
namespace Go.Proofs.Ytmjdlofkjjofcaa
open Go.RowKit
set_option linter.unusedVariables false
set_option linter.unusedSimpArgs false
attribute [local go_sem] max2_int min2_int max_two min_two

theorem v_lt (x : V) : x.toNat < 4294967296 := x.isLt
theorem xor_u32 (x y : V) : bits BinOp.xor IntKind.u32 (x.toNat : Int) (y.toNat : Int) = ((x ^^^ y).toNat : Int) := by
  rw [u32_xor_nat _ _ (v_lt x) (v_lt y), BitVec.toNat_xor]
theorem top_u32 (x : V) : bits BinOp.and IntKind.u32 (x.toNat : Int) 2147483648 = if x.msb then 2147483648 else 0 := by
  have h := u32_and_nat x.toNat 2147483648 (v_lt x) (by omega)
  rw [show ((2147483648 : Nat) : Int) = 2147483648 from rfl] at h
  rw [h]
  have e : x.toNat &&& 2147483648 = if x.msb then 2147483648 else 0 := by
    have hx := v_lt x
    rw [BitVec.msb_eq_decide]
    apply Nat.eq_of_testBit_eq
    intro i
    rw [Nat.testBit_and, show (2147483648 : Nat) = 2 ^ 31 from rfl, Nat.testBit_two_pow]
    by_cases hi : 31 = i
    · subst hi
      by_cases hb : 2 ^ 31 ≤ x.toNat
      · have : x.toNat.testBit 31 = true := by
          rw [Nat.testBit_eq_decide_div_mod_eq]
          simp only [decide_eq_true_eq]
          omega
        simp only [hb, this, decide_true, Bool.and_self, if_true]; decide
      · have : x.toNat.testBit 31 = false := Nat.testBit_lt_two_pow (by omega)
        simp [hb, this]
    · simp only [hi, decide_false, Bool.and_false]
      split
      · rw [Nat.testBit_two_pow]; simp [hi]
      · simp
  rw [e]
  split <;> rfl
theorem shl1_u32 (x : V) : (Int.ofNat x.toNat) * (2 : Int) % (4294967296 : Int) = Int.ofNat (x <<< 1).toNat := by
  rw [BitVec.toNat_shiftLeft, Nat.shiftLeft_eq]
  simp only [Int.ofNat_eq_natCast]
  omega

theorem turn_any (x : V) (w : World) :
    Calls Try.prog 103 #[.int .u32 x.toNat] w fun e w' => e = .returned (.int .u32 (turnV x).toNat) ∧ w = w' := by
  have hA := top_u32 x
  cases hm : x.msb
  · rw [hm] at hA
    simp only [Bool.false_eq_true, if_false] at hA
    go_enter Try.func103, Try.ntmps103
    go_wp2
    go_ret
    refine ⟨ret_int ?_, rfl⟩
    unfold turnV
    rw [hm]
    exact shl1_u32 x
  · rw [hm] at hA
    simp only [if_true] at hA
    go_enter Try.func103, Try.ntmps103
    go_wp2
    go_ret
    refine ⟨ret_int ?_, rfl⟩
    unfold turnV
    rw [hm]
    have h1 := shl1_u32 x
    simp only [Int.ofNat_eq_natCast] at h1
    rw [h1]
    exact xor_u32 (x <<< 1) polyV

theorem bit_u32 (b : V) (k : Nat) (hk : k < 32) : bits BinOp.and IntKind.u32 ((b.toNat : Int) / 2 ^ k) 1 = if b.getLsbD k then 1 else 0 := by
  have h1 : ((b.toNat / 2 ^ k : Nat) : Int) = (b.toNat : Int) / 2 ^ k := by simp
  have h2 : b.toNat / 2 ^ k < 4294967296 := Nat.lt_of_le_of_lt (Nat.div_le_self _ _) (v_lt b)
  have h := u32_and_nat (b.toNat / 2 ^ k) 1 h2 (by omega)
  rw [show ((1 : Nat) : Int) = 1 from rfl] at h
  rw [← h1, h, Nat.and_one_is_mod]
  have e : b.getLsbD k = decide (b.toNat / 2 ^ k % 2 = 1) := by
    rw [← BitVec.testBit_toNat, Nat.testBit_eq_decide_div_mod_eq]
  rw [e]
  by_cases hb : b.toNat / 2 ^ k % 2 = 1
  · simp [hb]
  · have : b.toNat / 2 ^ k % 2 = 0 := by omega
    simp [this]

theorem timesK_step (a b n : V) (k : Nat) : timesK a b (k + 1) n = timesK a b k (turnV n ^^^ (if b.getLsbD k then a else 0)) := rfl

set_option maxHeartbeats 400000 in
theorem times_any (a b : V) (w : World) :
    Calls Try.prog 104 #[.int .u32 a.toNat, .int .u32 b.toNat] w fun e w' => e = .returned (.int .u32 (timesV a b).toNat) ∧ w = w' := by
  go_enter Try.func104, Try.ntmps104
  go_wp2_with fail
  go_loop [5, 6] (fun n i => ∃ (k : Nat) (m : V), k ≤ 32 ∧ i = .int .i64 ((k : Int) - 1) ∧ n = .int .u32 m.toNat ∧ Hid (timesV a b = timesK a b k m)) (fun _ i => (intOf i + 1).toNat)
  case atStart => exact ⟨32, 0, by omega, rfl, rfl, rfl⟩
  case round =>
    obtain ⟨k, m, hk, rfl, rfl, hr⟩ := hrel
    cases k with
    | zero =>
      go_wp2
      go_ret
      refine ⟨ret_int ?_, rfl⟩
      rw [hr.out]
      rfl
    | succ k =>
      have e1 : ((k + 1 : Nat) : Int) - 1 = k := by omega
      have hb := bit_u32 b k (by omega)
      have hm : min k 32 = k := by omega
      have hk0 : (0 : Int) ≤ k := by omega
      rw [e1]
      have hr' : Hid (timesV a b = timesK a b k (turnV m ^^^ (if b.getLsbD k then a else 0))) := hr
      clear hr e1
      cases hc : b.getLsbD k
      · rw [hc] at hb hr'
        simp only [Bool.false_eq_true, if_false] at hb hr'
        go_wp2_with (go_at_call 103; refine (turn_any _ _).mono ?_; rintro e w' ⟨rfl, rfl⟩)
        exact ⟨⟨k, turnV m, by omega, rfl, rfl, Lib.hid (by have := hr'.out; simpa using this)⟩, by simp [intOf]⟩
      · rw [hc] at hb hr'
        simp only [if_true] at hb hr'
        go_wp2_with (go_at_call 103; refine (turn_any _ _).mono ?_; rintro e w' ⟨rfl, rfl⟩)
        exact ⟨⟨k, turnV m ^^^ a, by omega, rfl, by rw [xor_u32], hr'⟩, by simp [intOf]⟩

theorem and1_i64 (j : Nat) (h : j ≤ 9223372036854775807) : bits BinOp.and IntKind.i64 (j : Int) 1 = ((j % 2 : Nat) : Int) := by
  have h1 := bits_mask .i64 63 (by decide) (fun n h h' => by rw [IntKind.wrap_i64]; omega) 1 (by decide) (j : Int) (by omega) (by omega)
  rw [show ((2 : Int) ^ 1 - 1) = 1 from rfl, show ((2 : Int) ^ 1) = 2 from rfl] at h1
  rw [h1]
  omega

theorem times_nat (x y : Nat) (a b : V) (hx : a.toNat = x) (hy : b.toNat = y) (w : World) :
    Calls Try.prog 104 #[.int .u32 x, .int .u32 y] w fun e w' => e = .returned (.int .u32 (timesV a b).toNat) ∧ w = w' := by
  subst hx hy; exact times_any a b w

theorem sq_pow (m : Nat) : Value.int IntKind.u32 ((timesV (turnK m 1) (turnK m 1)).toNat : Int) = Value.int IntKind.u32 ((turnK (m + m) 1).toNat : Int) := by
  rw [times_pow (turnK m 1) m, ← turnK_add]

set_option maxHeartbeats 400000 in
theorem shifted_any (n : V) (k : Nat) (hk : k < 9223372036854775808) (w : World) :
    Calls Try.prog 78 #[.int .u32 n.toNat, .int .i64 k] w fun e w' => e = .returned (.int .u32 (turnK (8 * k) n).toNat) ∧ w = w' := by
  have hk' : k ≤ 9223372036854775807 := by omega
  have HK := Lib.hid hk'
  clear hk hk'
  go_enter Try.func78, Try.ntmps78
  go_wp2_with fail
  go_loop [0, 1, 5] (fun a c b => ∃ (x : V) (m j : Nat), j ≤ k ∧ c = .int .i64 j ∧ a = .int .u32 x.toNat ∧ b = .int .u32 (turnK m 1).toNat ∧ Hid (turnK (8 * k) n = turnK (m * j) x)) (fun _ c _ => (intOf c).toNat)
  case atStart => exact ⟨n, 8, k, by omega, rfl, rfl, by rw [show (turnK 8 1).toNat = 256 by decide +kernel]; rfl, rfl⟩
  case round =>
    obtain ⟨x, m, j, hj, rfl, rfl, rfl, hr⟩ := hrel
    have hK := HK.out
    have hj' : j ≤ 9223372036854775807 := by omega
    have ha : bits BinOp.and IntKind.i64 (j : Int) 1 = ((j % 2 : Nat) : Int) := and1_i64 j hj'
    clear hK hj'
    by_cases h0 : j = 0
    · subst h0
      go_wp2
      go_ret
      refine ⟨ret_int ?_, rfl⟩
      rw [hr.out]
      rfl
    · have hp : (0 : Int) < j := by omega
      have e := Nat.div_add_mod j 2
      have hh : ((j : Int) / 2) = ((j / 2 : Nat) : Int) := by omega
      have HH := Lib.hid hh
      have E := Lib.hid e
      clear hh e
      by_cases h1 : j % 2 = 1
      · have hr2 : turnK (8 * k) n = turnK ((m + m) * (j / 2)) (turnK m x) := by
          rw [hr.out, ← turnK_add]
          congr 1
          have := E.out
          rw [← Nat.two_mul, Nat.mul_assoc, Nat.mul_left_comm, ← Nat.mul_succ]
          congr 1
          omega
        have HR := Lib.hid hr2
        rw [h1] at ha
        clear hr hr2
        go_wp2_with (go_at_call 104; refine (times_any _ _ _).mono ?_; rintro e w' ⟨rfl, rfl⟩)
        exact ⟨⟨timesV x (turnK m 1), m + m, j / 2, by omega, by rw [HH.out], rfl, sq_pow m, by rw [times_pow]; exact HR⟩, by have := HH.out; simp only [intOf]; omega⟩
      · have h2 : j % 2 = 0 := by omega
        have hr2 : turnK (8 * k) n = turnK ((m + m) * (j / 2)) x := by
          rw [hr.out]
          congr 1
          have := E.out
          rw [← Nat.two_mul, Nat.mul_assoc, Nat.mul_left_comm]
          congr 1
          omega
        have HR := Lib.hid hr2
        rw [h2] at ha
        clear hr hr2
        go_wp2_with (go_at_call 104; refine (times_any _ _ _).mono ?_; rintro e w' ⟨rfl, rfl⟩)
        exact ⟨⟨x, m + m, j / 2, by omega, by rw [HH.out], rfl, sq_pow m, HR⟩, by have := HH.out; simp only [intOf]; omega⟩

theorem join_nat (a b : V) (k : Nat) (hk : k < 9223372036854775808) (w : World) :
    Calls Try.prog 35 #[.int .u32 a.toNat, .int .u32 b.toNat, .int .i64 k] w fun e w' => e = .returned (.int .u32 (joinV a b k).toNat) ∧ w = w' := by
  have hm : maxI (k : Int) 0 = (k : Int) := by unfold maxI; omega
  have HL := Lib.hid hk
  clear hk
  go_enter Try.func35, Try.ntmps35
  go_wp2_with (go_at_call 78; refine (shifted_any a k HL.out _).mono ?_; rintro e w' ⟨rfl, rfl⟩)
  go_ret
  exact ⟨ret_int (by rw [xor_u32]; rfl), rfl⟩

theorem join_neg (a b : V) (l : Int) (hl : l ≤ 0) (w : World) :
    Calls Try.prog 35 #[.int .u32 a.toNat, .int .u32 b.toNat, .int .i64 l] w fun e w' => e = .returned (.int .u32 (joinV a b 0).toNat) ∧ w = w' := by
  have hm : maxI l 0 = 0 := by unfold maxI; omega
  have h0 := fun w => shifted_any a 0 (by decide) w
  go_enter Try.func35, Try.ntmps35
  go_wp2_with (go_at_call 78; refine (h0 _).mono ?_; rintro e w' ⟨rfl, rfl⟩)
  go_ret
  exact ⟨ret_int (by rw [xor_u32]; rfl), rfl⟩

theorem not_u32 (x : V) : (x ^^^ onesV).toNat = 4294967295 - x.toNat := by
  rw [show onesV = BitVec.allOnes 32 from by decide, BitVec.xor_allOnes, BitVec.toNat_not]

theorem new_any (w : World) :
    Calls Try.prog 26 #[] w fun e w' => e = .returned (.agg #[.int .u32 4294967295, .int .i64 0]) ∧ Below w.heap.size w w' := by
  go_enter Try.func26, Try.ntmps26
  go_wp2
  refine bodyPost_ret (by simp [results, Try.results26, go_sem]; rfl) rfl ?_
  exact ⟨rfl, by (repeat' (first | (with_reducible exact Below.refl _ _) | (with_reducible assumption) | (with_reducible refine Below.setCell ?_ ?_ _) | (with_reducible refine Below.alloc ?_ ?_ _) | (with_reducible refine below_dn ?_ _) | (with_reducible refine below_call ?_ ?_ (by assumption)) | (with_reducible refine Below.drew ?_) | go_size))⟩

theorem stSum_any (x : V) (n : Int) (w : World) :
    Calls Try.prog 33 #[.agg #[.int .u32 x.toNat, .int .i64 n]] w fun e w' => e = .returned (.int .u32 (x ^^^ onesV).toNat) ∧ Below w.heap.size w w' := by
  go_enter Try.func33, Try.ntmps33
  go_wp2
  go_ret
  · refine ⟨ret_int ?_, by (repeat' (first | (with_reducible exact Below.refl _ _) | (with_reducible assumption) | (with_reducible refine Below.setCell ?_ ?_ _) | (with_reducible refine Below.alloc ?_ ?_ _) | (with_reducible refine below_dn ?_ _) | (with_reducible refine below_call ?_ ?_ (by assumption)) | (with_reducible refine Below.drew ?_) | go_size))⟩
    have e := (xor_u32 onesV x).trans (by rw [BitVec.xor_comm onesV x])

    exact e

theorem stLen_any (x : V) (n : Int) (w : World) :
    Calls Try.prog 34 #[.agg #[.int .u32 x.toNat, .int .i64 n]] w fun e w' => e = .returned (.int .i64 n) ∧ Below w.heap.size w w' := by
  go_enter Try.func34, Try.ntmps34
  go_wp2
  go_ret
  exact ⟨rfl, by (repeat' (first | (with_reducible exact Below.refl _ _) | (with_reducible assumption) | (with_reducible refine Below.setCell ?_ ?_ _) | (with_reducible refine Below.alloc ?_ ?_ _) | (with_reducible refine below_dn ?_ _) | (with_reducible refine below_call ?_ ?_ (by assumption)) | (with_reducible refine Below.drew ?_) | go_size))⟩

end Go.Proofs.Ytmjdlofkjjofcaa
