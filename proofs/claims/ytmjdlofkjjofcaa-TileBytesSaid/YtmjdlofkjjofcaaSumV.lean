/- The sum of thirty-two bits in plain words: polynomials over two elements; no program in sight. -/
namespace Go.Proofs.Ytmjdlofkjjofcaa
abbrev V := BitVec 32
def polyV : V := 79764919#32
def turnV (x : V) : V := if x.msb then (x <<< 1) ^^^ polyV else x <<< 1
def turnK : Nat → V → V
  | 0, x => x
  | k + 1, x => turnK k (turnV x)

theorem turnV_zero : turnV 0 = 0 := by decide
theorem turnV_xor (a b : V) : turnV (a ^^^ b) = turnV a ^^^ turnV b := by
  unfold turnV
  rw [BitVec.msb_xor, BitVec.shiftLeft_xor_distrib]
  cases a.msb <;> cases b.msb <;> simp only [Bool.xor_false, Bool.xor_true, Bool.not_false, Bool.not_true, if_true, if_false, Bool.false_eq_true]
  · rw [BitVec.xor_assoc]
  · rw [BitVec.xor_assoc, BitVec.xor_assoc, BitVec.xor_comm (b <<< 1)]
  · rw [BitVec.xor_assoc (a <<< 1) polyV, BitVec.xor_comm polyV, BitVec.xor_assoc (b <<< 1), BitVec.xor_self, BitVec.xor_zero]
theorem turnK_succ (k : Nat) (x : V) : turnK (k + 1) x = turnV (turnK k x) := by
  induction k generalizing x with
  | zero => rfl
  | succ k ih => rw [turnK, ih]; rfl
theorem turnK_xor (k : Nat) (a b : V) : turnK k (a ^^^ b) = turnK k a ^^^ turnK k b := by
  induction k generalizing a b with
  | zero => rfl
  | succ k ih => simp only [turnK]; rw [turnV_xor, ih]
theorem turnK_zero (k : Nat) : turnK k 0 = 0 := by
  induction k with
  | zero => rfl
  | succ k ih => rw [turnK, turnV_zero, ih]
theorem turnK_add (j k : Nat) (x : V) : turnK (j + k) x = turnK j (turnK k x) := by
  induction j with
  | zero => rw [Nat.zero_add]; rfl
  | succ j ih => rw [show j + 1 + k = (j + k) + 1 by omega, turnK_succ, ih, ← turnK_succ]
theorem turnK_turnV (k : Nat) (x : V) : turnK k (turnV x) = turnV (turnK k x) := (turnK_succ k x)

/-- What is turned to nothing was nothing: the polynomial is odd. -/
theorem turnV_inj0 (x : V) (h : turnV x = 0) : x = 0 := by
  unfold turnV at h
  split at h
  · have h0 := congrArg (fun v : V => v.getLsbD 0) h
    simp [polyV] at h0
  · rename_i hm
    apply BitVec.eq_of_getLsbD_eq
    intro i hi
    by_cases hi31 : i = 31
    · subst hi31
      have : x.msb = x.getLsbD 31 := by simp [BitVec.msb_eq_getLsbD_last]
      rw [← this]
      simpa using hm
    · have h1 := congrArg (fun v : V => v.getLsbD (i + 1)) h
      simp only [BitVec.getLsbD_shiftLeft] at h1
      have a1 : i + 1 < 32 := by omega
      simpa [a1] using h1
theorem turnK_inj0 (k : Nat) (x : V) (h : turnK k x = 0) : x = 0 := by
  induction k generalizing x with
  | zero => exact h
  | succ k ih => exact turnV_inj0 x (ih _ h)

/-- Small numbers are shifted. -/
theorem turnV_small (x : V) (h : x.toNat < 2147483648) : turnV x = x <<< 1 := by
  unfold turnV
  have hm : x.msb = false := by rw [BitVec.msb_eq_decide]; simpa using h
  rw [hm]
  rfl
theorem turnK_small (k : Nat) (x : V) (hk : k ≤ 32) (h : x.toNat < 2 ^ (32 - k)) : turnK k x = x <<< k := by
  induction k generalizing x with
  | zero => simp [turnK]
  | succ k ih =>
    have e : 2 ^ (32 - k) = 2 * 2 ^ (32 - (k + 1)) := by rw [show 32 - k = (32 - (k + 1)) + 1 by omega, Nat.pow_succ]; omega
    have p : 2 ^ (32 - (k + 1)) ≤ 2 ^ 31 := Nat.pow_le_pow_right (by decide) (by omega)
    rw [turnK, turnV_small x (by omega)]
    have s : (x <<< 1).toNat < 2 ^ (32 - k) := by
      rw [BitVec.toNat_shiftLeft, Nat.shiftLeft_eq]
      have := Nat.mod_le (x.toNat * 2 ^ 1) (2 ^ 32)
      omega
    rw [ih _ (by omega) s, ← BitVec.shiftLeft_add, Nat.add_comm]

/-! products -/
def timesK (a b : V) : Nat → V → V
  | 0, n => n
  | k + 1, n => timesK a b k (turnV n ^^^ (if b.getLsbD k then a else 0))
def timesV (a b : V) : V := timesK a b 32 0
def sumS (a b : V) : Nat → V
  | 0 => 0
  | k + 1 => (if b.getLsbD k then turnK k a else 0) ^^^ sumS a b k

theorem timesK_eq (a b : V) (k : Nat) (n : V) : timesK a b k n = turnK k n ^^^ sumS a b k := by
  induction k generalizing n with
  | zero => simp [timesK, turnK, sumS]
  | succ k ih =>
    rw [timesK, ih, turnK_xor, sumS, turnK, BitVec.xor_assoc]
    congr 2
    split
    · rfl
    · exact turnK_zero k
theorem timesV_eq (a b : V) : timesV a b = sumS a b 32 := by
  unfold timesV
  rw [timesK_eq, turnK_zero]
  simp
theorem xor4 (a b c d : V) : (a ^^^ b) ^^^ (c ^^^ d) = (a ^^^ c) ^^^ (b ^^^ d) := by
  rw [BitVec.xor_assoc, BitVec.xor_assoc, ← BitVec.xor_assoc b, BitVec.xor_comm b, BitVec.xor_assoc c]
theorem sumS_xor_left (a a' b : V) (k : Nat) : sumS (a ^^^ a') b k = sumS a b k ^^^ sumS a' b k := by
  induction k with
  | zero => simp [sumS]
  | succ k ih =>
    rw [sumS, sumS, sumS, ih, xor4]
    congr 1
    split
    · exact turnK_xor k a a'
    · simp
theorem sumS_xor_right (a b b' : V) (k : Nat) : sumS a (b ^^^ b') k = sumS a b k ^^^ sumS a b' k := by
  induction k with
  | zero => simp [sumS]
  | succ k ih =>
    rw [sumS, sumS, sumS, ih, xor4]
    congr 1
    rw [BitVec.getLsbD_xor]
    cases b.getLsbD k <;> cases b'.getLsbD k <;> simp
theorem sumS_turn (a b : V) (k : Nat) : sumS (turnV a) b k = turnV (sumS a b k) := by
  induction k with
  | zero => exact turnV_zero.symm
  | succ k ih =>
    rw [sumS, sumS, ih, turnV_xor]
    congr 1
    split
    · exact turnK_turnV k a
    · exact turnV_zero.symm
theorem sumS_zero_right (a : V) (k : Nat) : sumS a 0 k = 0 := by
  induction k with
  | zero => rfl
  | succ k ih => rw [sumS, ih]; simp
theorem one_shift (k : Nat) (hk : k < 32) : turnK k 1 = (1 : V) <<< k := by
  refine turnK_small k 1 (by omega) ?_
  have := Nat.pow_le_pow_right (n := 2) (by decide) (show 1 ≤ 32 - k by omega)
  have e : (1 : V).toNat = 1 := rfl
  rw [e]
  omega
theorem sumS_one (n : V) (k : Nat) (hk : k ≤ 32) : ∀ i, i < 32 → (sumS 1 n k).getLsbD i = (decide (i < k) && n.getLsbD i) := by
  induction k with
  | zero => intro i _; simp [sumS]
  | succ k ih =>
    intro i hi
    rw [sumS, BitVec.getLsbD_xor, ih (by omega) i hi, one_shift k (by omega)]
    have e : ((1 : V) <<< k).getLsbD i = decide (i = k) := by
      rw [BitVec.getLsbD_shiftLeft]
      have h1 : (1 : V).getLsbD (i - k) = decide (i - k = 0) := by
        rw [show (1 : V) = 1#32 from rfl, BitVec.getLsbD_one]; simp
      rw [h1]
      by_cases h : i = k
      · subst h; simp [hi]
      · by_cases h2 : i < k
        · simp [h2, h]
        · have h3 : ¬ (i - k = 0) := by omega
          simp [h3, h]
    by_cases h : i = k
    · subst h
      cases hb : n.getLsbD i
      · simp
      · simp only [if_true]; rw [e]; simp
    · have h2 : decide (i < k + 1) = decide (i < k) := by simp only [decide_eq_decide]; omega
      rw [h2]
      cases hb : n.getLsbD k
      · simp
      · simp only [if_true]; rw [e]; simp [h]
theorem times_one_left (n : V) : sumS 1 n 32 = n := by
  apply BitVec.eq_of_getLsbD_eq
  intro i hi
  rw [sumS_one n 32 (by omega) i hi]
  simp [hi]
theorem times_poly (n : V) : turnK 32 n = sumS n polyV 32 := by
  have base : turnK 32 1 = sumS 1 polyV 32 := by rw [times_one_left]; decide +kernel
  have each : ∀ j, turnK 32 (turnK j 1) = sumS (turnK j 1) polyV 32 := by
    intro j
    induction j with
    | zero => exact base
    | succ j ih => rw [turnK_succ j, turnK_turnV 32, ih, sumS_turn]
  have all : ∀ k, turnK 32 (sumS 1 n k) = sumS (sumS 1 n k) polyV 32 := by
    intro k
    induction k with
    | zero =>
      simp only [sumS]
      rw [turnK_zero]
      decide +kernel
    | succ k ih =>
      rw [sumS, turnK_xor, sumS_xor_left, ih]
      congr 1
      split
      · exact each k
      · rw [turnK_zero]; decide +kernel
  have := all 32
  rwa [times_one_left] at this
theorem sumS_shift (n b : V) (k : Nat) (hk : k < 32) : sumS n (b <<< 1) (k + 1) = turnV (sumS n b k) := by
  induction k with
  | zero =>
    have e : (b <<< 1).getLsbD 0 = false := by simp
    simp only [sumS, e, Bool.false_eq_true, if_false]
    rw [show (0 : V) ^^^ 0 = 0 from rfl]
    exact turnV_zero.symm
  | succ k ih =>
    rw [sumS, ih (by omega), sumS, turnV_xor]
    congr 1
    have e : (b <<< 1).getLsbD (k + 1) = b.getLsbD k := by rw [BitVec.getLsbD_shiftLeft]; simp [hk]
    rw [e]
    split
    · exact turnK_succ k n
    · exact turnV_zero.symm
theorem times_turn (n b : V) : sumS n (turnV b) 32 = turnV (sumS n b 32) := by
  have h : sumS n b 32 = (if b.getLsbD 31 then turnK 31 n else 0) ^^^ sumS n b 31 := rfl
  have hm : b.msb = b.getLsbD 31 := by simp [BitVec.msb_eq_getLsbD_last]
  rw [h, turnV_xor, ← sumS_shift n b 31 (by omega)]
  unfold turnV
  rw [hm]
  cases b.getLsbD 31
  · simp
  · simp only [if_true]
    rw [sumS_xor_right, ← times_poly, BitVec.xor_comm]
    congr 1
theorem times_pow (n : V) (m : Nat) : timesV n (turnK m 1) = turnK m n := by
  rw [timesV_eq]
  induction m with
  | zero =>
    have : sumS n 1 32 = n := by
      have e : ∀ k, sumS n 1 (k + 1) = n := by
        intro k
        induction k with
        | zero => simp [sumS, turnK]
        | succ k ih =>
          rw [sumS, ih]
          have : (1 : V).getLsbD (k + 1) = false := by rw [show (1 : V) = 1#32 from rfl, BitVec.getLsbD_one]; simp
          rw [this]; simp
      exact e 31
    exact this
  | succ m ih => rw [turnK_succ, times_turn, ih, ← turnK_succ]

/-- The bytes of a number times the variable, by squares: what Join does. -/
def shiftedV : Nat → V → Nat → V → V
  | 0, n, _, _ => n
  | f + 1, n, bytes, by_ => if bytes = 0 then n else shiftedV f (if bytes % 2 = 1 then timesV n by_ else n) (bytes / 2) (timesV by_ by_)
theorem shiftedV_eq (f : Nat) : ∀ (n : V) (bytes m : Nat), bytes < 2 ^ f → shiftedV f n bytes (turnK m 1) = turnK (m * bytes) n := by
  induction f with
  | zero => intro n bytes m h; have : bytes = 0 := by simpa using h
            subst this; rfl
  | succ f ih =>
    intro n bytes m h
    rw [shiftedV]
    by_cases h0 : bytes = 0
    · subst h0; rfl
    · rw [if_neg h0, times_pow (turnK m 1) m, ← turnK_add, ih _ _ _ (by rw [Nat.pow_succ] at h; omega)]
      have e := Nat.div_add_mod bytes 2
      have e2 : (m + m) * (bytes / 2) = m * (2 * (bytes / 2)) := by rw [← Nat.mul_assoc, Nat.mul_two]
      split
      · rename_i h1
        rw [times_pow, ← turnK_add, e2]
        congr 1
        rw [← Nat.mul_succ]
        congr 1
        omega
      · rename_i h1
        rw [e2]
        congr 2
        omega

/-! the sum of bytes -/
def byteV (n : V) (c : UInt8) : V := turnK 8 (n ^^^ ((BitVec.ofNat 32 c.toNat) <<< 24))
def stateV (n : V) (l : List UInt8) : V := l.foldl byteV n
def onesV : V := 4294967295#32
def sumOf (l : List UInt8) : V := stateV onesV l ^^^ onesV

theorem stateV_nil (n : V) : stateV n [] = n := rfl
theorem stateV_cons (n : V) (c : UInt8) (l : List UInt8) : stateV n (c :: l) = stateV (byteV n c) l := rfl
theorem stateV_append (n : V) (l m : List UInt8) : stateV n (l ++ m) = stateV (stateV n l) m := List.foldl_append ..
theorem stateV_xor (n d : V) (l : List UInt8) : stateV (n ^^^ d) l = turnK (8 * l.length) d ^^^ stateV n l := by
  induction l generalizing n d with
  | nil => simp [stateV, turnK]; rw [BitVec.xor_comm]
  | cons c l ih =>
    have e : byteV (n ^^^ d) c = byteV n c ^^^ turnK 8 d := by
      unfold byteV
      rw [show n ^^^ d ^^^ BitVec.ofNat 32 c.toNat <<< 24 = (n ^^^ BitVec.ofNat 32 c.toNat <<< 24) ^^^ d by
        rw [BitVec.xor_assoc, BitVec.xor_comm d, ← BitVec.xor_assoc], turnK_xor]
    rw [stateV_cons, e, ih, ← turnK_add, stateV_cons, List.length_cons, Nat.mul_succ]

def joinV (a b : V) (k : Nat) : V := turnK (8 * k) a ^^^ b
theorem joinV_eq (l m : List UInt8) : joinV (sumOf l) (sumOf m) m.length = sumOf (l ++ m) := by
  unfold joinV sumOf
  rw [stateV_append]
  have e : stateV (stateV onesV l) m = turnK (8 * m.length) (stateV onesV l ^^^ onesV) ^^^ stateV onesV m := by
    have := stateV_xor onesV (stateV onesV l ^^^ onesV) m
    rwa [show onesV ^^^ (stateV onesV l ^^^ onesV) = stateV onesV l by
      rw [BitVec.xor_comm, BitVec.xor_assoc, BitVec.xor_self, BitVec.xor_zero]] at this
  rw [e, BitVec.xor_assoc]
/-- What the table does, byte by byte. -/
theorem table_step (n : V) (c : UInt8) : (n <<< 8) ^^^ turnK 8 ((BitVec.ofNat 32 ((n.toNat / 16777216) ^^^ c.toNat)) <<< 24) = byteV n c := by
  have hn := n.isLt
  have hc := c.toNat_lt
  let lo : V := BitVec.ofNat 32 (n.toNat % 16777216)
  let hi : V := (BitVec.ofNat 32 (n.toNat / 16777216)) <<< 24
  have hl : lo.toNat = n.toNat % 16777216 := by simp only [lo, BitVec.toNat_ofNat]; omega
  have h1 : n = lo ^^^ hi := by
    apply BitVec.eq_of_getLsbD_eq
    intro i hi'
    have e1 : lo.getLsbD i = (decide (i < 24) && n.toNat.testBit i) := by
      simp only [lo, BitVec.getLsbD_ofNat]
      rw [show 16777216 = 2 ^ 24 from rfl, Nat.testBit_mod_two_pow]
      simp [hi']
    have e2 : hi.getLsbD i = (!decide (i < 24) && n.toNat.testBit i) := by
      simp only [hi, BitVec.getLsbD_shiftLeft, BitVec.getLsbD_ofNat]
      rw [show 16777216 = 2 ^ 24 from rfl, Nat.testBit_div_two_pow]
      by_cases h : i < 24
      · simp [h]
      · simp [h, hi', show i - 24 < 32 by omega, show i - 24 + 24 = i by omega]
    rw [BitVec.getLsbD_xor, e1, e2]
    show n.toNat.testBit i = _
    cases decide (i < 24) <;> simp
  have h2 : turnK 8 lo = n <<< 8 := by
    rw [turnK_small 8 lo (by omega) (by rw [hl]; omega)]
    apply BitVec.eq_of_toNat_eq
    rw [BitVec.toNat_shiftLeft, BitVec.toNat_shiftLeft, hl, Nat.shiftLeft_eq, Nat.shiftLeft_eq]
    omega
  have h3 : (BitVec.ofNat 32 ((n.toNat / 16777216) ^^^ c.toNat)) <<< 24 = hi ^^^ ((BitVec.ofNat 32 c.toNat) <<< 24) := by
    simp only [hi]
    rw [← BitVec.shiftLeft_xor_distrib]
    congr 1
    apply BitVec.eq_of_toNat_eq
    rw [BitVec.toNat_xor, BitVec.toNat_ofNat, BitVec.toNat_ofNat, BitVec.toNat_ofNat]
    have a : n.toNat / 16777216 ^^^ c.toNat < 2 ^ 32 := Nat.xor_lt_two_pow (by omega) (by omega)
    rw [Nat.mod_eq_of_lt a, Nat.mod_eq_of_lt (by omega), Nat.mod_eq_of_lt (by omega)]
  unfold byteV
  rw [h3, ← h2, ← turnK_xor]
  conv => rhs; rw [h1]
  rw [BitVec.xor_assoc]
end Go.Proofs.Ytmjdlofkjjofcaa
