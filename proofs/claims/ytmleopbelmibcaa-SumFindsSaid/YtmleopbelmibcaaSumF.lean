/- A sum tells a stretch of 32 bits: the plain law. -/
import Derived.Test.YtmleopbelmibcaaSumV
namespace Go.Proofs.Ytmleopbelmibcaa

theorem byteV_xor (n : V) (c m : UInt8) : byteV n (c ^^^ m) = byteV n c ^^^ turnK 8 ((BitVec.ofNat 32 m.toNat) <<< 24) := by
  unfold byteV
  rw [← turnK_xor]
  congr 1
  have : BitVec.ofNat 32 (c ^^^ m).toNat = BitVec.ofNat 32 c.toNat ^^^ BitVec.ofNat 32 m.toNat := by
    apply BitVec.eq_of_toNat_eq
    have h1 := c.toNat_lt
    have h2 := m.toNat_lt
    have h3 : c.toNat ^^^ m.toNat < 2 ^ 8 := Nat.xor_lt_two_pow h1 h2
    rw [BitVec.toNat_xor, BitVec.toNat_ofNat, BitVec.toNat_ofNat, BitVec.toNat_ofNat, UInt8.toNat_xor, Nat.mod_eq_of_lt (by omega), Nat.mod_eq_of_lt (by omega), Nat.mod_eq_of_lt (by omega)]
  rw [this, BitVec.shiftLeft_xor_distrib, BitVec.xor_assoc]
theorem stateV_set (l : List UInt8) : ∀ (n : V) (q : Nat) (m : UInt8), q < l.length →
    stateV n (l.set q (l.getD q 0 ^^^ m)) = stateV n l ^^^ turnK (8 * (l.length - q)) ((BitVec.ofNat 32 m.toNat) <<< 24) := by
  induction l with
  | nil => intro n q m h; simp at h
  | cons c t ih =>
    intro n q m h
    cases q with
    | zero =>
      simp only [List.set_cons_zero, List.getD_cons_zero, stateV_cons]
      rw [byteV_xor, stateV_xor, ← turnK_add, BitVec.xor_comm, List.length_cons, Nat.sub_zero, Nat.mul_succ]
    | succ q =>
      simp only [List.set_cons_succ, List.getD_cons_succ, stateV_cons, List.length_cons, Nat.add_sub_add_right]
      exact ih _ q m (by simpa using h)
def revK (b : V) : Nat → V
  | 0 => 0
  | k + 1 => revK b k ^^^ (if b.getLsbD k then (1 : V) <<< (31 - k) else 0)
theorem one_get (k i : Nat) (hk : k < 32) (hi : i < 32) : ((1 : V) <<< k).getLsbD i = decide (i = k) := by
  rw [BitVec.getLsbD_shiftLeft, show (1 : V) = 1#32 from rfl, BitVec.getLsbD_one]
  by_cases h : i = k
  · subst h; simp [hi]
  · by_cases h2 : i < k
    · simp [h2, h]
    · have h3 : ¬ (i - k = 0) := by omega
      simp [h3, h]
theorem revK_get (b : V) (k : Nat) (hk : k ≤ 32) (j : Nat) (hj : j < 32) : (revK b k).getLsbD (31 - j) = (decide (j < k) && b.getLsbD j) := by
  induction k with
  | zero => simp [revK]
  | succ k ih =>
    rw [revK, BitVec.getLsbD_xor, ih (by omega)]
    by_cases h : j = k
    · subst h
      cases hb : b.getLsbD j
      · simp
      · simp only [if_true]; rw [one_get _ _ (by omega) (by omega)]; simp
    · have h2 : decide (j < k + 1) = decide (j < k) := by simp only [decide_eq_decide]; omega
      rw [h2]
      cases hb : b.getLsbD k
      · simp
      · simp only [if_true]; rw [one_get _ _ (by omega) (by omega)]
        have h3 : ¬ (31 - j = 31 - k) := by omega
        simp [h3]
theorem revK_zero (b : V) (h : revK b 32 = 0) : b = 0 := by
  apply BitVec.eq_of_getLsbD_eq
  intro i hi
  have := revK_get b 32 (by omega) i hi
  rw [h] at this
  rw [show (0 : V).getLsbD (31 - i) = false by simp, decide_eq_true hi, Bool.true_and] at this
  rw [← this]
  simp
def flipB (p : Nat) : UInt8 := UInt8.ofNat (128 / 2 ^ (p % 8))
theorem flip_shift : ∀ r : Fin 8, (BitVec.ofNat 32 (UInt8.ofNat (128 / 2 ^ r.val)).toNat) <<< 24 = (1 : V) <<< (31 - r.val) := by decide +kernel
theorem flip_at (n i k : Nat) (hk : k < 32) (hi : i + k < 8 * n) :
    turnK (8 * (n - (i + k) / 8)) ((BitVec.ofNat 32 (flipB (i + k)).toNat) <<< 24) = turnK (8 * n - i) ((1 : V) <<< (31 - k)) := by
  unfold flipB
  have := flip_shift ⟨(i + k) % 8, Nat.mod_lt _ (by omega)⟩
  rw [this, ← one_shift _ (by omega), ← one_shift _ (by omega), ← turnK_add, ← turnK_add]
  congr 1
  have e := Nat.div_add_mod (i + k) 8
  simp only
  omega
/-- What the rows come to, k bits later. -/
def FlipsTo (b : List UInt8) (i : Nat) (bits : V) (k : Nat) (c : List UInt8) : Prop :=
  c.length = b.length ∧ stateV onesV c = stateV onesV b ^^^ turnK (8 * b.length - i) (revK bits k)
theorem FlipsTo.start (b : List UInt8) (i : Nat) (bits : V) : FlipsTo b i bits 0 b := ⟨rfl, by rw [revK, turnK_zero]; simp⟩
theorem FlipsTo.no {b c : List UInt8} {i k : Nat} {bits : V} (h : FlipsTo b i bits k c) (hb : bits.getLsbD k = false) : FlipsTo b i bits (k + 1) c :=
  ⟨h.1, by rw [revK, hb]; simpa using h.2⟩
theorem FlipsTo.yes {b c : List UInt8} {i k : Nat} {bits : V} (h : FlipsTo b i bits k c) (hb : bits.getLsbD k = true) (hk : k < 32) (hi : i + k < 8 * b.length) :
    FlipsTo b i bits (k + 1) (c.set ((i + k) / 8) (c.getD ((i + k) / 8) 0 ^^^ flipB (i + k))) := by
  refine ⟨by rw [List.length_set]; exact h.1, ?_⟩
  rw [stateV_set _ _ _ _ (by rw [h.1]; omega), h.2, h.1, flip_at _ _ _ hk hi, revK, hb, turnK_xor, BitVec.xor_assoc]
  rfl
theorem FlipsTo.ne {b c : List UInt8} {i : Nat} {bits : V} (h : FlipsTo b i bits 32 c) (hb : bits ≠ 0) : sumOf b ≠ sumOf c := by
  intro e
  unfold sumOf at e
  have e1 : stateV onesV b = stateV onesV c := by
    have := congrArg (· ^^^ onesV) e
    simpa [BitVec.xor_assoc] using this
  rw [h.2] at e1
  have e2 : turnK (8 * b.length - i) (revK bits 32) = 0 := by
    have := congrArg (stateV onesV b ^^^ ·) e1
    simp only [BitVec.xor_self, ← BitVec.xor_assoc, BitVec.zero_xor] at this
    exact this.symm
  exact hb (revK_zero bits (turnK_inj0 _ _ e2))
end Go.Proofs.Ytmleopbelmibcaa
