/- Numbers as bytes, of which the first tells how many there are: the plain law. -/
import Derived.Lib.BitFns
namespace Go.Proofs.YtmjdlofkjjofcaaDoor

def sizeU (n : Nat) : Nat :=
  if n < 128 then 1 else if n < 16384 then 2 else if n < 2097152 then 3 else if n < 268435456 then 4 else if n < 34359738368 then 5 else if n < 4398046511104 then 6
  else if n < 562949953421312 then 7 else if n < 72057594037927936 then 8 else 9
theorem sizeU_le (n : Nat) : 1 ≤ sizeU n ∧ sizeU n ≤ 9 := by
  unfold sizeU
  repeat' split
  all_goals omega
theorem bitLen_ge (x k : Nat) (hx : x < 2 ^ 64) (h : 2 ^ k ≤ x) : k + 1 ≤ Lib.bitLen x := by
  have e := Lib.bitLen_shift k x h hx
  have h1 : x / 2 ^ k ≠ 0 := by
    have := Nat.div_pos h (Nat.two_pow_pos k)
    omega
  have h2 : x / 2 ^ k < 2 ^ 64 := Nat.lt_of_le_of_lt (Nat.div_le_self _ _) hx
  have := Lib.bitLen_half _ h1 h2
  omega
theorem sizeU_eq (n : Nat) (hn : n < 18446744073709551616) : sizeU n = min (max ((Lib.bitLen n + 6) / 7) 1) 9 := by
  have lo : ∀ k, 2 ^ k ≤ n → k + 1 ≤ Lib.bitLen n := fun k h => bitLen_ge n k hn h
  have hi : ∀ k, k ≤ 64 → n < 2 ^ k → Lib.bitLen n ≤ k := fun k hk h => Lib.bitLen_le n k hk h
  unfold sizeU
  split
  · have := hi 7 (by omega) (by omega); omega
  split
  · have := hi 14 (by omega) (by omega); have := lo 7 (by omega); omega
  split
  · have := hi 21 (by omega) (by omega); have := lo 14 (by omega); omega
  split
  · have := hi 28 (by omega) (by omega); have := lo 21 (by omega); omega
  split
  · have := hi 35 (by omega) (by omega); have := lo 28 (by omega); omega
  split
  · have := hi 42 (by omega) (by omega); have := lo 35 (by omega); omega
  split
  · have := hi 49 (by omega) (by omega); have := lo 42 (by omega); omega
  split
  · have := hi 56 (by omega) (by omega); have := lo 49 (by omega); omega
  · have := lo 56 (by omega); omega

/-- The j lowest bytes, the highest first. -/
def be : Nat → Nat → List UInt8
  | 0, _ => []
  | j + 1, n => UInt8.ofNat (n / 256 ^ j) :: be j n
def headU (k n : Nat) : UInt8 := if k = 9 then 255 else UInt8.ofNat (256 - 2 ^ (9 - k) + n / 256 ^ (k - 1))
def encU (n : Nat) : List UInt8 := headU (sizeU n) n :: be (sizeU n - 1) n
theorem be_length (j n : Nat) : (be j n).length = j := by induction j with
  | zero => rfl
  | succ j ih => simp [be, ih]
theorem encU_length (n : Nat) : (encU n).length = sizeU n := by
  have := sizeU_le n
  simp [encU, be_length]; omega
def klen (c : UInt8) : Nat :=
  if c.toNat < 128 then 1 else if c.toNat < 192 then 2 else if c.toNat < 224 then 3 else if c.toNat < 240 then 4 else if c.toNat < 248 then 5 else if c.toNat < 252 then 6
  else if c.toNat < 254 then 7 else if c.toNat < 255 then 8 else 9
theorem klen_eq0 : ∀ n : Fin 256, klen (UInt8.ofNat n.val) = 9 - Lib.bitLen (255 - n.val) := by decide +kernel
theorem klen_eq (c : UInt8) : klen c = 9 - Lib.bitLen (255 - c.toNat) := by
  have := klen_eq0 ⟨c.toNat, c.toNat_lt⟩
  simpa using this
theorem klen_le (c : UInt8) : 1 ≤ klen c ∧ klen c ≤ 9 := by
  unfold klen
  repeat' split
  all_goals omega
def beVal (n : Nat) (l : List UInt8) : Nat := l.foldl (fun n c => n * 256 + c.toNat) n
def valU (c : UInt8) (k : Nat) : Nat := if k = 9 then 0 else c.toNat % 2 ^ (8 - k)
inductive Got where
  | cut
  | form
  | ok (n k : Nat)
def decU : List UInt8 → Got
  | [] => .cut
  | c :: t => if t.length + 1 < klen c then .cut else if sizeU (beVal (valU c (klen c)) (t.take (klen c - 1))) = klen c then .ok (beVal (valU c (klen c)) (t.take (klen c - 1))) (klen c) else .form

theorem beVal_nil (a : Nat) : beVal a [] = a := rfl
theorem beVal_cons (a : Nat) (c : UInt8) (l : List UInt8) : beVal a (c :: l) = beVal (a * 256 + c.toNat) l := rfl
theorem beVal_add (l : List UInt8) : ∀ a, beVal a l = a * 256 ^ l.length + beVal 0 l := by
  induction l with
  | nil => intro a; simp [beVal]
  | cons c l ih =>
    intro a
    rw [beVal_cons, beVal_cons, ih, ih (0 * 256 + c.toNat), List.length_cons, Nat.pow_succ, Nat.zero_mul, Nat.zero_add, Nat.add_mul, Nat.add_assoc]
    congr 1
    rw [Nat.mul_assoc, Nat.mul_comm 256]
theorem beVal_lt (l : List UInt8) : beVal 0 l < 256 ^ l.length := by
  induction l with
  | nil => simp [beVal]
  | cons c l ih =>
    rw [beVal_cons, beVal_add, List.length_cons, Nat.pow_succ]
    have h := c.toNat_lt
    have : (0 * 256 + c.toNat) * 256 ^ l.length ≤ 255 * 256 ^ l.length := Nat.mul_le_mul_right _ (by omega)
    omega
theorem beVal_be (j : Nat) : ∀ a n, beVal a (be j n) = a * 256 ^ j + n % 256 ^ j := by
  induction j with
  | zero => intro a n; simp [be, beVal, Nat.mod_one]
  | succ j ih =>
    intro a n
    rw [be, beVal_cons, ih, Nat.pow_succ, Nat.add_mul, Nat.add_assoc]
    have h1 : a * 256 * 256 ^ j = a * (256 ^ j * 256) := by rw [Nat.mul_assoc, Nat.mul_comm 256]
    rw [h1]
    congr 1
    have h2 : (UInt8.ofNat (n / 256 ^ j)).toNat = n / 256 ^ j % 256 := by simp
    rw [h2, Nat.mod_mul, Nat.mul_comm, Nat.add_comm]
theorem be_beVal (l : List UInt8) : ∀ a, be l.length (beVal a l) = l := by
  induction l with
  | nil => intro a; rfl
  | cons c l ih =>
    intro a
    rw [List.length_cons, be, beVal_cons, ih]
    congr 1
    rw [beVal_add]
    have h := beVal_lt l
    have hp : 0 < 256 ^ l.length := Nat.pow_pos (by omega)
    rw [Nat.mul_comm, Nat.mul_add_div hp, Nat.div_eq_of_lt h]
    apply UInt8.toNat_inj.1
    have := c.toNat_lt
    simp
theorem valU_bound (c : UInt8) : valU c (klen c) * 256 ^ (klen c - 1) + 256 ^ (klen c - 1) ≤ 18446744073709551616 := by
  have hk := klen_le c
  unfold valU
  generalize klen c = k at *
  have : k = 1 ∨ k = 2 ∨ k = 3 ∨ k = 4 ∨ k = 5 ∨ k = 6 ∨ k = 7 ∨ k = 8 ∨ k = 9 := by omega
  have h0 := c.toNat_lt
  rcases this with rfl | rfl | rfl | rfl | rfl | rfl | rfl | rfl | rfl <;> simp <;> omega
theorem beVal_mono (a : Nat) (l : List UInt8) (j : Nat) : beVal a (l.take j) * 256 ^ (l.length - j) ≤ beVal a l := by
  conv => rhs; rw [← List.take_append_drop j l]
  unfold beVal
  rw [List.foldl_append]
  show _ ≤ beVal (beVal a (l.take j)) (l.drop j)
  rw [beVal_add (l.drop j), List.length_drop]
  exact Nat.le_add_right _ _
/-- What is read so far is small enough for eight bits more. -/
theorem beVal_room (c : UInt8) (t : List UInt8) (ht : t.length = klen c - 1) (j : Nat) (hj : j < t.length) : beVal (valU c (klen c)) (t.take j) < 72057594037927936 := by
  have h1 := beVal_mono (valU c (klen c)) t j
  have h2 := beVal_add t (valU c (klen c))
  have h3 := beVal_lt t
  have h4 := valU_bound c
  rw [← ht] at h4
  have h5 : 256 ≤ 256 ^ (t.length - j) := Nat.le_self_pow (by omega) 256
  have h6 : beVal (valU c (klen c)) (t.take j) * 256 ≤ beVal (valU c (klen c)) (t.take j) * 256 ^ (t.length - j) := Nat.mul_le_mul_left _ h5
  omega
theorem beVal_all (c : UInt8) (t : List UInt8) (ht : t.length = klen c - 1) : beVal (valU c (klen c)) t < 18446744073709551616 := by
  have h2 := beVal_add t (valU c (klen c))
  have h3 := beVal_lt t
  have h4 := valU_bound c
  rw [← ht] at h4
  omega
theorem headU_toNat (k n : Nat) (hk : 1 ≤ k) (h8 : k ≤ 8) (hn : n < 2 ^ (7 * k)) : (headU k n).toNat = 256 - 2 ^ (9 - k) + n / 256 ^ (k - 1) := by
  unfold headU
  rw [if_neg (by omega)]
  have : k = 1 ∨ k = 2 ∨ k = 3 ∨ k = 4 ∨ k = 5 ∨ k = 6 ∨ k = 7 ∨ k = 8 := by omega
  rcases this with rfl | rfl | rfl | rfl | rfl | rfl | rfl | rfl <;> simp <;> omega
theorem size_lt (n : Nat) (hn : n < 18446744073709551616) : (sizeU n = 9 ∨ n < 2 ^ (7 * sizeU n)) := by
  unfold sizeU
  repeat' split
  all_goals omega
theorem klen_head (n : Nat) (hn : n < 18446744073709551616) : klen (headU (sizeU n) n) = sizeU n := by
  rcases size_lt n hn with h | h
  · rw [h]; rfl
  · have h1 := sizeU_le n
    by_cases h9 : sizeU n = 9
    · rw [h9]; rfl
    · have e := headU_toNat (sizeU n) n h1.1 (by omega) h
      unfold klen
      rw [e]
      generalize sizeU n = k at *
      have : k = 1 ∨ k = 2 ∨ k = 3 ∨ k = 4 ∨ k = 5 ∨ k = 6 ∨ k = 7 ∨ k = 8 := by omega
      rcases this with rfl | rfl | rfl | rfl | rfl | rfl | rfl | rfl <;> simp only [Nat.reduceMul, Nat.reducePow, Nat.reduceSub] at * <;> (repeat' split) <;> omega
theorem val_head (n : Nat) (hn : n < 18446744073709551616) (h9 : sizeU n ≠ 9) : valU (headU (sizeU n) n) (sizeU n) = n / 256 ^ (sizeU n - 1) := by
  rcases size_lt n hn with h | h
  · exact absurd h h9
  · have h1 := sizeU_le n
    have e := headU_toNat (sizeU n) n h1.1 (by omega) h
    unfold valU
    rw [if_neg h9, e]
    generalize sizeU n = k at *
    have : k = 1 ∨ k = 2 ∨ k = 3 ∨ k = 4 ∨ k = 5 ∨ k = 6 ∨ k = 7 ∨ k = 8 := by omega
    rcases this with rfl | rfl | rfl | rfl | rfl | rfl | rfl | rfl <;> simp only [Nat.reduceMul, Nat.reducePow, Nat.reduceSub] at * <;> omega
theorem dec_enc (n : Nat) (hn : n < 18446744073709551616) (rest : List UInt8) : decU (encU n ++ rest) = .ok n (sizeU n) := by
  have h1 := sizeU_le n
  have hl := be_length (sizeU n - 1) n
  have hk := klen_head n hn
  have hv : beVal (valU (headU (sizeU n) n) (sizeU n)) (be (sizeU n - 1) n) = n := by
    rw [beVal_be]
    by_cases h9 : sizeU n = 9
    · rw [h9]
      show 0 * 256 ^ 8 + n % 256 ^ 8 = n
      rw [Nat.zero_mul, Nat.zero_add]
      exact Nat.mod_eq_of_lt hn
    · rw [val_head n hn h9]
      exact Nat.div_add_mod' n _
  have ht : ((be (sizeU n - 1) n) ++ rest).take (sizeU n - 1) = be (sizeU n - 1) n := by rw [List.take_append_of_le_length (by omega), List.take_of_length_le (by omega)]
  unfold encU
  rw [List.cons_append, decU, hk, ht, hv, if_neg (by rw [List.length_append]; omega), if_pos rfl]
theorem enc_dec {l : List UInt8} {n k : Nat} (h : decU l = .ok n k) : l.take k = encU n ∧ n < 18446744073709551616 ∧ k = sizeU n ∧ 1 ≤ k ∧ k ≤ l.length := by
  cases l with
  | nil => cases h
  | cons c t =>
    rw [decU] at h
    split at h
    · cases h
    · rename_i hlen
      split at h
      · rename_i hs
        injection h with e1 e2
        have hk := klen_le c
        have hl : (t.take (klen c - 1)).length = klen c - 1 := by rw [List.length_take]; omega
        have hb := beVal_lt (t.take (klen c - 1))
        have ha := beVal_add (t.take (klen c - 1)) (valU c (klen c))
        rw [hl] at hb ha
        have hinv := be_beVal (t.take (klen c - 1)) (valU c (klen c))
        rw [hl] at hinv
        rw [e1] at hs hinv ha
        have hdiv : n / 256 ^ (klen c - 1) = valU c (klen c) := by
          rw [ha, Nat.mul_comm, Nat.mul_add_div (Nat.pow_pos (by omega)), Nat.div_eq_of_lt hb, Nat.add_zero]
        have hhead : headU (klen c) n = c := by
          unfold headU
          by_cases h9 : klen c = 9
          · rw [if_pos h9]
            apply UInt8.toNat_inj.1
            have := c.toNat_lt
            unfold klen at h9
            show 255 = c.toNat
            (repeat' split at h9) <;> omega
          · rw [if_neg h9, hdiv]
            unfold valU
            rw [if_neg h9]
            apply UInt8.toNat_inj.1
            have := c.toNat_lt
            unfold klen at *
            (repeat' split) <;> simp <;> omega
        have hnlt : n < 18446744073709551616 := by
          rw [ha]
          have hv : valU c (klen c) * 256 ^ (klen c - 1) + 256 ^ (klen c - 1) ≤ 18446744073709551616 := by
            unfold valU
            generalize klen c = k at *
            have : k = 1 ∨ k = 2 ∨ k = 3 ∨ k = 4 ∨ k = 5 ∨ k = 6 ∨ k = 7 ∨ k = 8 ∨ k = 9 := by omega
            have h0 := c.toNat_lt
            rcases this with rfl | rfl | rfl | rfl | rfl | rfl | rfl | rfl | rfl <;> simp <;> omega
          omega
        refine ⟨?_, hnlt, by rw [← e2]; exact hs.symm, by omega, by rw [List.length_cons]; omega⟩
        rw [← e2]
        unfold encU
        rw [hs, hhead, hinv]
        obtain ⟨j, hj⟩ : ∃ j, klen c = j + 1 := ⟨klen c - 1, by omega⟩
        rw [hj, List.take_succ_cons]
        rfl
      · cases h
/-- Each number has its own row, none is the beginning of another's. -/
theorem enc_prefix (n m : Nat) (hn : n < 18446744073709551616) (hm : m < 18446744073709551616) (h : (encU m).take (encU n).length = encU n) : n = m := by
  have e : encU m = encU n ++ (encU m).drop (encU n).length := by
    conv => lhs; rw [← List.take_append_drop (encU n).length (encU m), h]
  have h1 := dec_enc m hm []
  rw [List.append_nil, e, dec_enc n hn] at h1
  injection h1
def uintN (r : List UInt8) : Nat := match decU r with | .ok n _ => n | _ => 0
def uintK (r : List UInt8) : Nat := match decU r with | .ok _ k => k | _ => 0
end Go.Proofs.YtmjdlofkjjofcaaDoor
