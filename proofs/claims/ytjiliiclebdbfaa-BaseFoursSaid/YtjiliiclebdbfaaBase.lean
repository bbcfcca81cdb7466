/- Contracts of package base over this seat's program. -/
import Derived.Test.YtjiliiclebdbfaaProg
import Derived.Test.YtjiliiclebdbfaaKit
import Derived.WalkKit
import Derived.Handy
import Derived.KernelRfl
import Derived.Deep.QuietTactic
import Derived.BigQuiet
import Derived.Lib.BitFns
import Derived.Lib.Hide
namespace Go.Proofs.Ytjiliiclebdbfaa
open Go.RowKit
set_option linter.unusedVariables false

def ruleB (a : Bool) (n : Int) : Bool := n == 3 || (a && n == 2)

theorem rule_any (a : Bool) (n : Int) (w : World) :
    Calls Try.prog 62 #[.bool a, .int .i64 n] w fun e w' => e = .returned (.bool (ruleB a n)) ∧ w = w' := by
  cases a <;> cases h3 : (n == 3) <;> cases h2 : (n == 2) <;>
  · go_enter Try.func62, Try.ntmps62
    go_wp2
    go_ret
    exact ⟨by simp [ruleB, h3, h2], rfl⟩

def cellB (f : Nat) (x y : Int) : Bool := (f / 2 ^ (4 * y + x).toNat) % 2 == 1

theorem and1_u16 (n : Nat) (h : n < 65536) : bits BinOp.and IntKind.u16 (n : Int) 1 = ((n % 2 : Nat) : Int) := by
  have := u16_and_nat n 1 h (by omega)
  rw [show ((1 : Nat) : Int) = 1 from rfl] at this
  rw [this, Nat.and_one_is_mod]

theorem at_in (f : Nat) (x y : Int) (w : World) (hf : f < 65536) (hx : 0 ≤ x) (hx' : x < 4) (hy : 0 ≤ y) (hy' : y < 4) :
    Calls Try.prog 21 #[.int .u16 f, .int .i64 x, .int .i64 y] w fun e w' => e = .returned (.bool (cellB f x y)) ∧ w = w' := by
  go_enter Try.func21, Try.ntmps21
  go_wp2
  go_ret
  refine ⟨?_, rfl⟩
  have h1 : (f / 2 ^ (4 * y + x).toNat) < 65536 := Nat.lt_of_le_of_lt (Nat.div_le_self _ _) hf
  have e := and1_u16 _ h1
  have e2 : ((f / 2 ^ (4 * y + x).toNat : Nat) : Int) = (f : Int) / 2 ^ (4 * y + x).toNat := by simp
  rw [e2] at e
  simp only [Array.getD_eq_getD_getElem?, List.getElem?_toArray, List.getElem?_cons_succ, List.getElem?_cons_zero, Option.getD_some, e, cellB]
  congr 2
  rw [Bool.eq_iff_iff]
  simp only [beq_iff_eq]
  omega

theorem at_out (f : Nat) (x y : Int) (w : World) (h : x < 0 ∨ 4 ≤ x ∨ y < 0 ∨ 4 ≤ y) :
    Calls Try.prog 21 #[.int .u16 f, .int .i64 x, .int .i64 y] w fun e w' => e = .returned (.bool false) ∧ w = w' := by
  by_cases c1 : x < 0
  · go_enter Try.func21, Try.ntmps21
    go_wp2
    go_ret
    exact ⟨rfl, rfl⟩
  · by_cases c2 : 4 ≤ x
    · go_enter Try.func21, Try.ntmps21
      go_wp2
      go_ret
      exact ⟨rfl, rfl⟩
    · by_cases c3 : y < 0
      · go_enter Try.func21, Try.ntmps21
        go_wp2
        go_ret
        exact ⟨rfl, rfl⟩
      · have c4 : 4 ≤ y := by omega
        go_enter Try.func21, Try.ntmps21
        go_wp2
        go_ret
        exact ⟨rfl, rfl⟩

theorem and255_u16 (n : Nat) (h : n < 65536) : bits BinOp.and IntKind.u16 (n : Int) 255 = ((n % 256 : Nat) : Int) := by
  have := u16_and_nat n 255 h (by omega)
  rw [show ((255 : Nat) : Int) = 255 from rfl] at this
  rw [this, Nat.and_two_pow_sub_one_eq_mod n 8]

def onesB (n : Nat) : Nat := Lib.onesCount (n / 256) + Lib.onesCount (n % 256)
theorem onesB_le (n : Nat) (h : n < 65536) : onesB n ≤ 16 := by
  have a := Lib.onesCount_le8 ⟨n / 256, by omega⟩
  have b := Lib.onesCount_le8 ⟨n % 256, by omega⟩
  simp only at a b
  unfold onesB
  omega

theorem ones_any (n : Nat) (w : World) (h1 : n < 65536) :
    Calls Try.prog 63 #[.int .u16 n] w fun e w' => e = .returned (.int .i64 (onesB n)) ∧ ∃ k, w' = w.drewN k := by
  have b0 : 0 ≤ (n : Int) / 256 := by omega
  have b1 : (n : Int) / 256 ≤ 255 := by omega
  have e := and255_u16 n h1
  have c0 : (0 : Int) ≤ ((n % 256 : Nat) : Int) := by omega
  have c1 : ((n % 256 : Nat) : Int) ≤ 255 := by omega
  rw [← e] at c0 c1
  have E := Lib.hid e
  clear e
  go_enter Try.func63, Try.ntmps63
  go_wp2
  go_quiet (fail)
  go_wp2
  go_ret
  refine ⟨ret_int ?_, _, rfl⟩
  have p := Lib.pop8_eq ⟨n / 256, by omega⟩
  have q := Lib.pop8_eq ⟨n % 256, by omega⟩
  have a := Lib.onesCount_le8 ⟨n / 256, by omega⟩
  have b := Lib.onesCount_le8 ⟨n % 256, by omega⟩
  simp only at p q a b
  have p' : ((n : Int) / 256) = ((n / 256 : Nat) : Int) := by omega
  rw [p', E.out, p, q]
  unfold onesB
  omega

theorem and1911_u16 (n : Nat) (h : n < 65536) : bits BinOp.and IntKind.u16 (n : Int) 1911 = ((n &&& 1911 : Nat) : Int) := by
  have := u16_and_nat n 1911 h (by omega)
  exact this

/-- How many of the nine cells about one, and it, are alive. -/
def nineB (f i : Nat) : Nat := onesB ((f / 2 ^ (4 * (i / 2) + i % 2)) &&& 1911)
def innerB (f i : Nat) : Bool := ruleB (cellB f (1 + i % 2 : Nat) (1 + i / 2 : Nat)) ((nineB f i : Int) - if cellB f (1 + i % 2 : Nat) (1 + i / 2 : Nat) then 1 else 0)

theorem ones_int (x : Int) (r : Nat) (w : World) (h0 : 0 ≤ x) (h1 : x < 65536) (hr : onesB x.toNat = r) :
    Calls Try.prog 63 #[.int .u16 x] w fun e w' => ∃ (m : Int) (k : Nat), 0 ≤ m ∧ m ≤ 16 ∧ Hid (m = r) ∧ e = .returned (.int .i64 m) ∧ w' = w.drewN k := by
  subst hr
  obtain ⟨n, rfl⟩ := Int.eq_ofNat_of_zero_le h0
  have := onesB_le n (by omega)
  exact (ones_any n w (by omega)).mono fun e w' ⟨h, k, hk⟩ => ⟨_, k, by omega, by rw [Int.toNat_natCast]; omega, rfl, by rw [Int.toNat_natCast]; exact h, hk⟩
theorem and1911_b (x : Int) (h0 : 0 ≤ x) (h1 : x < 65536) : 0 ≤ bits BinOp.and IntKind.u16 x 1911 ∧ bits BinOp.and IntKind.u16 x 1911 < 65536 := by
  obtain ⟨n, rfl⟩ := Int.eq_ofNat_of_zero_le h0
  have h : n < 65536 := by omega
  rw [and1911_u16 n h]
  have := Nat.and_le_left (n := n) (m := 1911)
  omega
theorem nine_eq (f k : Nat) (x : Int) (hf : f < 65536) (h : x = ((f / 2 ^ k : Nat) : Int)) : onesB (bits BinOp.and IntKind.u16 x 1911).toNat = onesB ((f / 2 ^ k) &&& 1911) := by
  subst h
  rw [and1911_u16 _ (Nat.lt_of_le_of_lt (Nat.div_le_self _ _) hf)]
  rfl
theorem inner_yes (f i : Nat) (x y : Int) (hx : ((1 + i % 2 : Nat) : Int) = x) (hy : ((1 + i / 2 : Nat) : Int) = y) (m : Int) (hm : m = nineB f i) (hc : cellB f x y = true) : ruleB true (m - 1) = innerB f i := by
  subst hx hy; unfold innerB; rw [hc, hm]; rfl
theorem inner_no (f i : Nat) (x y : Int) (hx : ((1 + i % 2 : Nat) : Int) = x) (hy : ((1 + i / 2 : Nat) : Int) = y) (m : Int) (hm : m = nineB f i) (hc : cellB f x y = false) : ruleB false m = innerB f i := by
  subst hx hy; unfold innerB; rw [hc, hm]; simp
def InnerPost (f : Nat) (w : World) (e : Ending) (w' : World) : Prop :=
  e = .returned (.agg #[.bool (innerB f 0), .bool (innerB f 1), .bool (innerB f 2), .bool (innerB f 3)]) ∧ Below w.heap.size w w'
theorem inner_end (f : Nat) (w w' : World) (b0 b1 b2 b3 : Bool) (h0 : b0 = innerB f 0) (h1 : b1 = innerB f 1) (h2 : b2 = innerB f 2) (h3 : b3 = innerB f 3) (hb : Below w.heap.size w w') :
    InnerPost f w (.returned (.agg #[.bool b0, .bool b1, .bool b2, .bool b3])) w' := by subst h0 h1 h2 h3; exact ⟨rfl, hb⟩

set_option maxRecDepth 100000 in
set_option maxHeartbeats 4000000 in
theorem inner_any (f : Nat) (w : World) (hf : f < 65536) :
    Calls Try.prog 24 #[.int .u16 f] w (InnerPost f w) := by
  have g0 : ∀ (i : Nat) (x : Int), x = ((f / 2 ^ (4 * (i / 2) + i % 2) : Nat) : Int) → 0 ≤ bits BinOp.and IntKind.u16 x 1911 ∧ bits BinOp.and IntKind.u16 x 1911 < 65536 ∧ onesB (bits BinOp.and IntKind.u16 x 1911).toNat = nineB f i := fun i x hx => by
    have h2 : f / 2 ^ (4 * (i / 2) + i % 2) < 65536 := Nat.lt_of_le_of_lt (Nat.div_le_self _ _) hf
    have h3 := nine_eq f (4 * (i / 2) + i % 2) x hf hx
    generalize f / 2 ^ (4 * (i / 2) + i % 2) = d at hx h2
    have b := and1911_b x (by omega) (by omega)
    exact ⟨b.1, b.2, h3⟩
  have A0 := Lib.hid (g0 0 f (by simp))
  have A1 := Lib.hid (g0 1 (f / 2) (by simp))
  have A4 := Lib.hid (g0 2 (f / 16) (by simp))
  have A5 := Lib.hid (g0 3 (f / 32) (by simp))
  have HF := Lib.hid hf
  clear g0 hf
  go_enter Try.func24, Try.ntmps24
  go_wp2
  refine wp_loop_rounds 5 ?_
  iterate 5
    all_goals rw [rounds_succ]
    all_goals go_wp2_with (first | (go_at_call 21; refine (at_in f _ _ _ HF.out (by decide) (by decide) (by decide) (by decide)).mono ?_; rintro e w' ⟨rfl, rfl⟩) | (go_at_call 63; (first | (with_reducible refine (ones_int _ (nineB f 0) _ A0.out.1 A0.out.2.1 A0.out.2.2).mono ?_) | (with_reducible refine (ones_int _ (nineB f 1) _ A1.out.1 A1.out.2.1 A1.out.2.2).mono ?_) | (with_reducible refine (ones_int _ (nineB f 2) _ A4.out.1 A4.out.2.1 A4.out.2.2).mono ?_) | (with_reducible refine (ones_int _ (nineB f 3) _ A5.out.1 A5.out.2.1 A5.out.2.2).mono ?_)); rintro e w' ⟨m, n, l, g, q, rfl, rfl⟩) | (go_at_call 62; refine (rule_any _ _ _).mono ?_; rintro e w' ⟨rfl, rfl⟩))
  all_goals
    go_returns
    with_reducible refine inner_end f w _ _ _ _ _ ?_ ?_ ?_ ?_ ?_
    · first | with_reducible exact inner_yes f 0 1 1 (by decide) (by decide) _ (Hid.out (by assumption)) (by assumption) | with_reducible exact inner_no f 0 1 1 (by decide) (by decide) _ (Hid.out (by assumption)) (by assumption)
    · first | with_reducible exact inner_yes f 1 2 1 (by decide) (by decide) _ (Hid.out (by assumption)) (by assumption) | with_reducible exact inner_no f 1 2 1 (by decide) (by decide) _ (Hid.out (by assumption)) (by assumption)
    · first | with_reducible exact inner_yes f 2 1 2 (by decide) (by decide) _ (Hid.out (by assumption)) (by assumption) | with_reducible exact inner_no f 2 1 2 (by decide) (by decide) _ (Hid.out (by assumption)) (by assumption)
    · first | with_reducible exact inner_yes f 3 2 2 (by decide) (by decide) _ (Hid.out (by assumption)) (by assumption) | with_reducible exact inner_no f 3 2 2 (by decide) (by decide) _ (Hid.out (by assumption)) (by assumption)
    · (repeat' (first | (with_reducible exact Below.refl _ _) | (with_reducible assumption) | (with_reducible refine Below.setCell ?_ ?_ _) | (with_reducible refine Below.alloc ?_ ?_ _) | (with_reducible refine below_dn ?_ _) | (with_reducible refine below_call ?_ ?_ (by assumption)) | (with_reducible refine Below.drew ?_) | go_size))
end Go.Proofs.Ytjiliiclebdbfaa
