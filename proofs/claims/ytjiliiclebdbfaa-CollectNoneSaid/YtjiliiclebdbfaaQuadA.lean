/- Contracts of package quad: half, has, which, start, root, New. -/
import Derived.Test.YtjiliiclebdbfaaNew
import Derived.Test.YtjiliiclebdbfaaStw
import Derived.Test.YtjiliiclebdbfaaQuadW
import Derived.Deep.QuietTactic
import Derived.BigQuiet
import Derived.RegionTactic
import Derived.BigRegion
namespace Go.Proofs.Ytjiliiclebdbfaa
open Go.RowKit
set_option linter.unusedVariables false
set_option linter.unusedSimpArgs false
attribute [local go_sem] max2_int min2_int max_two min_two

/-- The plane of a result; of an error none. -/
def planeV (S : Nat) (r : Res) : Value := if r.2.1 = 0 then .agg #[.pointer (some ⟨S, 0, none⟩), .int .u32 r.1] else .agg #[.pointer none, .int .u32 0]
def halfN (l : Int) : Nat := 2 ^ (l - 1).toNat
theorem half_le {l : Int} (h : l ≤ 62) : 1 ≤ halfN l ∧ halfN l ≤ 2305843009213693952 := by
  unfold halfN
  have s1 := Nat.one_le_two_pow (n := (l - 1).toNat)
  have s2 : 2 ^ (l - 1).toNat ≤ 2 ^ 61 := Nat.pow_le_pow_right (n := 2) (by decide) (by omega)
  exact ⟨s1, by omega⟩
theorem half_shift {l : Int} (h0 : -1 ≤ l) (h : l ≤ 62) : wrap64 (2 ^ (maxI (l - 1) 0).toNat) = (halfN l : Int) := by
  have e : (maxI (l - 1) 0).toNat = (l - 1).toNat := by rw [maxI_eq]; omega
  have hb := half_le h
  have e2 : ((halfN l : Nat) : Int) = 2 ^ (l - 1).toNat := by unfold halfN; simp
  rw [e, ← e2]
  exact w64 (by omega) (by omega)
section
variable {base S : Nat} {w : World} {ns : List Nd} {most : Nat}
theorem half_any (h : St base w S ns most) (x : Nat) (hx : x < 4294967296) :
    Calls Try.prog 98 #[.agg #[.pointer (some ⟨S, 0, none⟩), .int .u32 x]] w fun e w' => e = .returned (.int .i64 (halfN (lvlN ns x))) ∧ Below w.heap.size w w' := by
  have H := Lib.hid h
  have HX := Lib.hid hx
  have l1 := lvl_ge h.ok x
  have l2 := lvl_le h.ok x
  have HS := Lib.hid (half_shift l1 l2)
  clear h hx
  have m0 : 0 ≤ maxI (lvlN ns x - 1) 0 := by rw [maxI_eq]; omega
  have m1 : maxI (lvlN ns x - 1) 0 ≤ 61 := by rw [maxI_eq]; omega
  have mm : min (maxI (lvlN ns x - 1) 0).toNat 64 = (maxI (lvlN ns x - 1) 0).toNat := by omega
  go_enter Try.func98, Try.ntmps98
  go_wp2_with ((go_at_call 17); (with_reducible refine (level_st (H.out.below (by (repeat' (first | (with_reducible exact Below.refl _ _) | (with_reducible assumption) | (with_reducible refine Below.setCell ?_ ?_ _) | (with_reducible refine Below.alloc ?_ ?_ _) | (with_reducible refine below_dn ?_ _) | (with_reducible refine below_call ?_ ?_ (by assumption)) | (with_reducible refine Below.drew ?_) | go_size)))) x HX.out).mono ?_); rintro e w1 ⟨rfl, rfl⟩)
  go_ret
  exact ⟨ret_int HS.out, by (repeat' (first | (with_reducible exact Below.refl _ _) | (with_reducible assumption) | (with_reducible refine Below.setCell ?_ ?_ _) | (with_reducible refine Below.alloc ?_ ?_ _) | (with_reducible refine below_dn ?_ _) | (with_reducible refine below_call ?_ ?_ (by assumption)) | (with_reducible refine Below.drew ?_) | go_size))⟩
def hasN (ns : List Nd) (x : Nat) (X Y : Int) : Bool := decide (-(halfN (lvlN ns x) : Int) ≤ X) && decide (X < (halfN (lvlN ns x) : Int)) && decide (-(halfN (lvlN ns x) : Int) ≤ Y) && decide (Y < (halfN (lvlN ns x) : Int))
theorem has_pl (h : St base w S ns most) (x : Nat) (hx : x < 4294967296) (X Y : Int) :
    Calls Try.prog 83 #[.agg #[.pointer (some ⟨S, 0, none⟩), .int .u32 x], .agg #[.int .i64 (X), .int .i64 (Y)]] w fun e w' => e = .returned (.bool (hasN ns x X Y)) ∧ Below w.heap.size w w' := by
  have H := Lib.hid h
  have HX := Lib.hid hx
  have l2 := half_le (lvl_le h.ok x)
  have hw : wrap64 (-(halfN (lvlN ns x) : Int)) = -(halfN (lvlN ns x) : Int) := w64 (by omega) (by omega)
  have HH : hasN ns x X Y = (decide (-(halfN (lvlN ns x) : Int) ≤ X) && decide (X < (halfN (lvlN ns x) : Int)) && decide (-(halfN (lvlN ns x) : Int) ≤ Y) && decide (Y < (halfN (lvlN ns x) : Int))) := rfl
  rw [HH]
  clear h hx l2 HH
  cases h1 : decide (-(halfN (lvlN ns x) : Int) ≤ X) <;> cases h2 : decide (X < (halfN (lvlN ns x) : Int)) <;> cases h3 : decide (-(halfN (lvlN ns x) : Int) ≤ Y) <;> cases h4 : decide (Y < (halfN (lvlN ns x) : Int))
  all_goals
    go_enter Try.func83, Try.ntmps83
    go_wp2_with ((go_at_call 98); go_loud ((with_reducible refine (half_any (H.out.below (by (repeat' (first | (with_reducible exact Below.refl _ _) | (with_reducible assumption) | (with_reducible refine Below.setCell ?_ ?_ _) | (with_reducible refine Below.alloc ?_ ?_ _) | (with_reducible refine below_dn ?_ _) | (with_reducible refine below_call ?_ ?_ (by assumption)) | (with_reducible refine Below.drew ?_) | go_size)))) x HX.out).mono ?_); rintro e w1 ⟨rfl, hb_w1⟩; obtain ⟨hc, hf⟩ := bcell hb_w1; have hz := hb_w1.size; (try simp only [World.size_alloc, World.size_setCell, World.size_drew] at hz); (first | (with_reducible have hl := lt_rule6 hz) | (with_reducible have hl := lt_rule5 hz) | (with_reducible have hl := lt_rule4 hz) | (with_reducible have hl := lt_rule3 hz) | (with_reducible have hl := lt_rule2 hz) | (with_reducible have hl := lt_rule1 hz) | have hl := lt_rule0 hz); (try (have hz0 : w.heap.size < w1.heap.size := by omega)); (try (have hz1 : w.heap.size + 1 < w1.heap.size := by omega)); (try (have hz2 : w.heap.size + 1 + 1 < w1.heap.size := by omega)); (try (have hz3 : w.heap.size + 1 + 1 + 1 < w1.heap.size := by omega)); (try (have hz4 : w.heap.size + 1 + 1 + 1 + 1 < w1.heap.size := by omega))))
    go_ret
    exact ⟨rfl, by (repeat' (first | (with_reducible exact Below.refl _ _) | (with_reducible assumption) | (with_reducible refine Below.setCell ?_ ?_ _) | (with_reducible refine Below.alloc ?_ ?_ _) | (with_reducible refine below_dn ?_ _) | (with_reducible refine below_call ?_ ?_ (by assumption)) | (with_reducible refine Below.drew ?_) | go_size))⟩
theorem start_any (h : St base w S ns most) (x : Nat) (hx : x < 4294967296) (X Y : Int) (hp : hasN ns x X Y = true) :
    Calls Try.prog 82 #[.agg #[.pointer (some ⟨S, 0, none⟩), .int .u32 x], .agg #[.int .i64 (X), .int .i64 (Y)]] w fun e w' => e = .returned (.agg #[.int .i64 (((X + halfN (lvlN ns x)).toNat : Nat)), .int .i64 (((Y + halfN (lvlN ns x)).toNat : Nat))]) ∧ Below w.heap.size w w' := by
  have H := Lib.hid h
  have HX := Lib.hid hx
  have l2 := half_le (lvl_le h.ok x)
  unfold hasN at hp
  simp only [Bool.and_eq_true, decide_eq_true_eq] at hp
  have hw1 : wrap64 (X + (halfN (lvlN ns x) : Int)) = ((X + halfN (lvlN ns x)).toNat : Nat) := by rw [w64 (by omega) (by omega)]; omega
  have hw2 : wrap64 (Y + (halfN (lvlN ns x) : Int)) = ((Y + halfN (lvlN ns x)).toNat : Nat) := by rw [w64 (by omega) (by omega)]; omega
  have HW := Lib.hid (And.intro hw1 hw2)
  clear h hx l2 hp hw1 hw2
  go_enter Try.func82, Try.ntmps82
  go_wp2_with ((go_at_call 98); go_loud ((with_reducible refine (half_any (H.out.below (by (repeat' (first | (with_reducible exact Below.refl _ _) | (with_reducible assumption) | (with_reducible refine Below.setCell ?_ ?_ _) | (with_reducible refine Below.alloc ?_ ?_ _) | (with_reducible refine below_dn ?_ _) | (with_reducible refine below_call ?_ ?_ (by assumption)) | (with_reducible refine Below.drew ?_) | go_size)))) x HX.out).mono ?_); rintro e w1 ⟨rfl, hb_w1⟩; obtain ⟨hc, hf⟩ := bcell hb_w1; have hz := hb_w1.size; (try simp only [World.size_alloc, World.size_setCell, World.size_drew] at hz); (first | (with_reducible have hl := lt_rule6 hz) | (with_reducible have hl := lt_rule5 hz) | (with_reducible have hl := lt_rule4 hz) | (with_reducible have hl := lt_rule3 hz) | (with_reducible have hl := lt_rule2 hz) | (with_reducible have hl := lt_rule1 hz) | have hl := lt_rule0 hz); (try (have hz0 : w.heap.size < w1.heap.size := by omega)); (try (have hz1 : w.heap.size + 1 < w1.heap.size := by omega)); (try (have hz2 : w.heap.size + 1 + 1 < w1.heap.size := by omega)); (try (have hz3 : w.heap.size + 1 + 1 + 1 < w1.heap.size := by omega)); (try (have hz4 : w.heap.size + 1 + 1 + 1 + 1 < w1.heap.size := by omega))))
  refine bodyPost_ret (by simp [results, Try.results82, go_sem, *]; rfl) rfl ?_
  obtain ⟨hw1, hw2⟩ := HW.out
  exact ⟨by rw [hw1, hw2], by (repeat' (first | (with_reducible exact Below.refl _ _) | (with_reducible assumption) | (with_reducible refine Below.setCell ?_ ?_ _) | (with_reducible refine Below.alloc ?_ ?_ _) | (with_reducible refine below_dn ?_ _) | (with_reducible refine below_call ?_ ?_ (by assumption)) | (with_reducible refine Below.drew ?_) | go_size))⟩
theorem which_any (px py l : Nat) (L : Int) (hL : L = (l : Int) + 1) (hl : l ≤ 61) (hx : px < 2 ^ (l + 1)) (hy : py < 2 ^ (l + 1)) (w : World) :
    Calls Try.prog 84 #[.agg #[.int .i64 ((px : Nat)), .int .i64 ((py : Nat))], .int .i64 L] w fun e w' => e = .returned (.tuple #[.int .i64 (quar l px py : Nat), .agg #[.int .i64 ((px % 2 ^ l : Nat)), .int .i64 ((py % 2 ^ l : Nat))]]) ∧ Below w.heap.size w w' := by
  subst hL
  have hp : 2 ^ (l + 1) = 2 ^ l + 2 ^ l := by rw [Nat.pow_succ]; omega
  have hpos : 1 ≤ 2 ^ l := Nat.one_le_two_pow
  have hle : 2 ^ l ≤ 2 ^ 61 := Nat.pow_le_pow_right (n := 2) (by decide) hl
  have hq : quar l px py = (if 2 ^ l ≤ px then 1 else 0) + (if 2 ^ l ≤ py then 2 else 0) := rfl
  have ex : px % 2 ^ l = if 2 ^ l ≤ px then px - 2 ^ l else px := by
    split
    · rename_i h; rw [Nat.mod_eq_sub_mod h, Nat.mod_eq_of_lt (by omega)]
    · exact Nat.mod_eq_of_lt (by omega)
  have ey : py % 2 ^ l = if 2 ^ l ≤ py then py - 2 ^ l else py := by
    split
    · rename_i h; rw [Nat.mod_eq_sub_mod h, Nat.mod_eq_of_lt (by omega)]
    · exact Nat.mod_eq_of_lt (by omega)
  rw [hq, ex, ey]
  have hs : wrap64 ((2 : Int) ^ l) = ((2 ^ l : Nat) : Int) := by
    have e2 : ((2 ^ l : Nat) : Int) = (2 : Int) ^ l := by simp
    rw [← e2]
    exact w64 (by omega) (by omega)
  have mm : min ((l : Int)).toNat 64 = ((l : Int)).toNat := by omega
  have hw0 : wrap64 ((l : Int) + 1 - 1) = (l : Int) := by rw [w64 (by omega) (by omega)]; omega
  rw [hp] at hx hy
  clear hq ex ey hp
  generalize 2 ^ l = side at *
  have HL := Lib.hid (And.intro hpos hle)
  have hX := Lib.hid (fun (_ : side ≤ px) => show wrap64 ((px : Int) - (side : Int)) = ((px - side : Nat) : Int) by clear hs hw0; rw [w64 (by omega) (by omega)]; omega)
  have hY := Lib.hid (fun (_ : side ≤ py) => show wrap64 ((py : Int) - (side : Int)) = ((py - side : Nat) : Int) by clear hs hw0; rw [w64 (by omega) (by omega)]; omega)
  have dX := Lib.hid (fun (q : side ≤ px) => show decide (side ≤ px) = true from decide_eq_true (by omega))
  have dY := Lib.hid (fun (q : side ≤ py) => show decide (side ≤ py) = true from decide_eq_true (by omega))
  have eX := Lib.hid (fun (q : ¬ side ≤ px) => show decide (side ≤ px) = false from decide_eq_false (by omega))
  have eY := Lib.hid (fun (q : ¬ side ≤ py) => show decide (side ≤ py) = false from decide_eq_false (by omega))
  clear hpos hle hx hy
  by_cases h1 : side ≤ px <;> by_cases h2 : side ≤ py
  · have d1 := dX.out h1
    have d2 := dY.out h2
    have e1 := hX.out h1
    have e2 := hY.out h2
    rw [if_pos h1, if_pos h2, if_pos h1, if_pos h2, ← e1, ← e2]
    clear h1 h2 e1 e2
    go_enter Try.func84, Try.ntmps84
    go_wp2
    go_region
    go_wp2
    go_region
    go_wp2
    go_region
    go_wp2
    refine bodyPost_ret (by simp [results, Try.results84, go_sem, *]; rfl) rfl ?_
    exact ⟨rfl, by (repeat' (first | (with_reducible exact Below.refl _ _) | (with_reducible assumption) | (with_reducible refine Below.setCell ?_ ?_ _) | (with_reducible refine Below.alloc ?_ ?_ _) | (with_reducible refine below_dn ?_ _) | (with_reducible refine below_call ?_ ?_ (by assumption)) | (with_reducible refine Below.drew ?_) | go_size))⟩
  · have d1 := dX.out h1
    have d2 := eY.out h2
    have e1 := hX.out h1
    rw [if_pos h1, if_neg h2, if_pos h1, if_neg h2, ← e1]
    clear h1 h2 e1
    go_enter Try.func84, Try.ntmps84
    go_wp2
    go_region
    go_wp2
    go_region
    go_wp2
    refine bodyPost_ret (by simp [results, Try.results84, go_sem, *]; rfl) rfl ?_
    exact ⟨rfl, by (repeat' (first | (with_reducible exact Below.refl _ _) | (with_reducible assumption) | (with_reducible refine Below.setCell ?_ ?_ _) | (with_reducible refine Below.alloc ?_ ?_ _) | (with_reducible refine below_dn ?_ _) | (with_reducible refine below_call ?_ ?_ (by assumption)) | (with_reducible refine Below.drew ?_) | go_size))⟩
  · have d1 := eX.out h1
    have d2 := dY.out h2
    have e2 := hY.out h2
    rw [if_neg h1, if_pos h2, if_neg h1, if_pos h2, ← e2]
    clear h1 h2 e2
    go_enter Try.func84, Try.ntmps84
    go_wp2
    go_region
    go_wp2
    go_region
    go_wp2
    refine bodyPost_ret (by simp [results, Try.results84, go_sem, *]; rfl) rfl ?_
    exact ⟨rfl, by (repeat' (first | (with_reducible exact Below.refl _ _) | (with_reducible assumption) | (with_reducible refine Below.setCell ?_ ?_ _) | (with_reducible refine Below.alloc ?_ ?_ _) | (with_reducible refine below_dn ?_ _) | (with_reducible refine below_call ?_ ?_ (by assumption)) | (with_reducible refine Below.drew ?_) | go_size))⟩
  · have d1 := eX.out h1
    have d2 := eY.out h2
    rw [if_neg h1, if_neg h2, if_neg h1, if_neg h2]
    clear h1 h2
    go_enter Try.func84, Try.ntmps84
    go_wp2
    go_region
    go_wp2
    refine bodyPost_ret (by simp [results, Try.results84, go_sem, *]; rfl) rfl ?_
    exact ⟨rfl, by (repeat' (first | (with_reducible exact Below.refl _ _) | (with_reducible assumption) | (with_reducible refine Below.setCell ?_ ?_ _) | (with_reducible refine Below.alloc ?_ ?_ _) | (with_reducible refine below_dn ?_ _) | (with_reducible refine below_call ?_ ?_ (by assumption)) | (with_reducible refine Below.drew ?_) | go_size))⟩
end
end Go.Proofs.Ytjiliiclebdbfaa
