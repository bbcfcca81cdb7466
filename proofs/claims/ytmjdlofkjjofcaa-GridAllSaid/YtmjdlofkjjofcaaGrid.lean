/- Contracts of package grid over this seat's program. -/
import Derived.Test.YtmjdlofkjjofcaaProg
import Derived.Test.YtmjdlofkjjofcaaKit
import Derived.Deep.QuietTactic
import Derived.BigQuiet
import Derived.StillTailTactics
import Derived.BigRegion
namespace Go.Proofs.Ytmjdlofkjjofcaa
open Go.RowKit
set_option linter.unusedVariables false
set_option linter.unusedSimpArgs false
attribute [local go_sem] max2_int min2_int max_two min_two

def insB (n : Int) : Bool := decide (-2305843009213693952 < n) && decide (n < 2305843009213693952)

theorem inside_any (n : Int) (w : World) :
    Calls Try.prog 102 #[.int .i64 n] w fun e w' => e = .returned (.bool (insB n)) ∧ w = w' := by
  cases h1 : decide (-2305843009213693952 < n) <;> cases h2 : decide (n < 2305843009213693952) <;>
  · go_enter Try.func102, Try.ntmps102
    go_wp2
    go_ret
    exact ⟨by simp only [insB, h1, h2]; rfl, rfl⟩

theorem pright_any (x y : Int) (w : World) :
    Calls Try.prog 73 #[.agg #[.int .i64 (x), .int .i64 (y)]] w fun e w' => e = .returned (.bool (insB x && insB y)) ∧ Below w.heap.size w w' := by
  cases h1 : insB x <;> cases h2 : insB y <;>
  · go_enter Try.func73, Try.ntmps73
    go_wp2_with (go_at_call 102; refine (inside_any _ _).mono ?_; rintro e w' ⟨rfl, rfl⟩)
    go_ret
    exact ⟨by first | rfl | simp [h1, h2], by (repeat' (first | (with_reducible exact Below.refl _ _) | (with_reducible assumption) | (with_reducible refine Below.setCell ?_ ?_ _) | (with_reducible refine Below.alloc ?_ ?_ _) | (with_reducible refine below_dn ?_ _) | (with_reducible refine below_call ?_ ?_ (by assumption)) | (with_reducible refine Below.drew ?_) | go_size))⟩

def emptyB (a b c d : Int) : Bool := decide (c ≤ a) || decide (d ≤ b)

theorem empty_any (a b c d : Int) (w : World) :
    Calls Try.prog 19 #[.agg #[.int .i64 (a), .int .i64 (b), .int .i64 (c), .int .i64 (d)]] w fun e w' => e = .returned (.bool (emptyB a b c d)) ∧ Below w.heap.size w w' := by
  cases h1 : decide (c ≤ a) <;> cases h2 : decide (d ≤ b) <;>
  · go_enter Try.func19, Try.ntmps19
    go_wp2
    go_ret
    exact ⟨by simp only [emptyB, h1, h2]; rfl, by (repeat' (first | (with_reducible exact Below.refl _ _) | (with_reducible assumption) | (with_reducible refine Below.setCell ?_ ?_ _) | (with_reducible refine Below.alloc ?_ ?_ _) | (with_reducible refine below_dn ?_ _) | (with_reducible refine below_call ?_ ?_ (by assumption)) | (with_reducible refine Below.drew ?_) | go_size))⟩

theorem tile_any (x y z : Int) (w : World) (hz : 0 ≤ z) (hz' : z ≤ 16) :
    Calls Try.prog 72 #[.agg #[.int .i64 (x), .int .i64 (y)], .int .i64 z] w fun e w' => e = .returned (.agg #[.int .i64 (x / 2 ^ z.toNat / 16), .int .i64 (y / 2 ^ z.toNat / 16)]) ∧ Below w.heap.size w w' := by
  have hm : min z.toNat 64 = z.toNat := by omega
  go_enter Try.func72, Try.ntmps72
  go_wp2
  go_region
  go_wp2
  go_returns
  exact ⟨rfl, by (repeat' (first | (with_reducible exact Below.refl _ _) | (with_reducible assumption) | (with_reducible refine Below.setCell ?_ ?_ _) | (with_reducible refine Below.alloc ?_ ?_ _) | (with_reducible refine below_dn ?_ _) | (with_reducible refine below_call ?_ ?_ (by assumption)) | (with_reducible refine Below.drew ?_) | go_size))⟩


def andP (i : Nat) (a b c d a' b' c' d' : Int) : Int :=
  if emptyB (maxI a a') (maxI b b') (minI c c') (minI d d') then 0 else match i with | 0 => maxI a a' | 1 => maxI b b' | 2 => minI c c' | _ => minI d d'

theorem and_any (a b c d a' b' c' d' : Int) (w : World) :
    Calls Try.prog 21 #[.agg #[.int .i64 (a), .int .i64 (b), .int .i64 (c), .int .i64 (d)], .agg #[.int .i64 (a'), .int .i64 (b'), .int .i64 (c'), .int .i64 (d')]] w fun e w' => e = .returned (.agg #[.int .i64 (andP 0 a b c d a' b' c' d'), .int .i64 (andP 1 a b c d a' b' c' d'), .int .i64 (andP 2 a b c d a' b' c' d'), .int .i64 (andP 3 a b c d a' b' c' d')]) ∧ Below w.heap.size w w' := by
  have H : ∀ i, andP i a b c d a' b' c' d' = if emptyB (maxI a a') (maxI b b') (minI c c') (minI d d') then 0 else match i with | 0 => maxI a a' | 1 => maxI b b' | 2 => minI c c' | _ => minI d d' := fun _ => rfl
  cases h : emptyB (maxI a a') (maxI b b') (minI c c') (minI d d') <;>
  · rw [H, H, H, H, h]
    clear H
    go_enter Try.func21, Try.ntmps21
    go_wp2_with (go_at_call 19; refine (empty_any _ _ _ _ _).mono ?_; rintro e w' ⟨rfl, hb⟩; obtain ⟨hc, hf⟩ := bcell hb; have hz := hb.size; (try simp only [World.size_alloc, World.size_setCell, World.size_drew] at hz); (first | (with_reducible have hl := lt_rule6 hz) | (with_reducible have hl := lt_rule5 hz) | (with_reducible have hl := lt_rule4 hz) | (with_reducible have hl := lt_rule3 hz) | (with_reducible have hl := lt_rule2 hz) | (with_reducible have hl := lt_rule1 hz) | have hl := lt_rule0 hz); (try (have hz0 : w.heap.size < w'.heap.size := by omega)); (try (have hz1 : w.heap.size + 1 < w'.heap.size := by omega)); (try (have hz2 : w.heap.size + 1 + 1 < w'.heap.size := by omega)); (try (have hz3 : w.heap.size + 1 + 1 + 1 < w'.heap.size := by omega)); (try (have hz4 : w.heap.size + 1 + 1 + 1 + 1 < w'.heap.size := by omega)))
    refine bodyPost_ret (by simp [results, Try.results21, go_sem, *]; rfl) rfl ?_
    exact ⟨rfl, by (repeat' (first | (with_reducible exact Below.refl _ _) | (with_reducible assumption) | (with_reducible refine Below.setCell ?_ ?_ _) | (with_reducible refine Below.alloc ?_ ?_ _) | (with_reducible refine below_dn ?_ _) | (with_reducible refine below_call ?_ ?_ (by assumption)) | (with_reducible refine Below.drew ?_) | go_size))⟩

def orP (i : Nat) (a b c d a' b' c' d' : Int) : Int :=
  if emptyB a b c d && emptyB a' b' c' d' then 0
  else if emptyB a b c d then (match i with | 0 => a' | 1 => b' | 2 => c' | _ => d')
  else if emptyB a' b' c' d' then (match i with | 0 => a | 1 => b | 2 => c | _ => d)
  else match i with | 0 => minI a a' | 1 => minI b b' | 2 => maxI c c' | _ => maxI d d'

theorem or_any (a b c d a' b' c' d' : Int) (w : World) :
    Calls Try.prog 15 #[.agg #[.int .i64 (a), .int .i64 (b), .int .i64 (c), .int .i64 (d)], .agg #[.int .i64 (a'), .int .i64 (b'), .int .i64 (c'), .int .i64 (d')]] w fun e w' => e = .returned (.agg #[.int .i64 (orP 0 a b c d a' b' c' d'), .int .i64 (orP 1 a b c d a' b' c' d'), .int .i64 (orP 2 a b c d a' b' c' d'), .int .i64 (orP 3 a b c d a' b' c' d')]) ∧ Below w.heap.size w w' := by
  have H : ∀ i, orP i a b c d a' b' c' d' = if emptyB a b c d && emptyB a' b' c' d' then 0
  else if emptyB a b c d then (match i with | 0 => a' | 1 => b' | 2 => c' | _ => d')
  else if emptyB a' b' c' d' then (match i with | 0 => a | 1 => b | 2 => c | _ => d)
  else match i with | 0 => minI a a' | 1 => minI b b' | 2 => maxI c c' | _ => maxI d d' := fun _ => rfl
  cases h : emptyB a b c d <;> cases h' : emptyB a' b' c' d' <;>
  · rw [H, H, H, H, h, h']
    clear H
    go_enter Try.func15, Try.ntmps15
    go_wp2_with (go_at_call 19; refine (empty_any _ _ _ _ _).mono ?_; rintro e w' ⟨rfl, hb⟩; obtain ⟨hc, hf⟩ := bcell hb; have hz := hb.size; (try simp only [World.size_alloc, World.size_setCell, World.size_drew] at hz); (first | (with_reducible have hl := lt_rule6 hz) | (with_reducible have hl := lt_rule5 hz) | (with_reducible have hl := lt_rule4 hz) | (with_reducible have hl := lt_rule3 hz) | (with_reducible have hl := lt_rule2 hz) | (with_reducible have hl := lt_rule1 hz) | have hl := lt_rule0 hz); (try (have hz0 : w.heap.size < w'.heap.size := by omega)); (try (have hz1 : w.heap.size + 1 < w'.heap.size := by omega)); (try (have hz2 : w.heap.size + 1 + 1 < w'.heap.size := by omega)); (try (have hz3 : w.heap.size + 1 + 1 + 1 < w'.heap.size := by omega)); (try (have hz4 : w.heap.size + 1 + 1 + 1 + 1 < w'.heap.size := by omega)))
    refine bodyPost_ret (by simp [results, Try.results15, go_sem, *]; rfl) rfl ?_
    exact ⟨rfl, by (repeat' (first | (with_reducible exact Below.refl _ _) | (with_reducible assumption) | (with_reducible refine Below.setCell ?_ ?_ _) | (with_reducible refine Below.alloc ?_ ?_ _) | (with_reducible refine below_dn ?_ _) | (with_reducible refine below_call ?_ ?_ (by assumption)) | (with_reducible refine Below.drew ?_) | go_size))⟩

def hasB (a b c d x y : Int) : Bool := decide (a ≤ x) && decide (x < c) && decide (b ≤ y) && decide (y < d)

theorem has_any (a b c d x y : Int) (w : World) :
    Calls Try.prog 20 #[.agg #[.int .i64 (a), .int .i64 (b), .int .i64 (c), .int .i64 (d)], .agg #[.int .i64 (x), .int .i64 (y)]] w fun e w' => e = .returned (.bool (hasB a b c d x y)) ∧ Below w.heap.size w w' := by
  have H : hasB a b c d x y = (decide (a ≤ x) && decide (x < c) && decide (b ≤ y) && decide (y < d)) := rfl
  cases h1 : decide (a ≤ x)
  · rw [H, h1]; clear H
    go_enter Try.func20, Try.ntmps20
    go_wp2
    go_ret
    exact ⟨rfl, by (repeat' (first | (with_reducible exact Below.refl _ _) | (with_reducible assumption) | (with_reducible refine Below.setCell ?_ ?_ _) | (with_reducible refine Below.alloc ?_ ?_ _) | (with_reducible refine below_dn ?_ _) | (with_reducible refine below_call ?_ ?_ (by assumption)) | (with_reducible refine Below.drew ?_) | go_size))⟩
  cases h2 : decide (x < c)
  · rw [H, h1, h2]; clear H
    go_enter Try.func20, Try.ntmps20
    go_wp2
    go_ret
    exact ⟨rfl, by (repeat' (first | (with_reducible exact Below.refl _ _) | (with_reducible assumption) | (with_reducible refine Below.setCell ?_ ?_ _) | (with_reducible refine Below.alloc ?_ ?_ _) | (with_reducible refine below_dn ?_ _) | (with_reducible refine below_call ?_ ?_ (by assumption)) | (with_reducible refine Below.drew ?_) | go_size))⟩
  cases h3 : decide (b ≤ y)
  · rw [H, h1, h2, h3]; clear H
    go_enter Try.func20, Try.ntmps20
    go_wp2
    go_ret
    exact ⟨rfl, by (repeat' (first | (with_reducible exact Below.refl _ _) | (with_reducible assumption) | (with_reducible refine Below.setCell ?_ ?_ _) | (with_reducible refine Below.alloc ?_ ?_ _) | (with_reducible refine below_dn ?_ _) | (with_reducible refine below_call ?_ ?_ (by assumption)) | (with_reducible refine Below.drew ?_) | go_size))⟩
  cases h4 : decide (y < d) <;>
  · rw [H, h1, h2, h3, h4]; clear H
    go_enter Try.func20, Try.ntmps20
    go_wp2
    go_ret
    exact ⟨rfl, by (repeat' (first | (with_reducible exact Below.refl _ _) | (with_reducible assumption) | (with_reducible refine Below.setCell ?_ ?_ _) | (with_reducible refine Below.alloc ?_ ?_ _) | (with_reducible refine below_dn ?_ _) | (with_reducible refine below_call ?_ ?_ (by assumption)) | (with_reducible refine Below.drew ?_) | go_size))⟩

def wideI (a c : Int) : Int := maxI (wrap64 (c - a)) 0

theorem wide_any (a b c d : Int) (w : World) :
    Calls Try.prog 17 #[.agg #[.int .i64 (a), .int .i64 (b), .int .i64 (c), .int .i64 (d)]] w fun e w' => e = .returned (.int .i64 (wideI a c)) ∧ Below w.heap.size w w' := by
  go_enter Try.func17, Try.ntmps17
  go_wp2
  go_ret
  exact ⟨rfl, by (repeat' (first | (with_reducible exact Below.refl _ _) | (with_reducible assumption) | (with_reducible refine Below.setCell ?_ ?_ _) | (with_reducible refine Below.alloc ?_ ?_ _) | (with_reducible refine below_dn ?_ _) | (with_reducible refine below_call ?_ ?_ (by assumption)) | (with_reducible refine Below.drew ?_) | go_size))⟩

theorem high_any (a b c d : Int) (w : World) :
    Calls Try.prog 18 #[.agg #[.int .i64 (a), .int .i64 (b), .int .i64 (c), .int .i64 (d)]] w fun e w' => e = .returned (.int .i64 (wideI b d)) ∧ Below w.heap.size w w' := by
  go_enter Try.func18, Try.ntmps18
  go_wp2
  go_ret
  exact ⟨rfl, by (repeat' (first | (with_reducible exact Below.refl _ _) | (with_reducible assumption) | (with_reducible refine Below.setCell ?_ ?_ _) | (with_reducible refine Below.alloc ?_ ?_ _) | (with_reducible refine below_dn ?_ _) | (with_reducible refine below_call ?_ ?_ (by assumption)) | (with_reducible refine Below.drew ?_) | go_size))⟩

def rrightB (a b c d : Int) : Bool := !emptyB a b c d && (insB a && insB b) && (insB (wrap64 (c - 1)) && insB (wrap64 (d - 1)))

theorem rright_any (a b c d : Int) (w : World) :
    Calls Try.prog 23 #[.agg #[.int .i64 (a), .int .i64 (b), .int .i64 (c), .int .i64 (d)]] w fun e w' => e = .returned (.bool (rrightB a b c d)) ∧ Below w.heap.size w w' := by
  have H : rrightB a b c d = (!emptyB a b c d && (insB a && insB b) && (insB (wrap64 (c - 1)) && insB (wrap64 (d - 1)))) := rfl
  cases h1 : emptyB a b c d <;> cases h2 : (insB a && insB b) <;>
  · rw [H, h1, h2]; clear H
    go_enter Try.func23, Try.ntmps23
    go_wp2_with (first | (go_at_call 19; refine (empty_any _ _ _ _ _).mono ?_; rintro e w' ⟨rfl, hb⟩; obtain ⟨hc, hf⟩ := bcell hb; have hz := hb.size; (try simp only [World.size_alloc, World.size_setCell, World.size_drew] at hz); (first | (with_reducible have hl := lt_rule6 hz) | (with_reducible have hl := lt_rule5 hz) | (with_reducible have hl := lt_rule4 hz) | (with_reducible have hl := lt_rule3 hz) | (with_reducible have hl := lt_rule2 hz) | (with_reducible have hl := lt_rule1 hz) | have hl := lt_rule0 hz); (try (have hz0 : w.heap.size < w'.heap.size := by omega)); (try (have hz1 : w.heap.size + 1 < w'.heap.size := by omega)); (try (have hz2 : w.heap.size + 1 + 1 < w'.heap.size := by omega)); (try (have hz3 : w.heap.size + 1 + 1 + 1 < w'.heap.size := by omega)); (try (have hz4 : w.heap.size + 1 + 1 + 1 + 1 < w'.heap.size := by omega))) | (go_at_call 73; refine (pright_any _ _ _).mono ?_; rintro e w' ⟨rfl, hb⟩; obtain ⟨hc, hf⟩ := bcell hb; have hz := hb.size; (try simp only [World.size_alloc, World.size_setCell, World.size_drew] at hz); (first | (with_reducible have hl := lt_rule6 hz) | (with_reducible have hl := lt_rule5 hz) | (with_reducible have hl := lt_rule4 hz) | (with_reducible have hl := lt_rule3 hz) | (with_reducible have hl := lt_rule2 hz) | (with_reducible have hl := lt_rule1 hz) | have hl := lt_rule0 hz); (try (have hz0 : w.heap.size < w'.heap.size := by omega)); (try (have hz1 : w.heap.size + 1 < w'.heap.size := by omega)); (try (have hz2 : w.heap.size + 1 + 1 < w'.heap.size := by omega)); (try (have hz3 : w.heap.size + 1 + 1 + 1 < w'.heap.size := by omega)); (try (have hz4 : w.heap.size + 1 + 1 + 1 + 1 < w'.heap.size := by omega))))
    go_ret
    exact ⟨by first | rfl | (simp; done), by (repeat' (first | (with_reducible exact Below.refl _ _) | (with_reducible assumption) | (with_reducible refine Below.setCell ?_ ?_ _) | (with_reducible refine Below.alloc ?_ ?_ _) | (with_reducible refine below_dn ?_ _) | (with_reducible refine below_call ?_ ?_ (by assumption)) | (with_reducible refine Below.drew ?_) | go_size))⟩

theorem eq_pt (a b c d : Int) (w : World) : (binOp BinOp.eql 23 (.agg #[.int .i64 (a), .int .i64 (b)]) (.agg #[.int .i64 (c), .int .i64 (d)])).run Try.prog w = .ok (.bool (a == c && b == d)) w := by
  have e : (Op.equalIn 10000 23 (.agg #[.int .i64 (a), .int .i64 (b)]) (.agg #[.int .i64 (c), .int .i64 (d)])).run Try.prog w = .ok (a == c && b == d) w := by
    rw [show (10000 : Nat) = 9998 + 1 + 1 from rfl]
    cases h1 : (a == c) <;> cases h2 : (b == d) <;> go_simp
  simp only [binOp]
  simp [Op.equal, Op.maxDepth, e]
theorem ne_pt (a b c d : Int) (w : World) : (binOp BinOp.neq 23 (.agg #[.int .i64 (a), .int .i64 (b)]) (.agg #[.int .i64 (c), .int .i64 (d)])).run Try.prog w = .ok (.bool (!(a == c && b == d))) w := by
  have e : (Op.equalIn 10000 23 (.agg #[.int .i64 (a), .int .i64 (b)]) (.agg #[.int .i64 (c), .int .i64 (d)])).run Try.prog w = .ok (a == c && b == d) w := by
    rw [show (10000 : Nat) = 9998 + 1 + 1 from rfl]
    cases h1 : (a == c) <;> cases h2 : (b == d) <;> go_simp
  simp only [binOp]
  simp [Op.equal, Op.maxDepth, e]
def eqRc (a b c d a' b' c' d' : Int) : Bool := (a == a' && b == b') && (c == c' && d == d')
theorem eq_rc0 (a b c d a' b' c' d' : Int) (w : World) : (Op.equalIn 10000 26 (.agg #[.int .i64 (a), .int .i64 (b), .int .i64 (c), .int .i64 (d)]) (.agg #[.int .i64 (a'), .int .i64 (b'), .int .i64 (c'), .int .i64 (d')])).run Try.prog w = .ok (eqRc a b c d a' b' c' d') w := by
  unfold eqRc
  rw [show (10000 : Nat) = 9997 + 1 + 1 + 1 from rfl]
  cases h1 : (a == a') <;> cases h2 : (b == b') <;> cases h3 : (c == c') <;> cases h4 : (d == d') <;> go_simp
theorem eq_rc (a b c d a' b' c' d' : Int) (w : World) : (binOp BinOp.eql 26 (.agg #[.int .i64 (a), .int .i64 (b), .int .i64 (c), .int .i64 (d)]) (.agg #[.int .i64 (a'), .int .i64 (b'), .int .i64 (c'), .int .i64 (d')])).run Try.prog w = .ok (.bool (eqRc a b c d a' b' c' d')) w := by
  simp only [binOp]
  simp [Op.equal, Op.maxDepth, eq_rc0]
theorem ne_rc (a b c d a' b' c' d' : Int) (w : World) : (binOp BinOp.neq 26 (.agg #[.int .i64 (a), .int .i64 (b), .int .i64 (c), .int .i64 (d)]) (.agg #[.int .i64 (a'), .int .i64 (b'), .int .i64 (c'), .int .i64 (d')])).run Try.prog w = .ok (.bool (!eqRc a b c d a' b' c' d')) w := by
  simp only [binOp]
  simp [Op.equal, Op.maxDepth, eq_rc0]

def tilesP (i : Nat) (a b c d z : Int) : Int :=
  if emptyB a b c d then 0 else match i with | 0 => a / 2 ^ z.toNat / 16 | 1 => b / 2 ^ z.toNat / 16 | 2 => wrap64 (wrap64 (c - 1) / 2 ^ z.toNat / 16 + 1) | _ => wrap64 (wrap64 (d - 1) / 2 ^ z.toNat / 16 + 1)

end Go.Proofs.Ytmjdlofkjjofcaa
