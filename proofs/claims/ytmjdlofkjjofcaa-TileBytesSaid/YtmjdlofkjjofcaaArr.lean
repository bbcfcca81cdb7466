/- An array's element; no program in sight. -/
import Derived.Test.YtmjdlofkjjofcaaKit
namespace Go.Proofs.Ytmjdlofkjjofcaa
open Go.RowKit
theorem run_index_arr {P : Program} {t e : TypeId} {n : Nat} (hu : P.underlying t = some (.array n e)) (ha : ∀ w, (isAgg e).run P w = .ok false w) (hs : ∀ w, (sizeOf e).run P w = .ok 1 w) (cs : Array Value) (i : Nat) (v : Value) (hi : i < n) (hv : cs[i]? = some v) (w : World) :
    (Instr.index t (.agg cs) (.int .i64 i)).run P w = .ok v w := by
  simp [Instr.index, run_underlying hu, part, ha, hs, hi, hv, asIntOf]
theorem run_equal_int {P : Program} {e : TypeId} {k : IntKind} (hu : P.underlying e = some (.int k)) (d : Nat) (a b : Int) (w : World) : (Op.equalIn (d + 1) e (.int k a) (.int k b)).run P w = .ok (a == b) w := by
  simp [Op.equalIn, run_underlying hu]
theorem run_equal_arr4 {P : Program} {t e : TypeId} {k : IntKind} (hu : P.underlying t = some (.array 4 e)) (hue : P.underlying e = some (.int k)) (ha : ∀ w, (isAgg e).run P w = .ok false w) (hs : ∀ w, (sizeOf e).run P w = .ok 1 w) (d : Nat) (a b c x a' b' c' x' : Int) (w : World) :
    (Op.equalIn (d + 2) t (.agg #[.int k a, .int k b, .int k c, .int k x]) (.agg #[.int k a', .int k b', .int k c', .int k x'])).run P w = .ok ((a == a' && b == b') && (c == c' && x == x')) w := by
  unfold Op.equalIn
  simp only [Sem.run_bind, run_underlying hu, Result.andThen_ok, hs]
  simp [Std.Legacy.Range.forIn_eq_forIn_range', Std.Legacy.Range.size, List.range', part, ha, hs, run_equal_int hue]
  cases h1 : (a == a') <;> cases h2 : (b == b') <;> cases h3 : (c == c') <;> cases h4 : (x == x') <;> simp_all
end Go.Proofs.Ytmjdlofkjjofcaa
