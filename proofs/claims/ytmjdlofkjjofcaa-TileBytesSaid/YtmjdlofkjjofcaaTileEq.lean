/- Two tiles that are one. -/
import Derived.Test.YtmjdlofkjjofcaaProg
import Derived.Test.YtmjdlofkjjofcaaKit
import Derived.Test.YtmjdlofkjjofcaaTile
import Derived.Test.YtmjdlofkjjofcaaArr
namespace Go.Proofs.Ytmjdlofkjjofcaa
open Go.RowKit
set_option linter.unusedVariables false
set_option linter.unusedSimpArgs false
theorem list16 {α : Type} (l : List α) (h : l.length = 16) : ∃ a0 a1 a2 a3 a4 a5 a6 a7 a8 a9 a10 a11 a12 a13 a14 a15, l = [a0, a1, a2, a3, a4, a5, a6, a7, a8, a9, a10, a11, a12, a13, a14, a15] := by
  match l, h with
  | [a0, a1, a2, a3, a4, a5, a6, a7, a8, a9, a10, a11, a12, a13, a14, a15], _ => exact ⟨_, _, _, _, _, _, _, _, _, _, _, _, _, _, _, _, rfl⟩
theorem run_equal_same16 {P : Program} {t e : TypeId} (hu : P.underlying t = some (.array 16 e)) (hue : P.underlying e = some (.int .u16)) (ha : ∀ w, (isAgg e).run P w = .ok false w) (hs : ∀ w, (sizeOf e).run P w = .ok 1 w) (d : Nat) (bs : List Nat) (h : bs.length = 16) (w : World) :
    (Op.equalIn (d + 2) t (.agg (cellsT bs)) (.agg (cellsT bs))).run P w = .ok true w := by
  obtain ⟨a0, a1, a2, a3, a4, a5, a6, a7, a8, a9, a10, a11, a12, a13, a14, a15, rfl⟩ := list16 bs h
  unfold Op.equalIn
  simp only [Sem.run_bind, run_underlying hu, Result.andThen_ok, hs]
  simp [cellsT, Std.Legacy.Range.forIn_eq_forIn_range', Std.Legacy.Range.size, List.range', part, ha, hs, run_equal_int hue]
theorem neq_same {P : Program} {t e : TypeId} (hu : P.underlying t = some (.array 16 e)) (hue : P.underlying e = some (.int .u16)) (ha : ∀ w, (isAgg e).run P w = .ok false w) (hs : ∀ w, (sizeOf e).run P w = .ok 1 w) (bs : List Nat) (h : bs.length = 16) (w : World) :
    (binOp .neq t (.agg (cellsT bs)) (.agg (cellsT bs))).run P w = .ok (.bool false) w := by
  have := run_equal_same16 hu hue ha hs 9998 bs h w
  simp only [binOp]
  simp [Op.equal, Op.maxDepth, this]
theorem eql_same {P : Program} {t e : TypeId} (hu : P.underlying t = some (.array 16 e)) (hue : P.underlying e = some (.int .u16)) (ha : ∀ w, (isAgg e).run P w = .ok false w) (hs : ∀ w, (sizeOf e).run P w = .ok 1 w) (bs : List Nat) (h : bs.length = 16) (w : World) :
    (binOp .eql t (.agg (cellsT bs)) (.agg (cellsT bs))).run P w = .ok (.bool true) w := by
  have := run_equal_same16 hu hue ha hs 9998 bs h w
  simp only [binOp]
  simp [Op.equal, Op.maxDepth, this]
end Go.Proofs.Ytmjdlofkjjofcaa
