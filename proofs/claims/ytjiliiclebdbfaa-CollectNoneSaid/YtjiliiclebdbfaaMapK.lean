/- The keys of this seat's maps. -/
import Derived.Test.YtjiliiclebdbfaaProg
import Derived.Test.YtjiliiclebdbfaaMapV
namespace Go.Proofs.Ytjiliiclebdbfaa
open Go.RowKit
set_option linter.unusedVariables false
set_option linter.unusedSimpArgs false

theorem laid_out : laidOutB Try.prog = true := by kernel_rfl
theorem types_size : ∃ m, Try.prog.types.size = m + 1 := ⟨Try.prog.types.size - 1, by kernel_rfl⟩
theorem types_small : Try.prog.types.size + 2 ≤ 10000 := of_decide_eq_true (by kernel_rfl)
theorem keyed_pn : Maps.Keyed Try.prog 46 := Maps.Keyed.of_law (deep_law_gate laid_out types_small (of_decide_eq_true (by kernel_rfl)) (by kernel_rfl) (by kernel_rfl))
theorem key_pn (X Y : Int) (hX : (Lit.int .i64 X).wf = true) (hY : (Lit.int .i64 Y).wf = true) : ∃ kl, keyOf Try.prog 46 (.agg #[.int .i64 X, .int .i64 Y]) = some kl := by
  obtain ⟨m, hm⟩ := types_size
  have h1 : Try.prog.keyType 46 = true := by kernel_rfl
  have h2 : (Value.agg #[.int .i64 X, .int .i64 Y]).formed Try.prog 46 = true := by kernel_rfl
  have hu := Try.underlying46
  have hc : Try.prog.cellsOf 46 = 2 := by kernel_rfl
  have hi := Try.underlying2
  have hci : Try.prog.cellsOf 2 = 1 := by kernel_rfl
  unfold keyOf
  rw [hu]
  simp only [h1, h2, Bool.and_self, if_true]
  rw [hm]
  unfold Program.keyLits
  rw [hu]
  simp [hc, hci, Value.cells, Program.keyLits, hi, hX, hY]
end Go.Proofs.Ytjiliiclebdbfaa
