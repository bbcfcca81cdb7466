/- The chapter's example of layer 9. -/
import Derived.Test.YtjiliiclebdbfaaBase
import Derived.WalkKit
import Derived.ProofKit
namespace Go.Proofs.Ytjiliiclebdbfaa
open Go.RowKit
set_option linter.unusedVariables false

theorem lives9 (w : World) :
    Calls Try.prog 19 #[] w fun e w' => e = .returned (.bool true) ∧ Below w.heap.size w w' := by
  have e0 : cellB 112 1 1 = true := by decide +kernel
  have e1 : innerB 112 0 = true := by decide +kernel
  have e2 : innerB 112 1 = false := by decide +kernel
  have e3 : innerB 112 2 = true := by decide +kernel
  have e4 : innerB 112 3 = false := by decide +kernel
  have r1 : ruleB false 3 = true := by decide +kernel
  have r2 : ruleB true 1 = false := by decide +kernel
  have HI : Hid (∀ w, Calls Try.prog 24 #[.int .u16 112] w fun e w' => e = .returned (.agg #[.bool true, .bool false, .bool true, .bool false]) ∧ Below w.heap.size w w') := fun w =>
    (inner_any 112 w (by omega)).mono fun e w' h => by unfold InnerPost at h; rw [e1, e2, e3, e4] at h; exact h
  have AI : Hid (∀ w, Calls Try.prog 21 #[.int .u16 112, .int .i64 1, .int .i64 1] w fun e w' => e = .returned (.bool true) ∧ w = w') := fun w =>
    (at_in 112 1 1 w (by omega) (by omega) (by omega) (by omega) (by omega)).mono fun e w' h => by rw [e0] at h; exact h
  clear e0 e1 e2 e3 e4
  have qa : ∀ w, (binOp BinOp.eql 48 (.agg #[.bool true, .bool false, .bool true, .bool false]) (.agg #[.bool true, .bool false, .bool true, .bool false])).run Try.prog w = .ok (.bool true) w := fun w => by kernel_rfl
  go_enter Try.func19, Try.ntmps19
  go_wp2_with (first | (go_at_call 21; refine (AI.out _).mono ?_; rintro e w' ⟨rfl, rfl⟩) | (go_at_call 62; refine (rule_any _ _ _).mono ?_; rintro e w' ⟨rfl, rfl⟩) | (go_at_call 24; refine (HI.out _).mono ?_; rintro e w' ⟨rfl, hb⟩))
  go_ret
  exact ⟨rfl, hb⟩
end Go.Proofs.Ytjiliiclebdbfaa
