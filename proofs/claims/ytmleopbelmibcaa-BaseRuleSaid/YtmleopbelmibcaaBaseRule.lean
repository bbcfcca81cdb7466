/- The statement BaseRule: the rule of package base, for any number of neighbours; for every input, no condition. -/
import Derived.Test.YtmleopbelmibcaaBase
import Derived.Test.YtmleopbelmibcaaRows
import Derived.WalkKit
import Derived.ProofKit
import Derived.OpenShut
namespace Go.Proofs.Ytmleopbelmibcaa
open Go.RowKit
set_option linter.unusedVariables false

theorem lives9 (w : World) :
    Calls Try.prog 16 #[] w fun e w' => e = .returned (.bool true) ∧ Below w.heap.size w w' := by
  have e0 : cellB 112 1 1 = true := by decide +kernel
  have e1 : innerB 112 0 = true := by decide +kernel
  have e2 : innerB 112 1 = false := by decide +kernel
  have e3 : innerB 112 2 = true := by decide +kernel
  have e4 : innerB 112 3 = false := by decide +kernel
  have r1 : ruleB false 3 = true := by decide +kernel
  have r2 : ruleB true 1 = false := by decide +kernel
  have HI : Hid (∀ w, Calls Try.prog 67 #[.int .u16 112] w fun e w' => e = .returned (.agg #[.bool true, .bool false, .bool true, .bool false]) ∧ Below w.heap.size w w') := fun w =>
    (inner_any 112 w (by omega)).mono fun e w' h => by unfold InnerPost at h; rw [e1, e2, e3, e4] at h; exact h
  have AI : Hid (∀ w, Calls Try.prog 66 #[.int .u16 112, .int .i64 1, .int .i64 1] w fun e w' => e = .returned (.bool true) ∧ w = w') := fun w =>
    (at_in 112 1 1 w (by omega) (by omega) (by omega) (by omega) (by omega)).mono fun e w' h => by rw [e0] at h; exact h
  clear e0 e1 e2 e3 e4
  have qa : ∀ w, (binOp BinOp.eql 91 (.agg #[.bool true, .bool false, .bool true, .bool false]) (.agg #[.bool true, .bool false, .bool true, .bool false])).run Try.prog w = .ok (.bool true) w := fun w => by kernel_rfl
  go_enter Try.func16, Try.ntmps16
  go_wp2_with (first | (go_at_call 66; refine (AI.out _).mono ?_; rintro e w' ⟨rfl, rfl⟩) | (go_at_call 17; refine (rule_any _ _ _).mono ?_; rintro e w' ⟨rfl, rfl⟩) | (go_at_call 67; refine (HI.out _).mono ?_; rintro e w' ⟨rfl, hb⟩))
  go_ret
  exact ⟨rfl, hb⟩

/-! the row -/
theorem baseRule_walk (a0 : Bool) (a1 : Int) (_w1 : (Lit.int .i64 a1).wf = true) (w : World) :
    Calls Try.prog 4 #[.bool a0, .int .i64 a1] w fun e w' => e = .returned (.bool true) ∧ Below w.heap.size w w' := by
  cases a0 <;> cases h3 : (a1 == 3) <;> cases h2 : (a1 == 2) <;>
  · have r0 : ∀ b, ruleB b a1 = (a1 == 3 || (b && a1 == 2)) := fun _ => rfl
    have R := Lib.hid r0
    clear r0
    go_enter Try.func4, Try.ntmps4
    go_wp2_with (first | (go_at_call 16; refine (lives9 _).mono ?_; rintro e w' ⟨rfl, hb⟩) | (go_at_call 17; refine (rule_any _ _ _).mono ?_; rintro e w' ⟨rfl, rfl⟩))
    go_ret
    exact ⟨by simp [R.out, h3, h2], hb⟩
end Go.Proofs.Ytmleopbelmibcaa
