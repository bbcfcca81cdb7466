/- Contracts of package grid that planes need, over this seat's program. -/
import Derived.Test.YtjiliiclebdbfaaProg
import Derived.Test.YtjiliiclebdbfaaKit
import Derived.Deep.QuietTactic
import Derived.BigQuiet
namespace Go.Proofs.Ytjiliiclebdbfaa
open Go.RowKit
set_option linter.unusedVariables false
set_option linter.unusedSimpArgs false

def insB (n : Int) : Bool := decide (-2305843009213693952 < n) && decide (n < 2305843009213693952)

theorem inside_any (n : Int) (w : World) :
    Calls Try.prog 85 #[.int .i64 n] w fun e w' => e = .returned (.bool (insB n)) ∧ w = w' := by
  cases h1 : decide (-2305843009213693952 < n) <;> cases h2 : decide (n < 2305843009213693952) <;>
  · go_enter Try.func85, Try.ntmps85
    go_wp2
    go_ret
    exact ⟨by simp only [insB, h1, h2]; rfl, rfl⟩

theorem pright_any (x y : Int) (w : World) :
    Calls Try.prog 51 #[.agg #[.int .i64 (x), .int .i64 (y)]] w fun e w' => e = .returned (.bool (insB x && insB y)) ∧ Below w.heap.size w w' := by
  cases h1 : insB x <;> cases h2 : insB y <;>
  · go_enter Try.func51, Try.ntmps51
    go_wp2_with (go_at_call 85; refine (inside_any _ _).mono ?_; rintro e w' ⟨rfl, rfl⟩)
    go_ret
    exact ⟨by first | rfl | simp [h1, h2], by (repeat' (first | (with_reducible exact Below.refl _ _) | (with_reducible assumption) | (with_reducible refine Below.setCell ?_ ?_ _) | (with_reducible refine Below.alloc ?_ ?_ _) | (with_reducible refine below_dn ?_ _) | (with_reducible refine below_call ?_ ?_ (by assumption)) | (with_reducible refine Below.drew ?_) | go_size))⟩

end Go.Proofs.Ytjiliiclebdbfaa
