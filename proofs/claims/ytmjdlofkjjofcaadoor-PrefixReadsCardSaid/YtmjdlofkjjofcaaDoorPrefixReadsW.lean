/- PrefixReads, for any input. -/
import Derived.Test.YtmjdlofkjjofcaaDoorProg
import Derived.Test.YtmjdlofkjjofcaaDoorKit
import Derived.Test.YtmjdlofkjjofcaaDoorKitb
import Derived.Test.YtmjdlofkjjofcaaDoorOpen
import Derived.Test.YtmjdlofkjjofcaaDoorBytes
import Derived.Test.YtmjdlofkjjofcaaDoorInts
import Derived.Test.YtmjdlofkjjofcaaDoorPrefixL
import Derived.Test.YtmjdlofkjjofcaaDoorAs
import Derived.Test.YtmjdlofkjjofcaaDoorPrefixReads
namespace Go.Proofs.YtmjdlofkjjofcaaDoor
open Go.RowKit
set_option linter.unusedVariables false
theorem u16_wf {n : Int} (h : (Lit.int .u16 n).wf = true) : 0 ≤ n ∧ n ≤ 65535 := by
  simp only [Lit.wf, Bool.and_eq_true, decide_eq_true_eq] at h
  exact h
set_option maxRecDepth 100000 in
theorem prefixReads_out (A : Option Addr) (c n : Nat) (A1 : Option Addr) (c1 n1 : Nat) (w : World) (hl : n > 2000 ∨ n1 > 60) :
    Calls Tryd.prog 3 #[.slice A n c, .slice A1 n1 c1] w fun e w' => e = .returned (.bool true) ∧ Below w.heap.size w w' := by
  have hor : decide ((n : Int) > 2000) = true ∨ (decide ((n : Int) > 2000) = false ∧ decide ((n1 : Int) > 60) = true) := by
    simp only [decide_eq_true_eq, decide_eq_false_iff_not]
    omega
  have HB := Lib.hid (Below.refl w.heap.size w)
  clear hl
  rcases hor with g1 | ⟨g1, g2⟩
  all_goals
    go_enter Tryd.func3, Tryd.ntmps3
    go_wp2_with ((go_at_call 8); (with_reducible refine (lives2_any _).mono ?_); rintro e w1 ⟨rfl, b1⟩; have HB := Lib.hid (b_next HB.out b1); clear b1)
    go_ret
    exact ⟨rfl, HB.out⟩
set_option maxRecDepth 100000 in
theorem prefixReads_walk (A : Option Addr) (c : Nat) (l : List UInt8) (A1 : Option Addr) (c1 : Nat) (xs : List Int) {w : World} (h : Bs w w.heap.size A l) (hc : l.length ≤ c) (hc2 : c ≤ 140737488351232) (h1 : Is .u16 w w.heap.size A1 xs) (hu : ∀ n ∈ xs, (Lit.int .u16 n).wf = true) (hd : xs.length ≤ c1) (he : c1 * 2 ≤ 140737488351232) (hg : HT w) :
    Calls Tryd.prog 3 #[.slice A l.length c, .slice A1 xs.length c1] w fun e w' => e = .returned (.bool true) ∧ Below w.heap.size w w' := by
  by_cases hl : l.length > 2000 ∨ xs.length > 60
  · exact prefixReads_out A c l.length A1 c1 xs.length w hl
  · exact prefixReads_in A c l A1 c1 xs w h h1 (fun x hx => u16_wf (hu x hx)) (by omega) (by omega) hg
end Go.Proofs.YtmjdlofkjjofcaaDoor
