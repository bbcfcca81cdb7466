/- The walk of the statement GridTiles, from the arguments as they come in. -/
import Derived.Test.YtmleopbelmibcaaOpen
import Derived.Test.YtmleopbelmibcaaGridTilesLaw
namespace Go.Proofs.Ytmleopbelmibcaa
open Go.RowKit
set_option linter.unusedVariables false

theorem ct_pt : Try.prog.cellTypes Try.prog.depth 23 = some [2, 2] := by kernel_rfl
theorem ct_2u16 : Try.prog.cellTypes Try.prog.depth 31 = some [30, 30] := by kernel_rfl
theorem un_pt : [2, 2].map Try.prog.underlying = [IntKind.i64, IntKind.i64].map fun k => some (.int k) := by kernel_rfl
theorem un_2u16 : [30, 30].map Try.prog.underlying = [IntKind.u16, IntKind.u16].map fun k => some (.int k) := by kernel_rfl
theorem al_pt : aggLike Try.prog 23 = true := by kernel_rfl
theorem al_2u16 : aggLike Try.prog 31 = true := by kernel_rfl
theorem co_pt : Try.prog.cellsOf 23 = 2 := by kernel_rfl
theorem co_2u16 : Try.prog.cellsOf 31 = 2 := by kernel_rfl
set_option maxRecDepth 100000 in
theorem gridTiles_walk (v0 : Value) (n : Int) (v2 : Value) {W0 : World} {base : Nat} (h0 : Value.okWide Try.prog W0 .any base 23 v0) (h1 : (Lit.int .u8 n).wf = true) (h2 : Value.okWide Try.prog W0 .any base 31 v2) (w : World) :
    Calls Try.prog 5 #[v0, .int .u8 n, v2] w fun e w' => e = .returned (.bool true) ∧ Below w.heap.size w w' := by
  obtain ⟨x, y, rfl, _, _⟩ := ok_ints2 .i64 .i64 al_pt ct_pt co_pt un_pt h0
  obtain ⟨a, b, rfl, ra, rb⟩ := ok_ints2 .u16 .u16 al_2u16 ct_2u16 co_2u16 un_2u16 h2
  have rn := u8_rng h1
  have ra := u16_rng ra
  have rb := u16_rng rb
  cases h : insB x && insB y
  · exact gridTiles_out x y n a b w h
  · rw [Bool.and_eq_true] at h
    exact gridTiles_in x y n a b w h.1 h.2 rn.1 rn.2 ra.1 ra.2 rb.1 rb.2
end Go.Proofs.Ytmleopbelmibcaa
