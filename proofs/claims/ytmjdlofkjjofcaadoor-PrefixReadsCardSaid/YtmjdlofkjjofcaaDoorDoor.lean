/- What the laid variable gives a walk; a world that meets the condition. -/
import Derived.Test.YtmjdlofkjjofcaaDoorRows
import Derived.Test.YtmjdlofkjjofcaaDoorAs
import Derived.Test.YtmjdlofkjjofcaaDoorInts
import Derived.ChangeSame
import Derived.ChangeVars
import Derived.JoinedOf
import Derived.RowKit
import Derived.RowKitTokens
import Derived.LaidLaws
import Derived.LaidHandle
import Derived.Stop.Joined
namespace Go.Proofs.YtmjdlofkjjofcaaDoor
open Go.ChangeShapes Go.WideShapes Go.RowKit
theorem d_own : ownKnob Tryd.prog.godebug = none := by kernel_rfl
theorem d_et : Tryd.prog.globalNamed "errors.errorType" = some 0 := by kernel_rfl
theorem d_rt : (Tryd.prog.cutTypes.find? (·.1 == "internal/reflectlite.rtype")).map (·.2) = some 147 := by kernel_rfl
theorem d_row : ((List.range Tryd.prog.types.size).filter fun t => Tryd.prog.rowNamed t [101, 114, 114, 111, 114]) = [39] := by kernel_rfl
abbrev laid1 : List (String × DataW Unit) := [("errors.errorType", Rows.laid_errors_errorType)]
theorem ht_of_laid {W : World} (h : laidMetH Tryd.prog laid1 W) : HT W := by
  have h' : laidMet Tryd.prog [] W ∧ handlesMet Tryd.prog laid1 W := h
  obtain ⟨name, u, ty, e1, e2, e3, e4, e5⟩ := h'.2 _ (List.mem_singleton.2 rfl)
  have en : name = [101, 114, 114, 111, 114] := (Option.some.inj e1).symm
  subst en
  obtain rfl := Option.some.inj (d_rt.symm.trans e2)
  have hm : ty ∈ (List.range Tryd.prog.types.size).filter fun t => Tryd.prog.rowNamed t [101, 114, 114, 111, 114] := List.mem_filter.2 ⟨List.mem_range.2 e3, e4⟩
  rw [d_row] at hm
  obtain rfl := List.mem_singleton.1 hm
  have hh : typeHandle Tryd.prog 39 = .pointer (some ⟨5, 39, none⟩) := by kernel_rfl
  rw [hh] at e5
  unfold HT
  simpa using World.var?_cell d_et e5 0
noncomputable def laidWorld (os : Os) : World :=
  let w0 := World.holding Tryd.prog os ⟨#[], #[], []⟩
  { w0 with heap := w0.heap.modify 0 fun
      | .cells _ t frozen => .cells #[.iface 147 (hdl 39)] t frozen
      | o => o }
theorem laidWorld_met (os : Os) (args : Array Value) : laidMetH Tryd.prog laid1 ((laidWorld os).forCall (fun _ _ => 0) ⟨#[], args, []⟩).memory :=
  laidMetH_of_parts (laidMet_nil _ _) (by kernel_rfl)
end Go.Proofs.YtmjdlofkjjofcaaDoor
