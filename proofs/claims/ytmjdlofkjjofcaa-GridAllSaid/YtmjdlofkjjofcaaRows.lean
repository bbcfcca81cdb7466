/-
  No cell of these rows narrows 'for every input' (looked for: loops, veiled, ifaces, maps, wideKeys, modest, calm, conditions, laid).
  DERIVED. THE GIVEN ROWS OF THIS SEAT. 7 by the template 'for every input the law returns true; each argument reads behind the call as it read before'; 0 by the template 'total and deterministic' (their statements: YtmjdlofkjjofcaaTotals.lean).
  GIVEN WITH THE SEED: the statements are not yours to turn. If you find one false, say at which input.
  Laid BY PROGRAM, IN A SANDBOX (cutbox-rows.mjs): the forced cells as the released guide's own fill.sh prints them over the translation 8f87009b1f090931… (all of the seat's roots in one cut). By AI agents, Wed Nov 11 2026. No macro, syntax, notation, axiom, sorry.
-/
import Derived.Test.YtmjdlofkjjofcaaChecked
import GoSem.Claim
import GoSem.ClaimJoined
import GoSem.ClaimMapViews
import Derived.JoinedTies
import Derived.KernelRfl
namespace Go.Proofs.Ytmjdlofkjjofcaa
/- THE CELL 'sum', in the pinned program and in every row, IS THE sha256 OF THE DUMP (.gsa) THAT YtmjdlofkjjofcaaProg.lean LOADS. Nothing in Lean hashes anything: it is a label: what it is worth is what the hold of that sum in a sandbox is worth. -/
noncomputable def Try.pinned : Pinned := { name := "ytmjdlofkjjofcaa", sum := "8f87009b1f09093124ba3233d64dfe79c686cb2105bb0335cecf4a2fb08141ea", checked := Try.checked }
namespace Rows
def none {H : Type} : Left H := { results := [], args := [] }

/-- 'belvederelaw04.GridAll': WHATEVER THE INPUT: true; the input reads as it did. -/
def gridAllSpec : ChangeSpec := { name := "gridAll", fn := fun _ => fun
  | [d1, d2, d3] => { results := [.lit (.bool true)], args := [d1, d2, d3] }
  | _ => none }
def gridAllRow : OpenClaim := { program := "ytmjdlofkjjofcaa", sum := "8f87009b1f09093124ba3233d64dfe79c686cb2105bb0335cecf4a2fb08141ea", func := "belvedere/belvederelaw04.GridAll", spec := "gridAll", unfollowed := true, recurses := true, apart := false }
def GridAllSaid : Prop := gridAllRow.holds Try.pinned (OpenSpec.ofChange gridAllSpec)

/-- ITS FALSE NEIGHBOUR: 'it returns false'. Refute it at one input. -/
def gridAllWrong : ChangeSpec := { name := "gridAll", fn := fun _ => fun
  | [d1, d2, d3] => { results := [.lit (.bool false)], args := [d1, d2, d3] }
  | _ => none }
def GridAllWrongFalsely : Prop := gridAllRow.holds Try.pinned (OpenSpec.ofChange gridAllWrong)

/-- 'belvederelaw04.GridRects': WHATEVER THE INPUT: true; the input reads as it did. -/
def gridRectsSpec : ChangeSpec := { name := "gridRects", fn := fun _ => fun
  | [d1, d2, d3] => { results := [.lit (.bool true)], args := [d1, d2, d3] }
  | _ => none }
def gridRectsRow : OpenClaim := { program := "ytmjdlofkjjofcaa", sum := "8f87009b1f09093124ba3233d64dfe79c686cb2105bb0335cecf4a2fb08141ea", func := "belvedere/belvederelaw04.GridRects", spec := "gridRects", unfollowed := true, recurses := true, apart := false }
def GridRectsSaid : Prop := gridRectsRow.holds Try.pinned (OpenSpec.ofChange gridRectsSpec)

/-- ITS FALSE NEIGHBOUR: 'it returns false'. Refute it at one input. -/
def gridRectsWrong : ChangeSpec := { name := "gridRects", fn := fun _ => fun
  | [d1, d2, d3] => { results := [.lit (.bool false)], args := [d1, d2, d3] }
  | _ => none }
def GridRectsWrongFalsely : Prop := gridRectsRow.holds Try.pinned (OpenSpec.ofChange gridRectsWrong)

/-- 'belvederelaw03.SumRows': WHATEVER THE INPUT: true; the input reads as it did. -/
def sumRowsSpec : ChangeSpec := { name := "sumRows", fn := fun _ => fun
  | [d1, d2, d3] => { results := [.lit (.bool true)], args := [d1, d2, d3] }
  | _ => none }
def sumRowsRow : OpenClaim := { program := "ytmjdlofkjjofcaa", sum := "8f87009b1f09093124ba3233d64dfe79c686cb2105bb0335cecf4a2fb08141ea", func := "belvedere/belvederelaw03.SumRows", spec := "sumRows", apart := false }
def SumRowsSaid : Prop := sumRowsRow.holds Try.pinned (OpenSpec.ofChange sumRowsSpec)

/-- ITS FALSE NEIGHBOUR: 'it returns false'. Refute it at one input. -/
def sumRowsWrong : ChangeSpec := { name := "sumRows", fn := fun _ => fun
  | [d1, d2, d3] => { results := [.lit (.bool false)], args := [d1, d2, d3] }
  | _ => none }
def SumRowsWrongFalsely : Prop := sumRowsRow.holds Try.pinned (OpenSpec.ofChange sumRowsWrong)

/-- 'belvederelaw02.PrefixPuts': WHATEVER THE INPUT: true; the input reads as it did. -/
def prefixPutsSpec : ChangeSpec := { name := "prefixPuts", fn := fun _ => fun
  | [d1, d2, d3] => { results := [.lit (.bool true)], args := [d1, d2, d3] }
  | _ => none }
def prefixPutsRow : OpenClaim := { program := "ytmjdlofkjjofcaa", sum := "8f87009b1f09093124ba3233d64dfe79c686cb2105bb0335cecf4a2fb08141ea", func := "belvedere/belvederelaw02.PrefixPuts", spec := "prefixPuts", apart := false }
def PrefixPutsSaid : Prop := prefixPutsRow.holds Try.pinned (OpenSpec.ofChange prefixPutsSpec)

/-- ITS FALSE NEIGHBOUR: 'it returns false'. Refute it at one input. -/
def prefixPutsWrong : ChangeSpec := { name := "prefixPuts", fn := fun _ => fun
  | [d1, d2, d3] => { results := [.lit (.bool false)], args := [d1, d2, d3] }
  | _ => none }
def PrefixPutsWrongFalsely : Prop := prefixPutsRow.holds Try.pinned (OpenSpec.ofChange prefixPutsWrong)

/-- 'belvederelaw15.TileBytes': WHATEVER THE INPUT: true; the input reads as it did. -/
def tileBytesSpec : ChangeSpec := { name := "tileBytes", fn := fun _ => fun
  | [d1, d2] => { results := [.lit (.bool true)], args := [d1, d2] }
  | _ => none }
def tileBytesRow : OpenClaim := { program := "ytmjdlofkjjofcaa", sum := "8f87009b1f09093124ba3233d64dfe79c686cb2105bb0335cecf4a2fb08141ea", func := "belvedere/belvederelaw15.TileBytes", spec := "tileBytes", apart := false }
def TileBytesSaid : Prop := tileBytesRow.holds Try.pinned (OpenSpec.ofChange tileBytesSpec)

/-- ITS FALSE NEIGHBOUR: 'it returns false'. Refute it at one input. -/
def tileBytesWrong : ChangeSpec := { name := "tileBytes", fn := fun _ => fun
  | [d1, d2] => { results := [.lit (.bool false)], args := [d1, d2] }
  | _ => none }
def TileBytesWrongFalsely : Prop := tileBytesRow.holds Try.pinned (OpenSpec.ofChange tileBytesWrong)

/-- 'belvederelaw12.RootsNil': WHATEVER THE INPUT: true; the input reads as it did. -/
def rootsNilSpec : ChangeSpec := { name := "rootsNil", fn := fun _ => fun
  | [d] => { results := [.lit (.bool true)], args := [d] }
  | _ => none }
def rootsNilRow : OpenClaim := { program := "ytmjdlofkjjofcaa", sum := "8f87009b1f09093124ba3233d64dfe79c686cb2105bb0335cecf4a2fb08141ea", func := "belvedere/belvederelaw12.RootsNil", spec := "rootsNil", inPlace := ["internal/reflectlite.TypeOf"], unfollowed := true, recurses := true, apart := false }
def RootsNilSaid : Prop := rootsNilRow.holds Try.pinned (OpenSpec.ofChange rootsNilSpec)

/-- ITS FALSE NEIGHBOUR: 'it returns false'. Refute it at one input. -/
def rootsNilWrong : ChangeSpec := { name := "rootsNil", fn := fun _ => fun
  | [d] => { results := [.lit (.bool false)], args := [d] }
  | _ => none }
def RootsNilWrongFalsely : Prop := rootsNilRow.holds Try.pinned (OpenSpec.ofChange rootsNilWrong)

/-- 'belvederelaw20.OutboxNil': WHATEVER THE INPUT: true; the input reads as it did. -/
def outboxNilSpec : ChangeSpec := { name := "outboxNil", fn := fun _ => fun
  | [d] => { results := [.lit (.bool true)], args := [d] }
  | _ => none }
def outboxNilRow : OpenClaim := { program := "ytmjdlofkjjofcaa", sum := "8f87009b1f09093124ba3233d64dfe79c686cb2105bb0335cecf4a2fb08141ea", func := "belvedere/belvederelaw20.OutboxNil", spec := "outboxNil", inPlace := ["internal/reflectlite.TypeOf"], unfollowed := true, recurses := true, apart := false }
def OutboxNilSaid : Prop := outboxNilRow.holds Try.pinned (OpenSpec.ofChange outboxNilSpec)

/-- ITS FALSE NEIGHBOUR: 'it returns false'. Refute it at one input. -/
def outboxNilWrong : ChangeSpec := { name := "outboxNil", fn := fun _ => fun
  | [d] => { results := [.lit (.bool false)], args := [d] }
  | _ => none }
def OutboxNilWrongFalsely : Prop := outboxNilRow.holds Try.pinned (OpenSpec.ofChange outboxNilWrong)

/- THE SECOND FORM. 'bulk': how many values and letters a reading holds, each counted each time it is reached (what is shared counts as often as it is met; a slice's spare places count too). A statement '..UptoSaid' is the law's where the arguments, and the package variables that the reading takes, are together of bulk at most 1048576: NARROWER than '..Said'. Prove '..Said' where nothing that the law and all that it calls make is longer than what came in: it says more and counts as full. Else prove '..UptoSaid'. A law counts once. -/
mutual
def uptoBulk {H : Type} : DataW H → Nat
  | .lit (.string bytes) => bytes.length + 1
  | .lit _ => 1
  | .nil => 1
  | .ptr d => uptoBulk d + 1
  | .slice elems spare => uptoBulkAll elems + uptoBulkAll spare + 1
  | .agg parts => uptoBulkAll parts + 1
  | .iface _ d => uptoBulk d + 1
  | .map entries => uptoBulkEntries entries + 1
  | .held _ => 1
def uptoBulkAll {H : Type} : List (DataW H) → Nat
  | [] => 0
  | d :: r => uptoBulk d + uptoBulkAll r
def uptoBulkEntries {H : Type} : List (Lit × DataW H) → Nat
  | [] => 0
  | x :: r => uptoBulkEntry x + uptoBulkEntries r
def uptoBulkEntry {H : Type} : Lit × DataW H → Nat
  | (.string bytes, d) => bytes.length + uptoBulk d + 1
  | (_, d) => uptoBulk d + 1
 end
def uptoSmall : (H : Type) → List (DataW H) → Bool := fun _ ds => decide (uptoBulkAll ds ≤ 1048576)
def OpenSpec.upto (s : _root_.Go.ChangeSpec) : _root_.Go.OpenSpec := { _root_.Go.OpenSpec.ofChange s with cond := some uptoSmall }

/-- 'belvederelaw04.GridAll', WHERE WHAT IT READS IS OF BULK AT MOST 1048576: true; the input reads as it did. -/
def gridAllUptoRow : OpenClaim := { program := "ytmjdlofkjjofcaa", sum := "8f87009b1f09093124ba3233d64dfe79c686cb2105bb0335cecf4a2fb08141ea", func := "belvedere/belvederelaw04.GridAll", spec := "gridAll", unfollowed := true, recurses := true, apart := false, narrowed := true }
def GridAllUptoSaid : Prop := gridAllUptoRow.holds Try.pinned (OpenSpec.upto gridAllSpec)

/-- 'belvederelaw04.GridRects', WHERE WHAT IT READS IS OF BULK AT MOST 1048576: true; the input reads as it did. -/
def gridRectsUptoRow : OpenClaim := { program := "ytmjdlofkjjofcaa", sum := "8f87009b1f09093124ba3233d64dfe79c686cb2105bb0335cecf4a2fb08141ea", func := "belvedere/belvederelaw04.GridRects", spec := "gridRects", unfollowed := true, recurses := true, apart := false, narrowed := true }
def GridRectsUptoSaid : Prop := gridRectsUptoRow.holds Try.pinned (OpenSpec.upto gridRectsSpec)

/-- 'belvederelaw03.SumRows', WHERE WHAT IT READS IS OF BULK AT MOST 1048576: true; the input reads as it did. -/
def sumRowsUptoRow : OpenClaim := { program := "ytmjdlofkjjofcaa", sum := "8f87009b1f09093124ba3233d64dfe79c686cb2105bb0335cecf4a2fb08141ea", func := "belvedere/belvederelaw03.SumRows", spec := "sumRows", apart := false, narrowed := true }
def SumRowsUptoSaid : Prop := sumRowsUptoRow.holds Try.pinned (OpenSpec.upto sumRowsSpec)

/-- 'belvederelaw02.PrefixPuts', WHERE WHAT IT READS IS OF BULK AT MOST 1048576: true; the input reads as it did. -/
def prefixPutsUptoRow : OpenClaim := { program := "ytmjdlofkjjofcaa", sum := "8f87009b1f09093124ba3233d64dfe79c686cb2105bb0335cecf4a2fb08141ea", func := "belvedere/belvederelaw02.PrefixPuts", spec := "prefixPuts", apart := false, narrowed := true }
def PrefixPutsUptoSaid : Prop := prefixPutsUptoRow.holds Try.pinned (OpenSpec.upto prefixPutsSpec)

/-- 'belvederelaw15.TileBytes', WHERE WHAT IT READS IS OF BULK AT MOST 1048576: true; the input reads as it did. -/
def tileBytesUptoRow : OpenClaim := { program := "ytmjdlofkjjofcaa", sum := "8f87009b1f09093124ba3233d64dfe79c686cb2105bb0335cecf4a2fb08141ea", func := "belvedere/belvederelaw15.TileBytes", spec := "tileBytes", apart := false, narrowed := true }
def TileBytesUptoSaid : Prop := tileBytesUptoRow.holds Try.pinned (OpenSpec.upto tileBytesSpec)

/-- 'belvederelaw12.RootsNil', WHERE WHAT IT READS IS OF BULK AT MOST 1048576: true; the input reads as it did. -/
def rootsNilUptoRow : OpenClaim := { program := "ytmjdlofkjjofcaa", sum := "8f87009b1f09093124ba3233d64dfe79c686cb2105bb0335cecf4a2fb08141ea", func := "belvedere/belvederelaw12.RootsNil", spec := "rootsNil", inPlace := ["internal/reflectlite.TypeOf"], unfollowed := true, recurses := true, apart := false, narrowed := true }
def RootsNilUptoSaid : Prop := rootsNilUptoRow.holds Try.pinned (OpenSpec.upto rootsNilSpec)

/-- 'belvederelaw20.OutboxNil', WHERE WHAT IT READS IS OF BULK AT MOST 1048576: true; the input reads as it did. -/
def outboxNilUptoRow : OpenClaim := { program := "ytmjdlofkjjofcaa", sum := "8f87009b1f09093124ba3233d64dfe79c686cb2105bb0335cecf4a2fb08141ea", func := "belvedere/belvederelaw20.OutboxNil", spec := "outboxNil", inPlace := ["internal/reflectlite.TypeOf"], unfollowed := true, recurses := true, apart := false, narrowed := true }
def OutboxNilUptoSaid : Prop := outboxNilUptoRow.holds Try.pinned (OpenSpec.upto outboxNilSpec)

end Rows
end Go.Proofs.Ytmjdlofkjjofcaa
