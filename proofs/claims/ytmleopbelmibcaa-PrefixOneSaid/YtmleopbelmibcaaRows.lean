/-
  No cell of these rows narrows 'for every input' (looked for: loops, veiled, ifaces, maps, wideKeys, modest, calm, conditions, laid).
  DERIVED. THE GIVEN ROWS OF THIS SEAT. 11 by the template 'for every input the law returns true; each argument reads behind the call as it read before'; 0 by the template 'total and deterministic' (their statements: YtmleopbelmibcaaTotals.lean).
  GIVEN WITH THE SEED: the statements are not yours to turn. If you find one false, say at which input.
  Laid BY PROGRAM, IN A SANDBOX (cutbox-rows.mjs): the forced cells as the released guide's own fill.sh prints them over the translation c5f558043c57ed4e… (all of the seat's roots in one cut). By AI agents, Wed Nov 11 2026. No macro, syntax, notation, axiom, sorry.
-/
import Derived.Test.YtmleopbelmibcaaChecked
import GoSem.Claim
import GoSem.ClaimJoined
import GoSem.ClaimMapViews
import Derived.JoinedTies
import Derived.KernelRfl
namespace Go.Proofs.Ytmleopbelmibcaa
/- THE CELL 'sum', in the pinned program and in every row, IS THE sha256 OF THE DUMP (.gsa) THAT YtmleopbelmibcaaProg.lean LOADS. Nothing in Lean hashes anything: it is a label: what it is worth is what the hold of that sum in a sandbox is worth. -/
noncomputable def Try.pinned : Pinned := { name := "ytmleopbelmibcaa", sum := "c5f558043c57ed4e491533c3f00d970ad9f53fabc7b51428600597bcf18e3548", checked := Try.checked }
namespace Rows
def none {H : Type} : Left H := { results := [], args := [] }

/-- 'belvederelaw04.GridAll': WHATEVER THE INPUT: true; the input reads as it did. -/
def gridAllSpec : ChangeSpec := { name := "gridAll", fn := fun _ => fun
  | [d1, d2, d3] => { results := [.lit (.bool true)], args := [d1, d2, d3] }
  | _ => none }
def gridAllRow : OpenClaim := { program := "ytmleopbelmibcaa", sum := "c5f558043c57ed4e491533c3f00d970ad9f53fabc7b51428600597bcf18e3548", func := "belvedere/belvederelaw04.GridAll", spec := "gridAll", unfollowed := true, recurses := true, apart := false }
def GridAllSaid : Prop := gridAllRow.holds Try.pinned (OpenSpec.ofChange gridAllSpec)

/-- ITS FALSE NEIGHBOUR: 'it returns false'. Refute it at one input. -/
def gridAllWrong : ChangeSpec := { name := "gridAll", fn := fun _ => fun
  | [d1, d2, d3] => { results := [.lit (.bool false)], args := [d1, d2, d3] }
  | _ => none }
def GridAllWrongFalsely : Prop := gridAllRow.holds Try.pinned (OpenSpec.ofChange gridAllWrong)

/-- 'belvederelaw09.BaseRule': WHATEVER THE INPUT: true; the input reads as it did. -/
def baseRuleSpec : ChangeSpec := { name := "baseRule", fn := fun _ => fun
  | [d1, d2] => { results := [.lit (.bool true)], args := [d1, d2] }
  | _ => none }
def baseRuleRow : OpenClaim := { program := "ytmleopbelmibcaa", sum := "c5f558043c57ed4e491533c3f00d970ad9f53fabc7b51428600597bcf18e3548", func := "belvedere/belvederelaw09.BaseRule", spec := "baseRule", apart := false }
def BaseRuleSaid : Prop := baseRuleRow.holds Try.pinned (OpenSpec.ofChange baseRuleSpec)

/-- ITS FALSE NEIGHBOUR: 'it returns false'. Refute it at one input. -/
def baseRuleWrong : ChangeSpec := { name := "baseRule", fn := fun _ => fun
  | [d1, d2] => { results := [.lit (.bool false)], args := [d1, d2] }
  | _ => none }
def BaseRuleWrongFalsely : Prop := baseRuleRow.holds Try.pinned (OpenSpec.ofChange baseRuleWrong)

/-- 'belvederelaw04.GridTiles': WHATEVER THE INPUT: true; the input reads as it did. -/
def gridTilesSpec : ChangeSpec := { name := "gridTiles", fn := fun _ => fun
  | [d1, d2, d3] => { results := [.lit (.bool true)], args := [d1, d2, d3] }
  | _ => none }
def gridTilesRow : OpenClaim := { program := "ytmleopbelmibcaa", sum := "c5f558043c57ed4e491533c3f00d970ad9f53fabc7b51428600597bcf18e3548", func := "belvedere/belvederelaw04.GridTiles", spec := "gridTiles", apart := false }
def GridTilesSaid : Prop := gridTilesRow.holds Try.pinned (OpenSpec.ofChange gridTilesSpec)

/-- ITS FALSE NEIGHBOUR: 'it returns false'. Refute it at one input. -/
def gridTilesWrong : ChangeSpec := { name := "gridTiles", fn := fun _ => fun
  | [d1, d2, d3] => { results := [.lit (.bool false)], args := [d1, d2, d3] }
  | _ => none }
def GridTilesWrongFalsely : Prop := gridTilesRow.holds Try.pinned (OpenSpec.ofChange gridTilesWrong)

/-- 'belvederelaw03.SumFinds': WHATEVER THE INPUT: true; the input reads as it did. -/
def sumFindsSpec : ChangeSpec := { name := "sumFinds", fn := fun _ => fun
  | [d1, d2, d3] => { results := [.lit (.bool true)], args := [d1, d2, d3] }
  | _ => none }
def sumFindsRow : OpenClaim := { program := "ytmleopbelmibcaa", sum := "c5f558043c57ed4e491533c3f00d970ad9f53fabc7b51428600597bcf18e3548", func := "belvedere/belvederelaw03.SumFinds", spec := "sumFinds", apart := false }
def SumFindsSaid : Prop := sumFindsRow.holds Try.pinned (OpenSpec.ofChange sumFindsSpec)

/-- ITS FALSE NEIGHBOUR: 'it returns false'. Refute it at one input. -/
def sumFindsWrong : ChangeSpec := { name := "sumFinds", fn := fun _ => fun
  | [d1, d2, d3] => { results := [.lit (.bool false)], args := [d1, d2, d3] }
  | _ => none }
def SumFindsWrongFalsely : Prop := sumFindsRow.holds Try.pinned (OpenSpec.ofChange sumFindsWrong)

/-- 'belvederelaw04.GridRects': WHATEVER THE INPUT: true; the input reads as it did. -/
def gridRectsSpec : ChangeSpec := { name := "gridRects", fn := fun _ => fun
  | [d1, d2, d3] => { results := [.lit (.bool true)], args := [d1, d2, d3] }
  | _ => none }
def gridRectsRow : OpenClaim := { program := "ytmleopbelmibcaa", sum := "c5f558043c57ed4e491533c3f00d970ad9f53fabc7b51428600597bcf18e3548", func := "belvedere/belvederelaw04.GridRects", spec := "gridRects", unfollowed := true, recurses := true, apart := false }
def GridRectsSaid : Prop := gridRectsRow.holds Try.pinned (OpenSpec.ofChange gridRectsSpec)

/-- ITS FALSE NEIGHBOUR: 'it returns false'. Refute it at one input. -/
def gridRectsWrong : ChangeSpec := { name := "gridRects", fn := fun _ => fun
  | [d1, d2, d3] => { results := [.lit (.bool false)], args := [d1, d2, d3] }
  | _ => none }
def GridRectsWrongFalsely : Prop := gridRectsRow.holds Try.pinned (OpenSpec.ofChange gridRectsWrong)

/-- 'belvederelaw03.SumJoins': WHATEVER THE INPUT: true; the input reads as it did. -/
def sumJoinsSpec : ChangeSpec := { name := "sumJoins", fn := fun _ => fun
  | [d1, d2, d3] => { results := [.lit (.bool true)], args := [d1, d2, d3] }
  | _ => none }
def sumJoinsRow : OpenClaim := { program := "ytmleopbelmibcaa", sum := "c5f558043c57ed4e491533c3f00d970ad9f53fabc7b51428600597bcf18e3548", func := "belvedere/belvederelaw03.SumJoins", spec := "sumJoins", apart := false }
def SumJoinsSaid : Prop := sumJoinsRow.holds Try.pinned (OpenSpec.ofChange sumJoinsSpec)

/-- ITS FALSE NEIGHBOUR: 'it returns false'. Refute it at one input. -/
def sumJoinsWrong : ChangeSpec := { name := "sumJoins", fn := fun _ => fun
  | [d1, d2, d3] => { results := [.lit (.bool false)], args := [d1, d2, d3] }
  | _ => none }
def SumJoinsWrongFalsely : Prop := sumJoinsRow.holds Try.pinned (OpenSpec.ofChange sumJoinsWrong)

/-- 'belvederelaw04.GridPoints': WHATEVER THE INPUT: true; the input reads as it did. -/
def gridPointsSpec : ChangeSpec := { name := "gridPoints", fn := fun _ => fun
  | [d1, d2] => { results := [.lit (.bool true)], args := [d1, d2] }
  | _ => none }
def gridPointsRow : OpenClaim := { program := "ytmleopbelmibcaa", sum := "c5f558043c57ed4e491533c3f00d970ad9f53fabc7b51428600597bcf18e3548", func := "belvedere/belvederelaw04.GridPoints", spec := "gridPoints", inPlace := ["internal/reflectlite.TypeOf"], unfollowed := true, recurses := true, apart := false }
def GridPointsSaid : Prop := gridPointsRow.holds Try.pinned (OpenSpec.ofChange gridPointsSpec)

/-- ITS FALSE NEIGHBOUR: 'it returns false'. Refute it at one input. -/
def gridPointsWrong : ChangeSpec := { name := "gridPoints", fn := fun _ => fun
  | [d1, d2] => { results := [.lit (.bool false)], args := [d1, d2] }
  | _ => none }
def GridPointsWrongFalsely : Prop := gridPointsRow.holds Try.pinned (OpenSpec.ofChange gridPointsWrong)

/-- 'belvederelaw03.SumRows': WHATEVER THE INPUT: true; the input reads as it did. -/
def sumRowsSpec : ChangeSpec := { name := "sumRows", fn := fun _ => fun
  | [d1, d2, d3] => { results := [.lit (.bool true)], args := [d1, d2, d3] }
  | _ => none }
def sumRowsRow : OpenClaim := { program := "ytmleopbelmibcaa", sum := "c5f558043c57ed4e491533c3f00d970ad9f53fabc7b51428600597bcf18e3548", func := "belvedere/belvederelaw03.SumRows", spec := "sumRows", apart := false }
def SumRowsSaid : Prop := sumRowsRow.holds Try.pinned (OpenSpec.ofChange sumRowsSpec)

/-- ITS FALSE NEIGHBOUR: 'it returns false'. Refute it at one input. -/
def sumRowsWrong : ChangeSpec := { name := "sumRows", fn := fun _ => fun
  | [d1, d2, d3] => { results := [.lit (.bool false)], args := [d1, d2, d3] }
  | _ => none }
def SumRowsWrongFalsely : Prop := sumRowsRow.holds Try.pinned (OpenSpec.ofChange sumRowsWrong)

/-- 'belvederelaw02.PrefixOne': WHATEVER THE INPUT: true; the input reads as it did. -/
def prefixOneSpec : ChangeSpec := { name := "prefixOne", fn := fun _ => fun
  | [d1, d2, d3] => { results := [.lit (.bool true)], args := [d1, d2, d3] }
  | _ => none }
def prefixOneRow : OpenClaim := { program := "ytmleopbelmibcaa", sum := "c5f558043c57ed4e491533c3f00d970ad9f53fabc7b51428600597bcf18e3548", func := "belvedere/belvederelaw02.PrefixOne", spec := "prefixOne", apart := false }
def PrefixOneSaid : Prop := prefixOneRow.holds Try.pinned (OpenSpec.ofChange prefixOneSpec)

/-- ITS FALSE NEIGHBOUR: 'it returns false'. Refute it at one input. -/
def prefixOneWrong : ChangeSpec := { name := "prefixOne", fn := fun _ => fun
  | [d1, d2, d3] => { results := [.lit (.bool false)], args := [d1, d2, d3] }
  | _ => none }
def PrefixOneWrongFalsely : Prop := prefixOneRow.holds Try.pinned (OpenSpec.ofChange prefixOneWrong)

/-- 'belvederelaw02.PrefixPuts': WHATEVER THE INPUT: true; the input reads as it did. -/
def prefixPutsSpec : ChangeSpec := { name := "prefixPuts", fn := fun _ => fun
  | [d1, d2, d3] => { results := [.lit (.bool true)], args := [d1, d2, d3] }
  | _ => none }
def prefixPutsRow : OpenClaim := { program := "ytmleopbelmibcaa", sum := "c5f558043c57ed4e491533c3f00d970ad9f53fabc7b51428600597bcf18e3548", func := "belvedere/belvederelaw02.PrefixPuts", spec := "prefixPuts", apart := false }
def PrefixPutsSaid : Prop := prefixPutsRow.holds Try.pinned (OpenSpec.ofChange prefixPutsSpec)

/-- ITS FALSE NEIGHBOUR: 'it returns false'. Refute it at one input. -/
def prefixPutsWrong : ChangeSpec := { name := "prefixPuts", fn := fun _ => fun
  | [d1, d2, d3] => { results := [.lit (.bool false)], args := [d1, d2, d3] }
  | _ => none }
def PrefixPutsWrongFalsely : Prop := prefixPutsRow.holds Try.pinned (OpenSpec.ofChange prefixPutsWrong)

/-- 'belvederelaw02.PrefixNil': WHATEVER THE INPUT: true; the input reads as it did. -/
def prefixNilSpec : ChangeSpec := { name := "prefixNil", fn := fun _ => fun
  | [d] => { results := [.lit (.bool true)], args := [d] }
  | _ => none }
def prefixNilRow : OpenClaim := { program := "ytmleopbelmibcaa", sum := "c5f558043c57ed4e491533c3f00d970ad9f53fabc7b51428600597bcf18e3548", func := "belvedere/belvederelaw02.PrefixNil", spec := "prefixNil", inPlace := ["internal/reflectlite.TypeOf"], unfollowed := true, recurses := true, apart := false }
def PrefixNilSaid : Prop := prefixNilRow.holds Try.pinned (OpenSpec.ofChange prefixNilSpec)

/-- ITS FALSE NEIGHBOUR: 'it returns false'. Refute it at one input. -/
def prefixNilWrong : ChangeSpec := { name := "prefixNil", fn := fun _ => fun
  | [d] => { results := [.lit (.bool false)], args := [d] }
  | _ => none }
def PrefixNilWrongFalsely : Prop := prefixNilRow.holds Try.pinned (OpenSpec.ofChange prefixNilWrong)

/- THE SECOND FORM. 'bulk': how many values and letters a reading holds, each counted each time it is reached (what is shared counts as often as it is met; a slice's spare places count too). A statement '..UptoSaid' is the law's where the arguments, and the package variables that the reading takes, are together of bulk at most 1048576: NARROWER than '..Said'. Prove '..Said' where nothing that the law and all that it calls make is longer than what came in: it says more and counts as full. Else prove '..UptoSaid'. A law counts once. -/
mutual
def uptoBulk {H : Type} : DataW H → Nat
  | .lit (.string bytes) => bytes.length + 1
  | .lit _ => 1
  | .nil => 1
  | .ptr d => uptoBulk d + 1
  | .slice elems spare => uptoBulkAll elems + uptoBulkAll spare + 1
  | .agg parts => uptoBulkAll parts + 1
  | .iface _ d => uptoBulk d + 1
  | .map entries => uptoBulkEntries entries + 1
  | .held _ => 1
def uptoBulkAll {H : Type} : List (DataW H) → Nat
  | [] => 0
  | d :: r => uptoBulk d + uptoBulkAll r
def uptoBulkEntries {H : Type} : List (Lit × DataW H) → Nat
  | [] => 0
  | x :: r => uptoBulkEntry x + uptoBulkEntries r
def uptoBulkEntry {H : Type} : Lit × DataW H → Nat
  | (.string bytes, d) => bytes.length + uptoBulk d + 1
  | (_, d) => uptoBulk d + 1
 end
def uptoSmall : (H : Type) → List (DataW H) → Bool := fun _ ds => decide (uptoBulkAll ds ≤ 1048576)
def OpenSpec.upto (s : _root_.Go.ChangeSpec) : _root_.Go.OpenSpec := { _root_.Go.OpenSpec.ofChange s with cond := some uptoSmall }

/-- 'belvederelaw04.GridAll', WHERE WHAT IT READS IS OF BULK AT MOST 1048576: true; the input reads as it did. -/
def gridAllUptoRow : OpenClaim := { program := "ytmleopbelmibcaa", sum := "c5f558043c57ed4e491533c3f00d970ad9f53fabc7b51428600597bcf18e3548", func := "belvedere/belvederelaw04.GridAll", spec := "gridAll", unfollowed := true, recurses := true, apart := false, narrowed := true }
def GridAllUptoSaid : Prop := gridAllUptoRow.holds Try.pinned (OpenSpec.upto gridAllSpec)

/-- 'belvederelaw09.BaseRule', WHERE WHAT IT READS IS OF BULK AT MOST 1048576: true; the input reads as it did. -/
def baseRuleUptoRow : OpenClaim := { program := "ytmleopbelmibcaa", sum := "c5f558043c57ed4e491533c3f00d970ad9f53fabc7b51428600597bcf18e3548", func := "belvedere/belvederelaw09.BaseRule", spec := "baseRule", apart := false, narrowed := true }
def BaseRuleUptoSaid : Prop := baseRuleUptoRow.holds Try.pinned (OpenSpec.upto baseRuleSpec)

/-- 'belvederelaw04.GridTiles', WHERE WHAT IT READS IS OF BULK AT MOST 1048576: true; the input reads as it did. -/
def gridTilesUptoRow : OpenClaim := { program := "ytmleopbelmibcaa", sum := "c5f558043c57ed4e491533c3f00d970ad9f53fabc7b51428600597bcf18e3548", func := "belvedere/belvederelaw04.GridTiles", spec := "gridTiles", apart := false, narrowed := true }
def GridTilesUptoSaid : Prop := gridTilesUptoRow.holds Try.pinned (OpenSpec.upto gridTilesSpec)

/-- 'belvederelaw03.SumFinds', WHERE WHAT IT READS IS OF BULK AT MOST 1048576: true; the input reads as it did. -/
def sumFindsUptoRow : OpenClaim := { program := "ytmleopbelmibcaa", sum := "c5f558043c57ed4e491533c3f00d970ad9f53fabc7b51428600597bcf18e3548", func := "belvedere/belvederelaw03.SumFinds", spec := "sumFinds", apart := false, narrowed := true }
def SumFindsUptoSaid : Prop := sumFindsUptoRow.holds Try.pinned (OpenSpec.upto sumFindsSpec)

/-- 'belvederelaw04.GridRects', WHERE WHAT IT READS IS OF BULK AT MOST 1048576: true; the input reads as it did. -/
def gridRectsUptoRow : OpenClaim := { program := "ytmleopbelmibcaa", sum := "c5f558043c57ed4e491533c3f00d970ad9f53fabc7b51428600597bcf18e3548", func := "belvedere/belvederelaw04.GridRects", spec := "gridRects", unfollowed := true, recurses := true, apart := false, narrowed := true }
def GridRectsUptoSaid : Prop := gridRectsUptoRow.holds Try.pinned (OpenSpec.upto gridRectsSpec)

/-- 'belvederelaw03.SumJoins', WHERE WHAT IT READS IS OF BULK AT MOST 1048576: true; the input reads as it did. -/
def sumJoinsUptoRow : OpenClaim := { program := "ytmleopbelmibcaa", sum := "c5f558043c57ed4e491533c3f00d970ad9f53fabc7b51428600597bcf18e3548", func := "belvedere/belvederelaw03.SumJoins", spec := "sumJoins", apart := false, narrowed := true }
def SumJoinsUptoSaid : Prop := sumJoinsUptoRow.holds Try.pinned (OpenSpec.upto sumJoinsSpec)

/-- 'belvederelaw04.GridPoints', WHERE WHAT IT READS IS OF BULK AT MOST 1048576: true; the input reads as it did. -/
def gridPointsUptoRow : OpenClaim := { program := "ytmleopbelmibcaa", sum := "c5f558043c57ed4e491533c3f00d970ad9f53fabc7b51428600597bcf18e3548", func := "belvedere/belvederelaw04.GridPoints", spec := "gridPoints", inPlace := ["internal/reflectlite.TypeOf"], unfollowed := true, recurses := true, apart := false, narrowed := true }
def GridPointsUptoSaid : Prop := gridPointsUptoRow.holds Try.pinned (OpenSpec.upto gridPointsSpec)

/-- 'belvederelaw03.SumRows', WHERE WHAT IT READS IS OF BULK AT MOST 1048576: true; the input reads as it did. -/
def sumRowsUptoRow : OpenClaim := { program := "ytmleopbelmibcaa", sum := "c5f558043c57ed4e491533c3f00d970ad9f53fabc7b51428600597bcf18e3548", func := "belvedere/belvederelaw03.SumRows", spec := "sumRows", apart := false, narrowed := true }
def SumRowsUptoSaid : Prop := sumRowsUptoRow.holds Try.pinned (OpenSpec.upto sumRowsSpec)

/-- 'belvederelaw02.PrefixOne', WHERE WHAT IT READS IS OF BULK AT MOST 1048576: true; the input reads as it did. -/
def prefixOneUptoRow : OpenClaim := { program := "ytmleopbelmibcaa", sum := "c5f558043c57ed4e491533c3f00d970ad9f53fabc7b51428600597bcf18e3548", func := "belvedere/belvederelaw02.PrefixOne", spec := "prefixOne", apart := false, narrowed := true }
def PrefixOneUptoSaid : Prop := prefixOneUptoRow.holds Try.pinned (OpenSpec.upto prefixOneSpec)

/-- 'belvederelaw02.PrefixPuts', WHERE WHAT IT READS IS OF BULK AT MOST 1048576: true; the input reads as it did. -/
def prefixPutsUptoRow : OpenClaim := { program := "ytmleopbelmibcaa", sum := "c5f558043c57ed4e491533c3f00d970ad9f53fabc7b51428600597bcf18e3548", func := "belvedere/belvederelaw02.PrefixPuts", spec := "prefixPuts", apart := false, narrowed := true }
def PrefixPutsUptoSaid : Prop := prefixPutsUptoRow.holds Try.pinned (OpenSpec.upto prefixPutsSpec)

/-- 'belvederelaw02.PrefixNil', WHERE WHAT IT READS IS OF BULK AT MOST 1048576: true; the input reads as it did. -/
def prefixNilUptoRow : OpenClaim := { program := "ytmleopbelmibcaa", sum := "c5f558043c57ed4e491533c3f00d970ad9f53fabc7b51428600597bcf18e3548", func := "belvedere/belvederelaw02.PrefixNil", spec := "prefixNil", inPlace := ["internal/reflectlite.TypeOf"], unfollowed := true, recurses := true, apart := false, narrowed := true }
def PrefixNilUptoSaid : Prop := prefixNilUptoRow.holds Try.pinned (OpenSpec.upto prefixNilSpec)

end Rows
end Go.Proofs.Ytmleopbelmibcaa
