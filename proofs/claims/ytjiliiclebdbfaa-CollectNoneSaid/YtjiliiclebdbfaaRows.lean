/-
  No cell of these rows narrows 'for every input' (looked for: loops, veiled, ifaces, maps, wideKeys, modest, calm, conditions, laid).
  DERIVED. THE GIVEN ROWS OF THIS SEAT. 11 by the template 'for every input the law returns true; each argument reads behind the call as it read before'; 0 by the template 'total and deterministic' (their statements: YtjiliiclebdbfaaTotals.lean).
  GIVEN WITH THE SEED: the statements are not yours to turn. If you find one false, say at which input.
  Laid BY PROGRAM, IN A SANDBOX (cutbox-rows.mjs): the forced cells as the released guide's own fill.sh prints them over the translation bfc5cda38c7ace51… (all of the seat's roots in one cut). By AI agents, Wed Nov 11 2026. No macro, syntax, notation, axiom, sorry.
-/
import Derived.Test.YtjiliiclebdbfaaChecked
import GoSem.Claim
import GoSem.ClaimJoined
import GoSem.ClaimMapViews
import Derived.JoinedTies
import Derived.KernelRfl
namespace Go.Proofs.Ytjiliiclebdbfaa
/- THE CELL 'sum', in the pinned program and in every row, IS THE sha256 OF THE DUMP (.gsa) THAT YtjiliiclebdbfaaProg.lean LOADS. Nothing in Lean hashes anything: it is a label: what it is worth is what the hold of that sum in a sandbox is worth. -/
noncomputable def Try.pinned : Pinned := { name := "ytjiliiclebdbfaa", sum := "bfc5cda38c7ace516d4b99b54dbfa37fef26b44063f96862a3d6751e1fc99c81", checked := Try.checked }
namespace Rows
def none {H : Type} : Left H := { results := [], args := [] }

/-- 'belvederelaw06.StoreOnce': WHATEVER THE INPUT: true; the input reads as it did. -/
def storeOnceSpec : ChangeSpec := { name := "storeOnce", fn := fun _ => fun
  | [d1, d2] => { results := [.lit (.bool true)], args := [d1, d2] }
  | _ => none }
def storeOnceRow : OpenClaim := { program := "ytjiliiclebdbfaa", sum := "bfc5cda38c7ace516d4b99b54dbfa37fef26b44063f96862a3d6751e1fc99c81", func := "belvedere/belvederelaw06.StoreOnce", spec := "storeOnce", plainKeys := false, apart := false }
def StoreOnceSaid : Prop := storeOnceRow.holds Try.pinned (OpenSpec.ofChange storeOnceSpec)

/-- ITS FALSE NEIGHBOUR: 'it returns false'. Refute it at one input. -/
def storeOnceWrong : ChangeSpec := { name := "storeOnce", fn := fun _ => fun
  | [d1, d2] => { results := [.lit (.bool false)], args := [d1, d2] }
  | _ => none }
def StoreOnceWrongFalsely : Prop := storeOnceRow.holds Try.pinned (OpenSpec.ofChange storeOnceWrong)

/-- 'belvederelaw09.BaseFours': WHATEVER THE INPUT: true; the input reads as it did. -/
def baseFoursSpec : ChangeSpec := { name := "baseFours", fn := fun _ => fun
  | [d1, d2, d3] => { results := [.lit (.bool true)], args := [d1, d2, d3] }
  | _ => none }
def baseFoursRow : OpenClaim := { program := "ytjiliiclebdbfaa", sum := "bfc5cda38c7ace516d4b99b54dbfa37fef26b44063f96862a3d6751e1fc99c81", func := "belvedere/belvederelaw09.BaseFours", spec := "baseFours", plainKeys := false, apart := false }
def BaseFoursSaid : Prop := baseFoursRow.holds Try.pinned (OpenSpec.ofChange baseFoursSpec)

/-- ITS FALSE NEIGHBOUR: 'it returns false'. Refute it at one input. -/
def baseFoursWrong : ChangeSpec := { name := "baseFours", fn := fun _ => fun
  | [d1, d2, d3] => { results := [.lit (.bool false)], args := [d1, d2, d3] }
  | _ => none }
def BaseFoursWrongFalsely : Prop := baseFoursRow.holds Try.pinned (OpenSpec.ofChange baseFoursWrong)

/-- 'belvederelaw06.StoreArgs': WHATEVER THE INPUT: true; the input reads as it did. -/
def storeArgsSpec : ChangeSpec := { name := "storeArgs", fn := fun _ => fun
  | [d1, d2, d3] => { results := [.lit (.bool true)], args := [d1, d2, d3] }
  | _ => none }
def storeArgsRow : OpenClaim := { program := "ytjiliiclebdbfaa", sum := "bfc5cda38c7ace516d4b99b54dbfa37fef26b44063f96862a3d6751e1fc99c81", func := "belvedere/belvederelaw06.StoreArgs", spec := "storeArgs", inPlace := ["internal/reflectlite.TypeOf"], unfollowed := true, recurses := true, plainKeys := false, apart := false }
def StoreArgsSaid : Prop := storeArgsRow.holds Try.pinned (OpenSpec.ofChange storeArgsSpec)

/-- ITS FALSE NEIGHBOUR: 'it returns false'. Refute it at one input. -/
def storeArgsWrong : ChangeSpec := { name := "storeArgs", fn := fun _ => fun
  | [d1, d2, d3] => { results := [.lit (.bool false)], args := [d1, d2, d3] }
  | _ => none }
def StoreArgsWrongFalsely : Prop := storeArgsRow.holds Try.pinned (OpenSpec.ofChange storeArgsWrong)

/-- 'belvederelaw13.CollectNone': WHATEVER THE INPUT: true; the input reads as it did. -/
def collectNoneSpec : ChangeSpec := { name := "collectNone", fn := fun _ => fun
  | [d] => { results := [.lit (.bool true)], args := [d] }
  | _ => none }
def collectNoneRow : OpenClaim := { program := "ytjiliiclebdbfaa", sum := "bfc5cda38c7ace516d4b99b54dbfa37fef26b44063f96862a3d6751e1fc99c81", func := "belvedere/belvederelaw13.CollectNone", spec := "collectNone", inPlace := ["internal/reflectlite.TypeOf"], unfollowed := true, recurses := true, plainKeys := false, apart := false }
def CollectNoneSaid : Prop := collectNoneRow.holds Try.pinned (OpenSpec.ofChange collectNoneSpec)

/-- ITS FALSE NEIGHBOUR: 'it returns false'. Refute it at one input. -/
def collectNoneWrong : ChangeSpec := { name := "collectNone", fn := fun _ => fun
  | [d] => { results := [.lit (.bool false)], args := [d] }
  | _ => none }
def CollectNoneWrongFalsely : Prop := collectNoneRow.holds Try.pinned (OpenSpec.ofChange collectNoneWrong)

/-- 'belvederelaw09.BaseArgs': WHATEVER THE INPUT: true; the input reads as it did. -/
def baseArgsSpec : ChangeSpec := { name := "baseArgs", fn := fun _ => fun
  | [d1, d2] => { results := [.lit (.bool true)], args := [d1, d2] }
  | _ => none }
def baseArgsRow : OpenClaim := { program := "ytjiliiclebdbfaa", sum := "bfc5cda38c7ace516d4b99b54dbfa37fef26b44063f96862a3d6751e1fc99c81", func := "belvedere/belvederelaw09.BaseArgs", spec := "baseArgs", inPlace := ["internal/reflectlite.TypeOf"], unfollowed := true, recurses := true, plainKeys := false, apart := false }
def BaseArgsSaid : Prop := baseArgsRow.holds Try.pinned (OpenSpec.ofChange baseArgsSpec)

/-- ITS FALSE NEIGHBOUR: 'it returns false'. Refute it at one input. -/
def baseArgsWrong : ChangeSpec := { name := "baseArgs", fn := fun _ => fun
  | [d1, d2] => { results := [.lit (.bool false)], args := [d1, d2] }
  | _ => none }
def BaseArgsWrongFalsely : Prop := baseArgsRow.holds Try.pinned (OpenSpec.ofChange baseArgsWrong)

/-- 'belvederelaw15.TileBytes': WHATEVER THE INPUT: true; the input reads as it did. -/
def tileBytesSpec : ChangeSpec := { name := "tileBytes", fn := fun _ => fun
  | [d1, d2] => { results := [.lit (.bool true)], args := [d1, d2] }
  | _ => none }
def tileBytesRow : OpenClaim := { program := "ytjiliiclebdbfaa", sum := "bfc5cda38c7ace516d4b99b54dbfa37fef26b44063f96862a3d6751e1fc99c81", func := "belvedere/belvederelaw15.TileBytes", spec := "tileBytes", plainKeys := false, apart := false }
def TileBytesSaid : Prop := tileBytesRow.holds Try.pinned (OpenSpec.ofChange tileBytesSpec)

/-- ITS FALSE NEIGHBOUR: 'it returns false'. Refute it at one input. -/
def tileBytesWrong : ChangeSpec := { name := "tileBytes", fn := fun _ => fun
  | [d1, d2] => { results := [.lit (.bool false)], args := [d1, d2] }
  | _ => none }
def TileBytesWrongFalsely : Prop := tileBytesRow.holds Try.pinned (OpenSpec.ofChange tileBytesWrong)

/-- 'belvederelaw07.QuadCentre': WHATEVER THE INPUT: true; the input reads as it did. -/
def quadCentreSpec : ChangeSpec := { name := "quadCentre", fn := fun _ => fun
  | [d] => { results := [.lit (.bool true)], args := [d] }
  | _ => none }
def quadCentreRow : OpenClaim := { program := "ytjiliiclebdbfaa", sum := "bfc5cda38c7ace516d4b99b54dbfa37fef26b44063f96862a3d6751e1fc99c81", func := "belvedere/belvederelaw07.QuadCentre", spec := "quadCentre", recurses := true, plainKeys := false, apart := false }
def QuadCentreSaid : Prop := quadCentreRow.holds Try.pinned (OpenSpec.ofChange quadCentreSpec)

/-- ITS FALSE NEIGHBOUR: 'it returns false'. Refute it at one input. -/
def quadCentreWrong : ChangeSpec := { name := "quadCentre", fn := fun _ => fun
  | [d] => { results := [.lit (.bool false)], args := [d] }
  | _ => none }
def QuadCentreWrongFalsely : Prop := quadCentreRow.holds Try.pinned (OpenSpec.ofChange quadCentreWrong)

/-- 'belvederelaw13.CollectPlanes': WHATEVER THE INPUT: true; the input reads as it did. -/
def collectPlanesSpec : ChangeSpec := { name := "collectPlanes", fn := fun _ => fun
  | [d1, d2, d3] => { results := [.lit (.bool true)], args := [d1, d2, d3] }
  | _ => none }
def collectPlanesRow : OpenClaim := { program := "ytjiliiclebdbfaa", sum := "bfc5cda38c7ace516d4b99b54dbfa37fef26b44063f96862a3d6751e1fc99c81", func := "belvedere/belvederelaw13.CollectPlanes", spec := "collectPlanes", unfollowed := true, recurses := true, plainKeys := false, apart := false }
def CollectPlanesSaid : Prop := collectPlanesRow.holds Try.pinned (OpenSpec.ofChange collectPlanesSpec)

/-- ITS FALSE NEIGHBOUR: 'it returns false'. Refute it at one input. -/
def collectPlanesWrong : ChangeSpec := { name := "collectPlanes", fn := fun _ => fun
  | [d1, d2, d3] => { results := [.lit (.bool false)], args := [d1, d2, d3] }
  | _ => none }
def CollectPlanesWrongFalsely : Prop := collectPlanesRow.holds Try.pinned (OpenSpec.ofChange collectPlanesWrong)

/-- 'belvederelaw07.QuadRoom': WHATEVER THE INPUT: true; the input reads as it did. -/
def quadRoomSpec : ChangeSpec := { name := "quadRoom", fn := fun _ => fun
  | [d1, d2] => { results := [.lit (.bool true)], args := [d1, d2] }
  | _ => none }
def quadRoomRow : OpenClaim := { program := "ytjiliiclebdbfaa", sum := "bfc5cda38c7ace516d4b99b54dbfa37fef26b44063f96862a3d6751e1fc99c81", func := "belvedere/belvederelaw07.QuadRoom", spec := "quadRoom", inPlace := ["internal/reflectlite.TypeOf"], unfollowed := true, recurses := true, plainKeys := false, apart := false }
def QuadRoomSaid : Prop := quadRoomRow.holds Try.pinned (OpenSpec.ofChange quadRoomSpec)

/-- ITS FALSE NEIGHBOUR: 'it returns false'. Refute it at one input. -/
def quadRoomWrong : ChangeSpec := { name := "quadRoom", fn := fun _ => fun
  | [d1, d2] => { results := [.lit (.bool false)], args := [d1, d2] }
  | _ => none }
def QuadRoomWrongFalsely : Prop := quadRoomRow.holds Try.pinned (OpenSpec.ofChange quadRoomWrong)

/-- 'belvederelaw07.QuadActs': WHATEVER THE INPUT: true; the input reads as it did. -/
def quadActsSpec : ChangeSpec := { name := "quadActs", fn := fun _ => fun
  | [d] => { results := [.lit (.bool true)], args := [d] }
  | _ => none }
def quadActsRow : OpenClaim := { program := "ytjiliiclebdbfaa", sum := "bfc5cda38c7ace516d4b99b54dbfa37fef26b44063f96862a3d6751e1fc99c81", func := "belvedere/belvederelaw07.QuadActs", spec := "quadActs", inPlace := ["internal/reflectlite.TypeOf"], unfollowed := true, recurses := true, plainKeys := false, apart := false }
def QuadActsSaid : Prop := quadActsRow.holds Try.pinned (OpenSpec.ofChange quadActsSpec)

/-- ITS FALSE NEIGHBOUR: 'it returns false'. Refute it at one input. -/
def quadActsWrong : ChangeSpec := { name := "quadActs", fn := fun _ => fun
  | [d] => { results := [.lit (.bool false)], args := [d] }
  | _ => none }
def QuadActsWrongFalsely : Prop := quadActsRow.holds Try.pinned (OpenSpec.ofChange quadActsWrong)

/-- 'belvederelaw07.QuadNone': WHATEVER THE INPUT: true; the input reads as it did. -/
def quadNoneSpec : ChangeSpec := { name := "quadNone", fn := fun _ => fun
  | [d] => { results := [.lit (.bool true)], args := [d] }
  | _ => none }
def quadNoneRow : OpenClaim := { program := "ytjiliiclebdbfaa", sum := "bfc5cda38c7ace516d4b99b54dbfa37fef26b44063f96862a3d6751e1fc99c81", func := "belvedere/belvederelaw07.QuadNone", spec := "quadNone", inPlace := ["internal/reflectlite.TypeOf"], unfollowed := true, recurses := true, plainKeys := false, apart := false }
def QuadNoneSaid : Prop := quadNoneRow.holds Try.pinned (OpenSpec.ofChange quadNoneSpec)

/-- ITS FALSE NEIGHBOUR: 'it returns false'. Refute it at one input. -/
def quadNoneWrong : ChangeSpec := { name := "quadNone", fn := fun _ => fun
  | [d] => { results := [.lit (.bool false)], args := [d] }
  | _ => none }
def QuadNoneWrongFalsely : Prop := quadNoneRow.holds Try.pinned (OpenSpec.ofChange quadNoneWrong)

/- THE SECOND FORM. 'bulk': how many values and letters a reading holds, each counted each time it is reached (what is shared counts as often as it is met; a slice's spare places count too). A statement '..UptoSaid' is the law's where the arguments, and the package variables that the reading takes, are together of bulk at most 1048576: NARROWER than '..Said'. Prove '..Said' where nothing that the law and all that it calls make is longer than what came in: it says more and counts as full. Else prove '..UptoSaid'. A law counts once. -/
mutual
def uptoBulk {H : Type} : DataW H → Nat
  | .lit (.string bytes) => bytes.length + 1
  | .lit _ => 1
  | .nil => 1
  | .ptr d => uptoBulk d + 1
  | .slice elems spare => uptoBulkAll elems + uptoBulkAll spare + 1
  | .agg parts => uptoBulkAll parts + 1
  | .iface _ d => uptoBulk d + 1
  | .map entries => uptoBulkEntries entries + 1
  | .held _ => 1
def uptoBulkAll {H : Type} : List (DataW H) → Nat
  | [] => 0
  | d :: r => uptoBulk d + uptoBulkAll r
def uptoBulkEntries {H : Type} : List (Lit × DataW H) → Nat
  | [] => 0
  | x :: r => uptoBulkEntry x + uptoBulkEntries r
def uptoBulkEntry {H : Type} : Lit × DataW H → Nat
  | (.string bytes, d) => bytes.length + uptoBulk d + 1
  | (_, d) => uptoBulk d + 1
 end
def uptoSmall : (H : Type) → List (DataW H) → Bool := fun _ ds => decide (uptoBulkAll ds ≤ 1048576)
def OpenSpec.upto (s : _root_.Go.ChangeSpec) : _root_.Go.OpenSpec := { _root_.Go.OpenSpec.ofChange s with cond := some uptoSmall }

/-- 'belvederelaw06.StoreOnce', WHERE WHAT IT READS IS OF BULK AT MOST 1048576: true; the input reads as it did. -/
def storeOnceUptoRow : OpenClaim := { program := "ytjiliiclebdbfaa", sum := "bfc5cda38c7ace516d4b99b54dbfa37fef26b44063f96862a3d6751e1fc99c81", func := "belvedere/belvederelaw06.StoreOnce", spec := "storeOnce", plainKeys := false, apart := false, narrowed := true }
def StoreOnceUptoSaid : Prop := storeOnceUptoRow.holds Try.pinned (OpenSpec.upto storeOnceSpec)

/-- 'belvederelaw09.BaseFours', WHERE WHAT IT READS IS OF BULK AT MOST 1048576: true; the input reads as it did. -/
def baseFoursUptoRow : OpenClaim := { program := "ytjiliiclebdbfaa", sum := "bfc5cda38c7ace516d4b99b54dbfa37fef26b44063f96862a3d6751e1fc99c81", func := "belvedere/belvederelaw09.BaseFours", spec := "baseFours", plainKeys := false, apart := false, narrowed := true }
def BaseFoursUptoSaid : Prop := baseFoursUptoRow.holds Try.pinned (OpenSpec.upto baseFoursSpec)

/-- 'belvederelaw06.StoreArgs', WHERE WHAT IT READS IS OF BULK AT MOST 1048576: true; the input reads as it did. -/
def storeArgsUptoRow : OpenClaim := { program := "ytjiliiclebdbfaa", sum := "bfc5cda38c7ace516d4b99b54dbfa37fef26b44063f96862a3d6751e1fc99c81", func := "belvedere/belvederelaw06.StoreArgs", spec := "storeArgs", inPlace := ["internal/reflectlite.TypeOf"], unfollowed := true, recurses := true, plainKeys := false, apart := false, narrowed := true }
def StoreArgsUptoSaid : Prop := storeArgsUptoRow.holds Try.pinned (OpenSpec.upto storeArgsSpec)

/-- 'belvederelaw13.CollectNone', WHERE WHAT IT READS IS OF BULK AT MOST 1048576: true; the input reads as it did. -/
def collectNoneUptoRow : OpenClaim := { program := "ytjiliiclebdbfaa", sum := "bfc5cda38c7ace516d4b99b54dbfa37fef26b44063f96862a3d6751e1fc99c81", func := "belvedere/belvederelaw13.CollectNone", spec := "collectNone", inPlace := ["internal/reflectlite.TypeOf"], unfollowed := true, recurses := true, plainKeys := false, apart := false, narrowed := true }
def CollectNoneUptoSaid : Prop := collectNoneUptoRow.holds Try.pinned (OpenSpec.upto collectNoneSpec)

/-- 'belvederelaw09.BaseArgs', WHERE WHAT IT READS IS OF BULK AT MOST 1048576: true; the input reads as it did. -/
def baseArgsUptoRow : OpenClaim := { program := "ytjiliiclebdbfaa", sum := "bfc5cda38c7ace516d4b99b54dbfa37fef26b44063f96862a3d6751e1fc99c81", func := "belvedere/belvederelaw09.BaseArgs", spec := "baseArgs", inPlace := ["internal/reflectlite.TypeOf"], unfollowed := true, recurses := true, plainKeys := false, apart := false, narrowed := true }
def BaseArgsUptoSaid : Prop := baseArgsUptoRow.holds Try.pinned (OpenSpec.upto baseArgsSpec)

/-- 'belvederelaw15.TileBytes', WHERE WHAT IT READS IS OF BULK AT MOST 1048576: true; the input reads as it did. -/
def tileBytesUptoRow : OpenClaim := { program := "ytjiliiclebdbfaa", sum := "bfc5cda38c7ace516d4b99b54dbfa37fef26b44063f96862a3d6751e1fc99c81", func := "belvedere/belvederelaw15.TileBytes", spec := "tileBytes", plainKeys := false, apart := false, narrowed := true }
def TileBytesUptoSaid : Prop := tileBytesUptoRow.holds Try.pinned (OpenSpec.upto tileBytesSpec)

/-- 'belvederelaw07.QuadCentre', WHERE WHAT IT READS IS OF BULK AT MOST 1048576: true; the input reads as it did. -/
def quadCentreUptoRow : OpenClaim := { program := "ytjiliiclebdbfaa", sum := "bfc5cda38c7ace516d4b99b54dbfa37fef26b44063f96862a3d6751e1fc99c81", func := "belvedere/belvederelaw07.QuadCentre", spec := "quadCentre", recurses := true, plainKeys := false, apart := false, narrowed := true }
def QuadCentreUptoSaid : Prop := quadCentreUptoRow.holds Try.pinned (OpenSpec.upto quadCentreSpec)

/-- 'belvederelaw13.CollectPlanes', WHERE WHAT IT READS IS OF BULK AT MOST 1048576: true; the input reads as it did. -/
def collectPlanesUptoRow : OpenClaim := { program := "ytjiliiclebdbfaa", sum := "bfc5cda38c7ace516d4b99b54dbfa37fef26b44063f96862a3d6751e1fc99c81", func := "belvedere/belvederelaw13.CollectPlanes", spec := "collectPlanes", unfollowed := true, recurses := true, plainKeys := false, apart := false, narrowed := true }
def CollectPlanesUptoSaid : Prop := collectPlanesUptoRow.holds Try.pinned (OpenSpec.upto collectPlanesSpec)

/-- 'belvederelaw07.QuadRoom', WHERE WHAT IT READS IS OF BULK AT MOST 1048576: true; the input reads as it did. -/
def quadRoomUptoRow : OpenClaim := { program := "ytjiliiclebdbfaa", sum := "bfc5cda38c7ace516d4b99b54dbfa37fef26b44063f96862a3d6751e1fc99c81", func := "belvedere/belvederelaw07.QuadRoom", spec := "quadRoom", inPlace := ["internal/reflectlite.TypeOf"], unfollowed := true, recurses := true, plainKeys := false, apart := false, narrowed := true }
def QuadRoomUptoSaid : Prop := quadRoomUptoRow.holds Try.pinned (OpenSpec.upto quadRoomSpec)

/-- 'belvederelaw07.QuadActs', WHERE WHAT IT READS IS OF BULK AT MOST 1048576: true; the input reads as it did. -/
def quadActsUptoRow : OpenClaim := { program := "ytjiliiclebdbfaa", sum := "bfc5cda38c7ace516d4b99b54dbfa37fef26b44063f96862a3d6751e1fc99c81", func := "belvedere/belvederelaw07.QuadActs", spec := "quadActs", inPlace := ["internal/reflectlite.TypeOf"], unfollowed := true, recurses := true, plainKeys := false, apart := false, narrowed := true }
def QuadActsUptoSaid : Prop := quadActsUptoRow.holds Try.pinned (OpenSpec.upto quadActsSpec)

/-- 'belvederelaw07.QuadNone', WHERE WHAT IT READS IS OF BULK AT MOST 1048576: true; the input reads as it did. -/
def quadNoneUptoRow : OpenClaim := { program := "ytjiliiclebdbfaa", sum := "bfc5cda38c7ace516d4b99b54dbfa37fef26b44063f96862a3d6751e1fc99c81", func := "belvedere/belvederelaw07.QuadNone", spec := "quadNone", inPlace := ["internal/reflectlite.TypeOf"], unfollowed := true, recurses := true, plainKeys := false, apart := false, narrowed := true }
def QuadNoneUptoSaid : Prop := quadNoneUptoRow.holds Try.pinned (OpenSpec.upto quadNoneSpec)

end Rows
end Go.Proofs.Ytjiliiclebdbfaa
