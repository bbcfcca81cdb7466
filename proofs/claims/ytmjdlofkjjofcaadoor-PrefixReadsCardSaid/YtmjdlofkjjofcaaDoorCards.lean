/-
  DERIVED. GIVEN WITH THE SEED: THE CARDS: each row of YtmjdlofkjjofcaaDoorRows.lean that lists a variable, with what it lists TIED to the program's text (the seventh form; the later family's looks); each row that meets fmt, with fmt's text TOLD by the authors' own Lean function (tested against real Go, not proved from fmt's source: count such statements apart). THE CARD IS WHAT COUNTS. Prove the row's statement (the work); the ties are given (YtmjdlofkjjofcaaDoorTie.lean); close each card by the builder's one call (the guide's Derived/Test/ToyasCard.lean, 'card_holds'). Laid BY PROGRAM, IN A SANDBOX (cutbox-door.mjs). By AI agents, Wed Nov 11 2026. No macro, syntax, notation, axiom, sorry.
-/
import Derived.Test.YtmjdlofkjjofcaaDoorRows
import GoSem.ClaimSeven
namespace Go.Proofs.YtmjdlofkjjofcaaDoor
namespace Rows

/-- THE TIED CARD OF 'belvederelaw02.PrefixReads'. -/
def prefixReadsCard : Claim7 := { stood := { row := prefixReadsRow, standIns := [], harness := (true, "9bbc03ccec80bda68b390a532f03819d59b677816b995edfc400f03e92ad5551"), looks := true }, kinds := [], alts := [], laidByText := true, laidKinds := [.handle], laidTests := true, laidLooks := .later }
def PrefixReadsCardSaid : Prop := Claim7.holds Tryd.pinned (.plain (OpenSpec.ofChange prefixReadsSpec)) prefixReadsCard

/-- THE TIED CARD OF 'belvederelaw15.TileReads'. -/
def tileReadsCard : Claim7 := { stood := { row := tileReadsRow, standIns := [], harness := (true, "9bbc03ccec80bda68b390a532f03819d59b677816b995edfc400f03e92ad5551"), looks := true }, kinds := [], alts := [], laidByText := true, laidKinds := [.handle], laidTests := true, laidLooks := .later }
def TileReadsCardSaid : Prop := Claim7.holds Tryd.pinned (.plain (OpenSpec.ofChange tileReadsSpec)) tileReadsCard

/-- THE TIED CARD OF 'belvederelaw01.FaultWraps'. -/
def faultWrapsCard : Claim7 := { stood := { row := faultWrapsRow, standIns := [], harness := (true, "9bbc03ccec80bda68b390a532f03819d59b677816b995edfc400f03e92ad5551"), looks := true }, kinds := [], alts := [], laidByText := true, laidKinds := [.data, .data, .data, .handle], laidTests := true, laidLooks := .later }
def FaultWrapsCardSaid : Prop := Claim7.holds Tryd.pinned (.plain (OpenSpec.ofChange faultWrapsSpec)) faultWrapsCard

/-- THE TIED CARD OF 'belvederelaw01.FaultNone'. -/
def faultNoneCard : Claim7 := { stood := { row := faultNoneRow, standIns := [], harness := (true, "9bbc03ccec80bda68b390a532f03819d59b677816b995edfc400f03e92ad5551"), looks := true }, kinds := [], alts := [], laidByText := true, laidKinds := [.data, .data, .data, .handle], laidTests := true, laidLooks := .later }
def FaultNoneCardSaid : Prop := Claim7.holds Tryd.pinned (.plain (OpenSpec.ofChange faultNoneSpec)) faultNoneCard

/-- THE TIED CARD OF 'belvederelaw12.RootsActs'. -/
def rootsActsCard : Claim7 := { stood := { row := rootsActsRow, standIns := [], harness := (true, "9bbc03ccec80bda68b390a532f03819d59b677816b995edfc400f03e92ad5551"), looks := true }, kinds := [], alts := [], laidByText := true, laidKinds := [.handle], laidTests := true, laidLooks := .later }
def RootsActsCardSaid : Prop := Claim7.holds Tryd.pinned (.plain (OpenSpec.ofChange rootsActsSpec)) rootsActsCard

/-- THE SECOND FORM's CARD OF 'belvederelaw02.PrefixReads'. -/
def prefixReadsUptoCard : Claim7 := { stood := { row := prefixReadsUptoRow, standIns := [], harness := (true, "9bbc03ccec80bda68b390a532f03819d59b677816b995edfc400f03e92ad5551"), looks := true }, kinds := [], alts := [], laidByText := true, laidKinds := [.handle], laidTests := true, laidLooks := .later }
def PrefixReadsUptoCardSaid : Prop := Claim7.holds Tryd.pinned (.plain (OpenSpec.upto prefixReadsSpec)) prefixReadsUptoCard

/-- THE SECOND FORM's CARD OF 'belvederelaw15.TileReads'. -/
def tileReadsUptoCard : Claim7 := { stood := { row := tileReadsUptoRow, standIns := [], harness := (true, "9bbc03ccec80bda68b390a532f03819d59b677816b995edfc400f03e92ad5551"), looks := true }, kinds := [], alts := [], laidByText := true, laidKinds := [.handle], laidTests := true, laidLooks := .later }
def TileReadsUptoCardSaid : Prop := Claim7.holds Tryd.pinned (.plain (OpenSpec.upto tileReadsSpec)) tileReadsUptoCard

/-- THE SECOND FORM's CARD OF 'belvederelaw01.FaultWraps'. -/
def faultWrapsUptoCard : Claim7 := { stood := { row := faultWrapsUptoRow, standIns := [], harness := (true, "9bbc03ccec80bda68b390a532f03819d59b677816b995edfc400f03e92ad5551"), looks := true }, kinds := [], alts := [], laidByText := true, laidKinds := [.data, .data, .data, .handle], laidTests := true, laidLooks := .later }
def FaultWrapsUptoCardSaid : Prop := Claim7.holds Tryd.pinned (.plain (OpenSpec.upto faultWrapsSpec)) faultWrapsUptoCard

/-- THE SECOND FORM's CARD OF 'belvederelaw01.FaultNone'. -/
def faultNoneUptoCard : Claim7 := { stood := { row := faultNoneUptoRow, standIns := [], harness := (true, "9bbc03ccec80bda68b390a532f03819d59b677816b995edfc400f03e92ad5551"), looks := true }, kinds := [], alts := [], laidByText := true, laidKinds := [.data, .data, .data, .handle], laidTests := true, laidLooks := .later }
def FaultNoneUptoCardSaid : Prop := Claim7.holds Tryd.pinned (.plain (OpenSpec.upto faultNoneSpec)) faultNoneUptoCard

/-- THE SECOND FORM's CARD OF 'belvederelaw12.RootsActs'. -/
def rootsActsUptoCard : Claim7 := { stood := { row := rootsActsUptoRow, standIns := [], harness := (true, "9bbc03ccec80bda68b390a532f03819d59b677816b995edfc400f03e92ad5551"), looks := true }, kinds := [], alts := [], laidByText := true, laidKinds := [.handle], laidTests := true, laidLooks := .later }
def RootsActsUptoCardSaid : Prop := Claim7.holds Tryd.pinned (.plain (OpenSpec.upto rootsActsSpec)) rootsActsUptoCard
end Rows
end Go.Proofs.YtmjdlofkjjofcaaDoor
