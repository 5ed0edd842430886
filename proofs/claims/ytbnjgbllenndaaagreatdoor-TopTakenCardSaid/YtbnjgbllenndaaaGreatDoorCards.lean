/-
  DERIVED. GIVEN WITH THE SEED: THE CARDS: each row of YtbnjgbllenndaaaGreatDoorRows.lean that lists a variable, with what it lists TIED to the program's text (the seventh form; the later family's looks); each row that meets fmt, with fmt's text TOLD by the authors' own Lean function (tested against real Go, not proved from fmt's source: count such statements apart). THE CARD IS WHAT COUNTS. Prove the row's statement (the work); the ties are given (YtbnjgbllenndaaaGreatDoorTie.lean); close each card by the builder's one call (the guide's Derived/Test/ToyasCard.lean, 'card_holds'). Laid BY PROGRAM, IN A SANDBOX (cutbox-door.mjs). By AI agents, Wed Nov 11 2026. No macro, syntax, notation, axiom, sorry.
-/
import Derived.Test.YtbnjgbllenndaaaGreatDoorRows
import GoSem.ClaimSeven
namespace Go.Proofs.YtbnjgbllenndaaaGreatDoor
namespace Rows

/-- THE TIED CARD OF 'wagebooktop.TopTaken'. -/
def topTakenCard : Claim7 := { stood := { row := topTakenRow, standIns := [], harness := (true, "abf91af7d938e077251f0867a9ee9d19ee1ed8e8da411be3c57b440f3ae83ce0"), looks := true }, kinds := [], alts := [], laidByText := true, laidKinds := [.data, .data, .data, .data, .sentinel, .sentinel, .pinned], laidTests := true, laidLooks := .later }
def TopTakenCardSaid : Prop := Claim7.holds Tryz.pinned (.plain (OpenSpec.ofChange topTakenSpec)) topTakenCard

/-- THE SECOND FORM's CARD OF 'wagebooktop.TopTaken'. -/
def topTakenUptoCard : Claim7 := { stood := { row := topTakenUptoRow, standIns := [], harness := (true, "abf91af7d938e077251f0867a9ee9d19ee1ed8e8da411be3c57b440f3ae83ce0"), looks := true }, kinds := [], alts := [], laidByText := true, laidKinds := [.data, .data, .data, .data, .sentinel, .sentinel, .pinned], laidTests := true, laidLooks := .later }
def TopTakenUptoCardSaid : Prop := Claim7.holds Tryz.pinned (.plain (OpenSpec.upto topTakenSpec)) topTakenUptoCard
end Rows
end Go.Proofs.YtbnjgbllenndaaaGreatDoor
