/-
  DERIVED. GIVEN WITH THE SEED: THE CARDS: each row of YtjpjeimpmfoldaaDoorRows.lean that lists a variable, with what it lists TIED to the program's text (the seventh form; the later family's looks); each row that meets fmt, with fmt's text TOLD by the authors' own Lean function (tested against real Go, not proved from fmt's source: count such statements apart). THE CARD IS WHAT COUNTS. Prove the row's statement (the work); the ties are given (YtjpjeimpmfoldaaDoorTie.lean); close each card by the builder's one call (the guide's Derived/Test/ToyasCard.lean, 'card_holds'). Laid BY PROGRAM, IN A SANDBOX (cutbox-door.mjs). By AI agents, Wed Nov 11 2026. No macro, syntax, notation, axiom, sorry.
-/
import Derived.Test.YtjpjeimpmfoldaaDoorRows
import GoSem.ClaimSeven
namespace Go.Proofs.YtjpjeimpmfoldaaDoor
namespace Rows

/-- THE TIED CARD OF 'wagebooklaw07.WeekChecks'. -/
def weekChecksCard : Claim7 := { stood := { row := weekChecksRow, standIns := [], harness := (true, "b17c0b8f87b2ac5d75298819c27f5a527ce64cde8868d1614541b8caae18c15b"), looks := false }, kinds := [], alts := [], laidByText := true, laidKinds := [.data], laidTests := true, laidLooks := .later }
def WeekChecksCardSaid : Prop := Claim7.holds Tryd.pinned (.plain (OpenSpec.ofChange weekChecksSpec)) weekChecksCard

/-- THE TIED CARD OF 'wagebooklaw07.WeekSums'. -/
def weekSumsCard : Claim7 := { stood := { row := weekSumsRow, standIns := [], harness := (true, "b17c0b8f87b2ac5d75298819c27f5a527ce64cde8868d1614541b8caae18c15b"), looks := false }, kinds := [], alts := [], laidByText := true, laidKinds := [.data], laidTests := true, laidLooks := .later }
def WeekSumsCardSaid : Prop := Claim7.holds Tryd.pinned (.plain (OpenSpec.ofChange weekSumsSpec)) weekSumsCard

/-- THE TIED CARD OF 'wagebooklaw07.WeekParts'. -/
def weekPartsCard : Claim7 := { stood := { row := weekPartsRow, standIns := [], harness := (true, "b17c0b8f87b2ac5d75298819c27f5a527ce64cde8868d1614541b8caae18c15b"), looks := false }, kinds := [], alts := [], laidByText := true, laidKinds := [.data], laidTests := true, laidLooks := .later }
def WeekPartsCardSaid : Prop := Claim7.holds Tryd.pinned (.plain (OpenSpec.ofChange weekPartsSpec)) weekPartsCard

/-- THE TIED CARD OF 'wagebooklaw07.WeekFrees'. -/
def weekFreesCard : Claim7 := { stood := { row := weekFreesRow, standIns := [], harness := (true, "b17c0b8f87b2ac5d75298819c27f5a527ce64cde8868d1614541b8caae18c15b"), looks := false }, kinds := [], alts := [], laidByText := true, laidKinds := [.data], laidTests := true, laidLooks := .later }
def WeekFreesCardSaid : Prop := Claim7.holds Tryd.pinned (.plain (OpenSpec.ofChange weekFreesSpec)) weekFreesCard

/-- THE TIED CARD OF 'wagebooklaw07.WeekWholes'. -/
def weekWholesCard : Claim7 := { stood := { row := weekWholesRow, standIns := [], harness := (true, "b17c0b8f87b2ac5d75298819c27f5a527ce64cde8868d1614541b8caae18c15b"), looks := false }, kinds := [], alts := [], laidByText := true, laidKinds := [.data], laidTests := true, laidLooks := .later }
def WeekWholesCardSaid : Prop := Claim7.holds Tryd.pinned (.plain (OpenSpec.ofChange weekWholesSpec)) weekWholesCard

/-- THE TIED CARD OF 'wagebooklaw07.WeekParses'. -/
def weekParsesCard : Claim7 := { stood := { row := weekParsesRow, standIns := [], harness := (true, "b17c0b8f87b2ac5d75298819c27f5a527ce64cde8868d1614541b8caae18c15b"), looks := false }, kinds := [], alts := [], laidByText := true, laidKinds := [.data], laidTests := true, laidLooks := .later }
def WeekParsesCardSaid : Prop := Claim7.holds Tryd.pinned (.plain (OpenSpec.ofChange weekParsesSpec)) weekParsesCard

/-- THE TIED CARD OF 'wagebooklaw07.WeekTexts'. -/
def weekTextsCard : Claim7 := { stood := { row := weekTextsRow, standIns := [], harness := (true, "b17c0b8f87b2ac5d75298819c27f5a527ce64cde8868d1614541b8caae18c15b"), looks := false }, kinds := [], alts := [], laidByText := true, laidKinds := [.data], laidTests := true, laidLooks := .later }
def WeekTextsCardSaid : Prop := Claim7.holds Tryd.pinned (.plain (OpenSpec.ofChange weekTextsSpec)) weekTextsCard

/-- THE SECOND FORM's CARD OF 'wagebooklaw07.WeekChecks'. -/
def weekChecksUptoCard : Claim7 := { stood := { row := weekChecksUptoRow, standIns := [], harness := (true, "b17c0b8f87b2ac5d75298819c27f5a527ce64cde8868d1614541b8caae18c15b"), looks := false }, kinds := [], alts := [], laidByText := true, laidKinds := [.data], laidTests := true, laidLooks := .later }
def WeekChecksUptoCardSaid : Prop := Claim7.holds Tryd.pinned (.plain (OpenSpec.upto weekChecksSpec)) weekChecksUptoCard

/-- THE SECOND FORM's CARD OF 'wagebooklaw07.WeekSums'. -/
def weekSumsUptoCard : Claim7 := { stood := { row := weekSumsUptoRow, standIns := [], harness := (true, "b17c0b8f87b2ac5d75298819c27f5a527ce64cde8868d1614541b8caae18c15b"), looks := false }, kinds := [], alts := [], laidByText := true, laidKinds := [.data], laidTests := true, laidLooks := .later }
def WeekSumsUptoCardSaid : Prop := Claim7.holds Tryd.pinned (.plain (OpenSpec.upto weekSumsSpec)) weekSumsUptoCard

/-- THE SECOND FORM's CARD OF 'wagebooklaw07.WeekParts'. -/
def weekPartsUptoCard : Claim7 := { stood := { row := weekPartsUptoRow, standIns := [], harness := (true, "b17c0b8f87b2ac5d75298819c27f5a527ce64cde8868d1614541b8caae18c15b"), looks := false }, kinds := [], alts := [], laidByText := true, laidKinds := [.data], laidTests := true, laidLooks := .later }
def WeekPartsUptoCardSaid : Prop := Claim7.holds Tryd.pinned (.plain (OpenSpec.upto weekPartsSpec)) weekPartsUptoCard

/-- THE SECOND FORM's CARD OF 'wagebooklaw07.WeekFrees'. -/
def weekFreesUptoCard : Claim7 := { stood := { row := weekFreesUptoRow, standIns := [], harness := (true, "b17c0b8f87b2ac5d75298819c27f5a527ce64cde8868d1614541b8caae18c15b"), looks := false }, kinds := [], alts := [], laidByText := true, laidKinds := [.data], laidTests := true, laidLooks := .later }
def WeekFreesUptoCardSaid : Prop := Claim7.holds Tryd.pinned (.plain (OpenSpec.upto weekFreesSpec)) weekFreesUptoCard

/-- THE SECOND FORM's CARD OF 'wagebooklaw07.WeekWholes'. -/
def weekWholesUptoCard : Claim7 := { stood := { row := weekWholesUptoRow, standIns := [], harness := (true, "b17c0b8f87b2ac5d75298819c27f5a527ce64cde8868d1614541b8caae18c15b"), looks := false }, kinds := [], alts := [], laidByText := true, laidKinds := [.data], laidTests := true, laidLooks := .later }
def WeekWholesUptoCardSaid : Prop := Claim7.holds Tryd.pinned (.plain (OpenSpec.upto weekWholesSpec)) weekWholesUptoCard

/-- THE SECOND FORM's CARD OF 'wagebooklaw07.WeekParses'. -/
def weekParsesUptoCard : Claim7 := { stood := { row := weekParsesUptoRow, standIns := [], harness := (true, "b17c0b8f87b2ac5d75298819c27f5a527ce64cde8868d1614541b8caae18c15b"), looks := false }, kinds := [], alts := [], laidByText := true, laidKinds := [.data], laidTests := true, laidLooks := .later }
def WeekParsesUptoCardSaid : Prop := Claim7.holds Tryd.pinned (.plain (OpenSpec.upto weekParsesSpec)) weekParsesUptoCard

/-- THE SECOND FORM's CARD OF 'wagebooklaw07.WeekTexts'. -/
def weekTextsUptoCard : Claim7 := { stood := { row := weekTextsUptoRow, standIns := [], harness := (true, "b17c0b8f87b2ac5d75298819c27f5a527ce64cde8868d1614541b8caae18c15b"), looks := false }, kinds := [], alts := [], laidByText := true, laidKinds := [.data], laidTests := true, laidLooks := .later }
def WeekTextsUptoCardSaid : Prop := Claim7.holds Tryd.pinned (.plain (OpenSpec.upto weekTextsSpec)) weekTextsUptoCard
end Rows
end Go.Proofs.YtjpjeimpmfoldaaDoor
