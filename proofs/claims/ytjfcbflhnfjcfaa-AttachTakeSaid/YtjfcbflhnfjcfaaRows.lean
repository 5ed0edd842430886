/-
  No cell of these rows narrows 'for every input' (looked for: loops, veiled, ifaces, maps, wideKeys, modest, calm, conditions, laid).
  DERIVED. THE GIVEN ROWS OF THIS SEAT. 7 by the template 'for every input the law returns true; each argument reads behind the call as it read before'; 0 by the template 'total and deterministic' (their statements: YtjfcbflhnfjcfaaTotals.lean).
  GIVEN WITH THE SEED: the statements are not yours to turn. If you find one false, say at which input.
  Laid BY PROGRAM, IN A SANDBOX (cutbox-rows.mjs): the forced cells as the released guide's own fill.sh prints them over the translation 69ad457346650d5c… (all of the seat's roots in one cut). By AI agents, Wed Nov 11 2026. No macro, syntax, notation, axiom, sorry.
-/
import Derived.Test.YtjfcbflhnfjcfaaChecked
import GoSem.Claim
import GoSem.ClaimJoined
import GoSem.ClaimMapViews
import Derived.JoinedTies
import Derived.KernelRfl
namespace Go.Proofs.Ytjfcbflhnfjcfaa
/- THE CELL 'sum', in the pinned program and in every row, IS THE sha256 OF THE DUMP (.gsa) THAT YtjfcbflhnfjcfaaProg.lean LOADS. Nothing in Lean hashes anything: it is a label: what it is worth is what the hold of that sum in a sandbox is worth. -/
noncomputable def Try.pinned : Pinned := { name := "ytjfcbflhnfjcfaa", sum := "69ad457346650d5c336dc4b6741cdd01cf6970f5dbc24d3ba71d2a35ae5d05c4", checked := Try.checked }
namespace Rows
def none {H : Type} : Left H := { results := [], args := [] }

/-- 'wagebooklaw26.AttachTake': WHATEVER THE INPUT: true; the input reads as it did. -/
def attachTakeSpec : ChangeSpec := { name := "attachTake", fn := fun _ => fun
  | [d1, d2, d3] => { results := [.lit (.bool true)], args := [d1, d2, d3] }
  | _ => none }
def attachTakeRow : OpenClaim := { program := "ytjfcbflhnfjcfaa", sum := "69ad457346650d5c336dc4b6741cdd01cf6970f5dbc24d3ba71d2a35ae5d05c4", func := "wagebook/wagebooklaw26.AttachTake", spec := "attachTake", unfollowed := true, recurses := true, named := ["math/bits.divideError", "math/bits.overflowError"], apart := false }
def AttachTakeSaid : Prop := attachTakeRow.holds Try.pinned (OpenSpec.ofChange attachTakeSpec)

/-- ITS FALSE NEIGHBOUR: 'it returns false'. Refute it at one input. -/
def attachTakeWrong : ChangeSpec := { name := "attachTake", fn := fun _ => fun
  | [d1, d2, d3] => { results := [.lit (.bool false)], args := [d1, d2, d3] }
  | _ => none }
def AttachTakeWrongFalsely : Prop := attachTakeRow.holds Try.pinned (OpenSpec.ofChange attachTakeWrong)

/-- 'wagebooklaw26.AttachSort': WHATEVER THE INPUT: true; the input reads as it did. -/
def attachSortSpec : ChangeSpec := { name := "attachSort", fn := fun _ => fun
  | [d1, d2, d3] => { results := [.lit (.bool true)], args := [d1, d2, d3] }
  | _ => none }
def attachSortRow : OpenClaim := { program := "ytjfcbflhnfjcfaa", sum := "69ad457346650d5c336dc4b6741cdd01cf6970f5dbc24d3ba71d2a35ae5d05c4", func := "wagebook/wagebooklaw26.AttachSort", spec := "attachSort", unfollowed := true, recurses := true, named := ["math/bits.divideError", "math/bits.overflowError"], apart := false }
def AttachSortSaid : Prop := attachSortRow.holds Try.pinned (OpenSpec.ofChange attachSortSpec)

/-- ITS FALSE NEIGHBOUR: 'it returns false'. Refute it at one input. -/
def attachSortWrong : ChangeSpec := { name := "attachSort", fn := fun _ => fun
  | [d1, d2, d3] => { results := [.lit (.bool false)], args := [d1, d2, d3] }
  | _ => none }
def AttachSortWrongFalsely : Prop := attachSortRow.holds Try.pinned (OpenSpec.ofChange attachSortWrong)

/-- 'wagebooklaw26.AttachKeeps': WHATEVER THE INPUT: true; the input reads as it did. -/
def attachKeepsSpec : ChangeSpec := { name := "attachKeeps", fn := fun _ => fun
  | [d1, d2] => { results := [.lit (.bool true)], args := [d1, d2] }
  | _ => none }
def attachKeepsRow : OpenClaim := { program := "ytjfcbflhnfjcfaa", sum := "69ad457346650d5c336dc4b6741cdd01cf6970f5dbc24d3ba71d2a35ae5d05c4", func := "wagebook/wagebooklaw26.AttachKeeps", spec := "attachKeeps", unfollowed := true, recurses := true, named := ["math/bits.divideError", "math/bits.overflowError"], apart := false }
def AttachKeepsSaid : Prop := attachKeepsRow.holds Try.pinned (OpenSpec.ofChange attachKeepsSpec)

/-- ITS FALSE NEIGHBOUR: 'it returns false'. Refute it at one input. -/
def attachKeepsWrong : ChangeSpec := { name := "attachKeeps", fn := fun _ => fun
  | [d1, d2] => { results := [.lit (.bool false)], args := [d1, d2] }
  | _ => none }
def AttachKeepsWrongFalsely : Prop := attachKeepsRow.holds Try.pinned (OpenSpec.ofChange attachKeepsWrong)

/-- 'wagebooklaw26.AttachTotals': WHATEVER THE INPUT: true; the input reads as it did. -/
def attachTotalsSpec : ChangeSpec := { name := "attachTotals", fn := fun _ => fun
  | [d1, d2] => { results := [.lit (.bool true)], args := [d1, d2] }
  | _ => none }
def attachTotalsRow : OpenClaim := { program := "ytjfcbflhnfjcfaa", sum := "69ad457346650d5c336dc4b6741cdd01cf6970f5dbc24d3ba71d2a35ae5d05c4", func := "wagebook/wagebooklaw26.AttachTotals", spec := "attachTotals", unfollowed := true, recurses := true, named := ["math/bits.divideError", "math/bits.overflowError"], apart := false }
def AttachTotalsSaid : Prop := attachTotalsRow.holds Try.pinned (OpenSpec.ofChange attachTotalsSpec)

/-- ITS FALSE NEIGHBOUR: 'it returns false'. Refute it at one input. -/
def attachTotalsWrong : ChangeSpec := { name := "attachTotals", fn := fun _ => fun
  | [d1, d2] => { results := [.lit (.bool false)], args := [d1, d2] }
  | _ => none }
def AttachTotalsWrongFalsely : Prop := attachTotalsRow.holds Try.pinned (OpenSpec.ofChange attachTotalsWrong)

/-- 'wagebooklaw26.AttachRanks': WHATEVER THE INPUT: true; the input reads as it did. -/
def attachRanksSpec : ChangeSpec := { name := "attachRanks", fn := fun _ => fun
  | [d1, d2, d3] => { results := [.lit (.bool true)], args := [d1, d2, d3] }
  | _ => none }
def attachRanksRow : OpenClaim := { program := "ytjfcbflhnfjcfaa", sum := "69ad457346650d5c336dc4b6741cdd01cf6970f5dbc24d3ba71d2a35ae5d05c4", func := "wagebook/wagebooklaw26.AttachRanks", spec := "attachRanks", unfollowed := true, recurses := true, named := ["math/bits.divideError", "math/bits.overflowError"], apart := false }
def AttachRanksSaid : Prop := attachRanksRow.holds Try.pinned (OpenSpec.ofChange attachRanksSpec)

/-- ITS FALSE NEIGHBOUR: 'it returns false'. Refute it at one input. -/
def attachRanksWrong : ChangeSpec := { name := "attachRanks", fn := fun _ => fun
  | [d1, d2, d3] => { results := [.lit (.bool false)], args := [d1, d2, d3] }
  | _ => none }
def AttachRanksWrongFalsely : Prop := attachRanksRow.holds Try.pinned (OpenSpec.ofChange attachRanksWrong)

/-- 'wagebooklaw26.AttachWants': WHATEVER THE INPUT: true; the input reads as it did. -/
def attachWantsSpec : ChangeSpec := { name := "attachWants", fn := fun _ => fun
  | [d1, d2, d3] => { results := [.lit (.bool true)], args := [d1, d2, d3] }
  | _ => none }
def attachWantsRow : OpenClaim := { program := "ytjfcbflhnfjcfaa", sum := "69ad457346650d5c336dc4b6741cdd01cf6970f5dbc24d3ba71d2a35ae5d05c4", func := "wagebook/wagebooklaw26.AttachWants", spec := "attachWants", unfollowed := true, recurses := true, named := ["math/bits.divideError", "math/bits.overflowError"], apart := false }
def AttachWantsSaid : Prop := attachWantsRow.holds Try.pinned (OpenSpec.ofChange attachWantsSpec)

/-- ITS FALSE NEIGHBOUR: 'it returns false'. Refute it at one input. -/
def attachWantsWrong : ChangeSpec := { name := "attachWants", fn := fun _ => fun
  | [d1, d2, d3] => { results := [.lit (.bool false)], args := [d1, d2, d3] }
  | _ => none }
def AttachWantsWrongFalsely : Prop := attachWantsRow.holds Try.pinned (OpenSpec.ofChange attachWantsWrong)

/-- 'wagebooklaw26.AttachRises': WHATEVER THE INPUT: true; the input reads as it did. -/
def attachRisesSpec : ChangeSpec := { name := "attachRises", fn := fun _ => fun
  | [d1, d2, d3] => { results := [.lit (.bool true)], args := [d1, d2, d3] }
  | _ => none }
def attachRisesRow : OpenClaim := { program := "ytjfcbflhnfjcfaa", sum := "69ad457346650d5c336dc4b6741cdd01cf6970f5dbc24d3ba71d2a35ae5d05c4", func := "wagebook/wagebooklaw26.AttachRises", spec := "attachRises", unfollowed := true, recurses := true, named := ["math/bits.divideError", "math/bits.overflowError"], apart := false }
def AttachRisesSaid : Prop := attachRisesRow.holds Try.pinned (OpenSpec.ofChange attachRisesSpec)

/-- ITS FALSE NEIGHBOUR: 'it returns false'. Refute it at one input. -/
def attachRisesWrong : ChangeSpec := { name := "attachRises", fn := fun _ => fun
  | [d1, d2, d3] => { results := [.lit (.bool false)], args := [d1, d2, d3] }
  | _ => none }
def AttachRisesWrongFalsely : Prop := attachRisesRow.holds Try.pinned (OpenSpec.ofChange attachRisesWrong)

/- THE SECOND FORM. 'bulk': how many values and letters a reading holds, each counted each time it is reached (what is shared counts as often as it is met; a slice's spare places count too). A statement '..UptoSaid' is the law's where the arguments, and the package variables that the reading takes, are together of bulk at most 1048576: NARROWER than '..Said'. Prove '..Said' where nothing that the law and all that it calls make is longer than what came in: it says more and counts as full. Else prove '..UptoSaid'. A law counts once. -/
mutual
def uptoBulk {H : Type} : DataW H → Nat
  | .lit (.string bytes) => bytes.length + 1
  | .lit _ => 1
  | .nil => 1
  | .ptr d => uptoBulk d + 1
  | .slice elems spare => uptoBulkAll elems + uptoBulkAll spare + 1
  | .agg parts => uptoBulkAll parts + 1
  | .iface _ d => uptoBulk d + 1
  | .map entries => uptoBulkEntries entries + 1
  | .held _ => 1
def uptoBulkAll {H : Type} : List (DataW H) → Nat
  | [] => 0
  | d :: r => uptoBulk d + uptoBulkAll r
def uptoBulkEntries {H : Type} : List (Lit × DataW H) → Nat
  | [] => 0
  | x :: r => uptoBulkEntry x + uptoBulkEntries r
def uptoBulkEntry {H : Type} : Lit × DataW H → Nat
  | (.string bytes, d) => bytes.length + uptoBulk d + 1
  | (_, d) => uptoBulk d + 1
 end
def uptoSmall : (H : Type) → List (DataW H) → Bool := fun _ ds => decide (uptoBulkAll ds ≤ 1048576)
def OpenSpec.upto (s : _root_.Go.ChangeSpec) : _root_.Go.OpenSpec := { _root_.Go.OpenSpec.ofChange s with cond := some uptoSmall }

/-- 'wagebooklaw26.AttachTake', WHERE WHAT IT READS IS OF BULK AT MOST 1048576: true; the input reads as it did. -/
def attachTakeUptoRow : OpenClaim := { program := "ytjfcbflhnfjcfaa", sum := "69ad457346650d5c336dc4b6741cdd01cf6970f5dbc24d3ba71d2a35ae5d05c4", func := "wagebook/wagebooklaw26.AttachTake", spec := "attachTake", unfollowed := true, recurses := true, named := ["math/bits.divideError", "math/bits.overflowError"], apart := false, narrowed := true }
def AttachTakeUptoSaid : Prop := attachTakeUptoRow.holds Try.pinned (OpenSpec.upto attachTakeSpec)

/-- 'wagebooklaw26.AttachSort', WHERE WHAT IT READS IS OF BULK AT MOST 1048576: true; the input reads as it did. -/
def attachSortUptoRow : OpenClaim := { program := "ytjfcbflhnfjcfaa", sum := "69ad457346650d5c336dc4b6741cdd01cf6970f5dbc24d3ba71d2a35ae5d05c4", func := "wagebook/wagebooklaw26.AttachSort", spec := "attachSort", unfollowed := true, recurses := true, named := ["math/bits.divideError", "math/bits.overflowError"], apart := false, narrowed := true }
def AttachSortUptoSaid : Prop := attachSortUptoRow.holds Try.pinned (OpenSpec.upto attachSortSpec)

/-- 'wagebooklaw26.AttachKeeps', WHERE WHAT IT READS IS OF BULK AT MOST 1048576: true; the input reads as it did. -/
def attachKeepsUptoRow : OpenClaim := { program := "ytjfcbflhnfjcfaa", sum := "69ad457346650d5c336dc4b6741cdd01cf6970f5dbc24d3ba71d2a35ae5d05c4", func := "wagebook/wagebooklaw26.AttachKeeps", spec := "attachKeeps", unfollowed := true, recurses := true, named := ["math/bits.divideError", "math/bits.overflowError"], apart := false, narrowed := true }
def AttachKeepsUptoSaid : Prop := attachKeepsUptoRow.holds Try.pinned (OpenSpec.upto attachKeepsSpec)

/-- 'wagebooklaw26.AttachTotals', WHERE WHAT IT READS IS OF BULK AT MOST 1048576: true; the input reads as it did. -/
def attachTotalsUptoRow : OpenClaim := { program := "ytjfcbflhnfjcfaa", sum := "69ad457346650d5c336dc4b6741cdd01cf6970f5dbc24d3ba71d2a35ae5d05c4", func := "wagebook/wagebooklaw26.AttachTotals", spec := "attachTotals", unfollowed := true, recurses := true, named := ["math/bits.divideError", "math/bits.overflowError"], apart := false, narrowed := true }
def AttachTotalsUptoSaid : Prop := attachTotalsUptoRow.holds Try.pinned (OpenSpec.upto attachTotalsSpec)

/-- 'wagebooklaw26.AttachRanks', WHERE WHAT IT READS IS OF BULK AT MOST 1048576: true; the input reads as it did. -/
def attachRanksUptoRow : OpenClaim := { program := "ytjfcbflhnfjcfaa", sum := "69ad457346650d5c336dc4b6741cdd01cf6970f5dbc24d3ba71d2a35ae5d05c4", func := "wagebook/wagebooklaw26.AttachRanks", spec := "attachRanks", unfollowed := true, recurses := true, named := ["math/bits.divideError", "math/bits.overflowError"], apart := false, narrowed := true }
def AttachRanksUptoSaid : Prop := attachRanksUptoRow.holds Try.pinned (OpenSpec.upto attachRanksSpec)

/-- 'wagebooklaw26.AttachWants', WHERE WHAT IT READS IS OF BULK AT MOST 1048576: true; the input reads as it did. -/
def attachWantsUptoRow : OpenClaim := { program := "ytjfcbflhnfjcfaa", sum := "69ad457346650d5c336dc4b6741cdd01cf6970f5dbc24d3ba71d2a35ae5d05c4", func := "wagebook/wagebooklaw26.AttachWants", spec := "attachWants", unfollowed := true, recurses := true, named := ["math/bits.divideError", "math/bits.overflowError"], apart := false, narrowed := true }
def AttachWantsUptoSaid : Prop := attachWantsUptoRow.holds Try.pinned (OpenSpec.upto attachWantsSpec)

/-- 'wagebooklaw26.AttachRises', WHERE WHAT IT READS IS OF BULK AT MOST 1048576: true; the input reads as it did. -/
def attachRisesUptoRow : OpenClaim := { program := "ytjfcbflhnfjcfaa", sum := "69ad457346650d5c336dc4b6741cdd01cf6970f5dbc24d3ba71d2a35ae5d05c4", func := "wagebook/wagebooklaw26.AttachRises", spec := "attachRises", unfollowed := true, recurses := true, named := ["math/bits.divideError", "math/bits.overflowError"], apart := false, narrowed := true }
def AttachRisesUptoSaid : Prop := attachRisesUptoRow.holds Try.pinned (OpenSpec.upto attachRisesSpec)

end Rows
end Go.Proofs.Ytjfcbflhnfjcfaa
