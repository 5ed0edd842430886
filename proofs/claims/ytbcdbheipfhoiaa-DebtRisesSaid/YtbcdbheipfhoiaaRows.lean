/-
  No cell of these rows narrows 'for every input' (looked for: loops, veiled, ifaces, maps, wideKeys, modest, calm, conditions, laid).
  DERIVED. THE GIVEN ROWS OF THIS SEAT. 6 by the template 'for every input the law returns true; each argument reads behind the call as it read before'; 0 by the template 'total and deterministic' (their statements: YtbcdbheipfhoiaaTotals.lean).
  GIVEN WITH THE SEED: the statements are not yours to turn. If you find one false, say at which input.
  Laid BY PROGRAM, IN A SANDBOX (cutbox-rows.mjs): the forced cells as the released guide's own fill.sh prints them over the translation f5d35d812d44704d… (all of the seat's roots in one cut). By AI agents, Wed Nov 11 2026. No macro, syntax, notation, axiom, sorry.
-/
import Derived.Test.YtbcdbheipfhoiaaChecked
import GoSem.Claim
import GoSem.ClaimJoined
import GoSem.ClaimMapViews
import Derived.JoinedTies
import Derived.KernelRfl
namespace Go.Proofs.Ytbcdbheipfhoiaa
/- THE CELL 'sum', in the pinned program and in every row, IS THE sha256 OF THE DUMP (.gsa) THAT YtbcdbheipfhoiaaProg.lean LOADS. Nothing in Lean hashes anything: it is a label: what it is worth is what the hold of that sum in a sandbox is worth. -/
noncomputable def Try.pinned : Pinned := { name := "ytbcdbheipfhoiaa", sum := "f5d35d812d44704d1fac27618829df63b519ad84fe78bc70f3b71b8b99def0e0", checked := Try.checked }
namespace Rows
def none {H : Type} : Left H := { results := [], args := [] }

/-- 'wagebooklaw30.DebtRises': WHATEVER THE INPUT: true; the input reads as it did. -/
def debtRisesSpec : ChangeSpec := { name := "debtRises", fn := fun _ => fun
  | [d1, d2, d3] => { results := [.lit (.bool true)], args := [d1, d2, d3] }
  | _ => none }
def debtRisesRow : OpenClaim := { program := "ytbcdbheipfhoiaa", sum := "f5d35d812d44704d1fac27618829df63b519ad84fe78bc70f3b71b8b99def0e0", func := "wagebook/wagebooklaw30.DebtRises", spec := "debtRises", apart := false }
def DebtRisesSaid : Prop := debtRisesRow.holds Try.pinned (OpenSpec.ofChange debtRisesSpec)

/-- ITS FALSE NEIGHBOUR: 'it returns false'. Refute it at one input. -/
def debtRisesWrong : ChangeSpec := { name := "debtRises", fn := fun _ => fun
  | [d1, d2, d3] => { results := [.lit (.bool false)], args := [d1, d2, d3] }
  | _ => none }
def DebtRisesWrongFalsely : Prop := debtRisesRow.holds Try.pinned (OpenSpec.ofChange debtRisesWrong)

/-- 'wagebooklaw30.DebtSettles': WHATEVER THE INPUT: true; the input reads as it did. -/
def debtSettlesSpec : ChangeSpec := { name := "debtSettles", fn := fun _ => fun
  | [d1, d2] => { results := [.lit (.bool true)], args := [d1, d2] }
  | _ => none }
def debtSettlesRow : OpenClaim := { program := "ytbcdbheipfhoiaa", sum := "f5d35d812d44704d1fac27618829df63b519ad84fe78bc70f3b71b8b99def0e0", func := "wagebook/wagebooklaw30.DebtSettles", spec := "debtSettles", apart := false }
def DebtSettlesSaid : Prop := debtSettlesRow.holds Try.pinned (OpenSpec.ofChange debtSettlesSpec)

/-- ITS FALSE NEIGHBOUR: 'it returns false'. Refute it at one input. -/
def debtSettlesWrong : ChangeSpec := { name := "debtSettles", fn := fun _ => fun
  | [d1, d2] => { results := [.lit (.bool false)], args := [d1, d2] }
  | _ => none }
def DebtSettlesWrongFalsely : Prop := debtSettlesRow.holds Try.pinned (OpenSpec.ofChange debtSettlesWrong)

/-- 'wagebooklaw30.DebtChains': WHATEVER THE INPUT: true; the input reads as it did. -/
def debtChainsSpec : ChangeSpec := { name := "debtChains", fn := fun _ => fun
  | [d] => { results := [.lit (.bool true)], args := [d] }
  | _ => none }
def debtChainsRow : OpenClaim := { program := "ytbcdbheipfhoiaa", sum := "f5d35d812d44704d1fac27618829df63b519ad84fe78bc70f3b71b8b99def0e0", func := "wagebook/wagebooklaw30.DebtChains", spec := "debtChains", apart := false }
def DebtChainsSaid : Prop := debtChainsRow.holds Try.pinned (OpenSpec.ofChange debtChainsSpec)

/-- ITS FALSE NEIGHBOUR: 'it returns false'. Refute it at one input. -/
def debtChainsWrong : ChangeSpec := { name := "debtChains", fn := fun _ => fun
  | [d] => { results := [.lit (.bool false)], args := [d] }
  | _ => none }
def DebtChainsWrongFalsely : Prop := debtChainsRow.holds Try.pinned (OpenSpec.ofChange debtChainsWrong)

/-- 'wagebooklaw30.DebtSums': WHATEVER THE INPUT: true; the input reads as it did. -/
def debtSumsSpec : ChangeSpec := { name := "debtSums", fn := fun _ => fun
  | [d] => { results := [.lit (.bool true)], args := [d] }
  | _ => none }
def debtSumsRow : OpenClaim := { program := "ytbcdbheipfhoiaa", sum := "f5d35d812d44704d1fac27618829df63b519ad84fe78bc70f3b71b8b99def0e0", func := "wagebook/wagebooklaw30.DebtSums", spec := "debtSums", apart := false }
def DebtSumsSaid : Prop := debtSumsRow.holds Try.pinned (OpenSpec.ofChange debtSumsSpec)

/-- ITS FALSE NEIGHBOUR: 'it returns false'. Refute it at one input. -/
def debtSumsWrong : ChangeSpec := { name := "debtSums", fn := fun _ => fun
  | [d] => { results := [.lit (.bool false)], args := [d] }
  | _ => none }
def DebtSumsWrongFalsely : Prop := debtSumsRow.holds Try.pinned (OpenSpec.ofChange debtSumsWrong)

/-- 'wagebooklaw30.DebtMonths': WHATEVER THE INPUT: true; the input reads as it did. -/
def debtMonthsSpec : ChangeSpec := { name := "debtMonths", fn := fun _ => fun
  | [d1, d2, d3] => { results := [.lit (.bool true)], args := [d1, d2, d3] }
  | _ => none }
def debtMonthsRow : OpenClaim := { program := "ytbcdbheipfhoiaa", sum := "f5d35d812d44704d1fac27618829df63b519ad84fe78bc70f3b71b8b99def0e0", func := "wagebook/wagebooklaw30.DebtMonths", spec := "debtMonths", apart := false }
def DebtMonthsSaid : Prop := debtMonthsRow.holds Try.pinned (OpenSpec.ofChange debtMonthsSpec)

/-- ITS FALSE NEIGHBOUR: 'it returns false'. Refute it at one input. -/
def debtMonthsWrong : ChangeSpec := { name := "debtMonths", fn := fun _ => fun
  | [d1, d2, d3] => { results := [.lit (.bool false)], args := [d1, d2, d3] }
  | _ => none }
def DebtMonthsWrongFalsely : Prop := debtMonthsRow.holds Try.pinned (OpenSpec.ofChange debtMonthsWrong)

/-- 'wagebooklaw30.DebtForgives': WHATEVER THE INPUT: true; the input reads as it did. -/
def debtForgivesSpec : ChangeSpec := { name := "debtForgives", fn := fun _ => fun
  | [d1, d2] => { results := [.lit (.bool true)], args := [d1, d2] }
  | _ => none }
def debtForgivesRow : OpenClaim := { program := "ytbcdbheipfhoiaa", sum := "f5d35d812d44704d1fac27618829df63b519ad84fe78bc70f3b71b8b99def0e0", func := "wagebook/wagebooklaw30.DebtForgives", spec := "debtForgives", apart := false }
def DebtForgivesSaid : Prop := debtForgivesRow.holds Try.pinned (OpenSpec.ofChange debtForgivesSpec)

/-- ITS FALSE NEIGHBOUR: 'it returns false'. Refute it at one input. -/
def debtForgivesWrong : ChangeSpec := { name := "debtForgives", fn := fun _ => fun
  | [d1, d2] => { results := [.lit (.bool false)], args := [d1, d2] }
  | _ => none }
def DebtForgivesWrongFalsely : Prop := debtForgivesRow.holds Try.pinned (OpenSpec.ofChange debtForgivesWrong)

/- THE SECOND FORM. 'bulk': how many values and letters a reading holds, each counted each time it is reached (what is shared counts as often as it is met; a slice's spare places count too). A statement '..UptoSaid' is the law's where the arguments, and the package variables that the reading takes, are together of bulk at most 1048576: NARROWER than '..Said'. Prove '..Said' where nothing that the law and all that it calls make is longer than what came in: it says more and counts as full. Else prove '..UptoSaid'. A law counts once. -/
mutual
def uptoBulk {H : Type} : DataW H → Nat
  | .lit (.string bytes) => bytes.length + 1
  | .lit _ => 1
  | .nil => 1
  | .ptr d => uptoBulk d + 1
  | .slice elems spare => uptoBulkAll elems + uptoBulkAll spare + 1
  | .agg parts => uptoBulkAll parts + 1
  | .iface _ d => uptoBulk d + 1
  | .map entries => uptoBulkEntries entries + 1
  | .held _ => 1
def uptoBulkAll {H : Type} : List (DataW H) → Nat
  | [] => 0
  | d :: r => uptoBulk d + uptoBulkAll r
def uptoBulkEntries {H : Type} : List (Lit × DataW H) → Nat
  | [] => 0
  | x :: r => uptoBulkEntry x + uptoBulkEntries r
def uptoBulkEntry {H : Type} : Lit × DataW H → Nat
  | (.string bytes, d) => bytes.length + uptoBulk d + 1
  | (_, d) => uptoBulk d + 1
 end
def uptoSmall : (H : Type) → List (DataW H) → Bool := fun _ ds => decide (uptoBulkAll ds ≤ 1048576)
def OpenSpec.upto (s : _root_.Go.ChangeSpec) : _root_.Go.OpenSpec := { _root_.Go.OpenSpec.ofChange s with cond := some uptoSmall }

/-- 'wagebooklaw30.DebtRises', WHERE WHAT IT READS IS OF BULK AT MOST 1048576: true; the input reads as it did. -/
def debtRisesUptoRow : OpenClaim := { program := "ytbcdbheipfhoiaa", sum := "f5d35d812d44704d1fac27618829df63b519ad84fe78bc70f3b71b8b99def0e0", func := "wagebook/wagebooklaw30.DebtRises", spec := "debtRises", apart := false, narrowed := true }
def DebtRisesUptoSaid : Prop := debtRisesUptoRow.holds Try.pinned (OpenSpec.upto debtRisesSpec)

/-- 'wagebooklaw30.DebtSettles', WHERE WHAT IT READS IS OF BULK AT MOST 1048576: true; the input reads as it did. -/
def debtSettlesUptoRow : OpenClaim := { program := "ytbcdbheipfhoiaa", sum := "f5d35d812d44704d1fac27618829df63b519ad84fe78bc70f3b71b8b99def0e0", func := "wagebook/wagebooklaw30.DebtSettles", spec := "debtSettles", apart := false, narrowed := true }
def DebtSettlesUptoSaid : Prop := debtSettlesUptoRow.holds Try.pinned (OpenSpec.upto debtSettlesSpec)

/-- 'wagebooklaw30.DebtChains', WHERE WHAT IT READS IS OF BULK AT MOST 1048576: true; the input reads as it did. -/
def debtChainsUptoRow : OpenClaim := { program := "ytbcdbheipfhoiaa", sum := "f5d35d812d44704d1fac27618829df63b519ad84fe78bc70f3b71b8b99def0e0", func := "wagebook/wagebooklaw30.DebtChains", spec := "debtChains", apart := false, narrowed := true }
def DebtChainsUptoSaid : Prop := debtChainsUptoRow.holds Try.pinned (OpenSpec.upto debtChainsSpec)

/-- 'wagebooklaw30.DebtSums', WHERE WHAT IT READS IS OF BULK AT MOST 1048576: true; the input reads as it did. -/
def debtSumsUptoRow : OpenClaim := { program := "ytbcdbheipfhoiaa", sum := "f5d35d812d44704d1fac27618829df63b519ad84fe78bc70f3b71b8b99def0e0", func := "wagebook/wagebooklaw30.DebtSums", spec := "debtSums", apart := false, narrowed := true }
def DebtSumsUptoSaid : Prop := debtSumsUptoRow.holds Try.pinned (OpenSpec.upto debtSumsSpec)

/-- 'wagebooklaw30.DebtMonths', WHERE WHAT IT READS IS OF BULK AT MOST 1048576: true; the input reads as it did. -/
def debtMonthsUptoRow : OpenClaim := { program := "ytbcdbheipfhoiaa", sum := "f5d35d812d44704d1fac27618829df63b519ad84fe78bc70f3b71b8b99def0e0", func := "wagebook/wagebooklaw30.DebtMonths", spec := "debtMonths", apart := false, narrowed := true }
def DebtMonthsUptoSaid : Prop := debtMonthsUptoRow.holds Try.pinned (OpenSpec.upto debtMonthsSpec)

/-- 'wagebooklaw30.DebtForgives', WHERE WHAT IT READS IS OF BULK AT MOST 1048576: true; the input reads as it did. -/
def debtForgivesUptoRow : OpenClaim := { program := "ytbcdbheipfhoiaa", sum := "f5d35d812d44704d1fac27618829df63b519ad84fe78bc70f3b71b8b99def0e0", func := "wagebook/wagebooklaw30.DebtForgives", spec := "debtForgives", apart := false, narrowed := true }
def DebtForgivesUptoSaid : Prop := debtForgivesUptoRow.holds Try.pinned (OpenSpec.upto debtForgivesSpec)

end Rows
end Go.Proofs.Ytbcdbheipfhoiaa
