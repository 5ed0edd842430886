/- The law's argument, opened: a list of amounts. -/
import Derived.Test.YtnakcmliopcabaaTeV
import Derived.Test.YtnakcmliopcabaaRows
import Derived.Test.YtnakcmliopcabaaLstA
import Derived.WalkKit
import Derived.ProofKit
import Derived.OpenShut
import Derived.ChangeOld
import Derived.Below
import Derived.Lib.SmallJoins
namespace Go.Proofs.Ytnakcmliopcabaa.W
open Go.ChangeShapes Go.WideShapes Go.ChangeAt Go.RowKit Go.Proofs.Ytnakcmliopcabaa.M Go.Proofs.Ytnakcmliopcabaa.S
set_option linter.unusedVariables false
set_option maxRecDepth 100000
section
variable {H : Type} {enc : TypeId × Value → H} {W : World} {base : Nat} {sp : Nat → Bool} {hd : Bool}
theorem amt_of_cells {fuel : Nat} {cs : List Value} {x : DataW H × List MemPlace} (hl : cs.length = 6) (h : DataW.trod enc Try.prog W base sp hd fuel 26 cs = some x) : ∃ y : Amt, cs = acells y ∧ y.ok := by
  obtain ⟨xs, n, _, rfl, _, hlen, hf⟩ := DataW.trod_struct Try.underlying26 h
  match cs, hl with
  | [c0, c1, c2, c3, c4, c5], _ =>
    match xs, hlen with
    | [y0, y1, y2, y3, y4, y5], _ =>
      obtain ⟨f0, e0, _, w0⟩ := DataW.trod_int Try.underlying5 (hf 0 _ rfl)
      obtain ⟨f1, e1, _, w1⟩ := DataW.trod_int Try.underlying5 (hf 1 _ rfl)
      obtain ⟨f2, e2, _, w2⟩ := DataW.trod_int Try.underlying5 (hf 2 _ rfl)
      obtain ⟨f3, e3, _, w3⟩ := DataW.trod_int Try.underlying5 (hf 3 _ rfl)
      obtain ⟨f4, e4, _, w4⟩ := DataW.trod_int Try.underlying5 (hf 4 _ rfl)
      obtain ⟨f5, e5, _, w5⟩ := DataW.trod_int Try.underlying21 (hf 5 _ rfl)
      have a0 : [c0] = [Value.int .u8 f0] := e0
      have a1 : [c1] = [Value.int .u8 f1] := e1
      have a2 : [c2] = [Value.int .u8 f2] := e2
      have a3 : [c3] = [Value.int .u8 f3] := e3
      have a4 : [c4] = [Value.int .u8 f4] := e4
      have a5 : [c5] = [Value.int .i32 f5] := e5
      injection a0 with a0
      injection a1 with a1
      injection a2 with a2
      injection a3 with a3
      injection a4 with a4
      injection a5 with a5
      subst a0 a1 a2 a3 a4 a5
      exact ⟨⟨f0, f1, f2, f3, f4, f5⟩, rfl, wf_u8 w0, wf_u8 w1, wf_u8 w2, wf_u8 w3, wf_u8 w4, wf_i32 w5⟩
theorem open_cells {r : Reach} {b0 : Nat} {v : Value} {d : DataW H} {p : List MemPlace} (hv : Value.okWide Try.prog W r b0 22 v) (h : DataW.Trod enc Try.prog W base sp hd 22 v d p) :
    ∃ (a : Option Addr) (n cap : Nat) (C : Nat → Amt), v = .slice a n cap ∧ Lst 6 W a n (fun j => acells (C j)) ∧ (∀ j, j < n → (C j).ok) ∧ (a = none → n = 0 ∧ cap = 0) := by
  obtain ⟨a, n, cap, rfl⟩ := okWide_slice Try.underlying22 hv
  obtain ⟨c, hz, hl, hr, hn⟩ := lst_of_trod Try.underlying22 (z := 6) (by kernel_rfl) (by omega) h
  have : Inhabited Amt := ⟨⟨0, 0, 0, 0, 0, 0⟩⟩
  obtain ⟨S, hS⟩ := Go.Deep.choose_lt (n := n) (p := fun j y => c j = acells y ∧ y.ok) (fun j hj => by
    obtain ⟨n, x, hx⟩ := hr j hj
    exact amt_of_cells (hz j) hx)
  refine ⟨a, n, cap, S, rfl, ⟨hl.1, fun hp => ?_⟩, fun j hj => (hS j hj).2, hn⟩
  obtain ⟨b, off, ha, hlt, hc⟩ := hl.2 hp
  exact ⟨b, off, ha, hlt, fun j hj i u hu => hc j hj i u (by rw [(hS j hj).1]; exact hu)⟩
end
end Go.Proofs.Ytnakcmliopcabaa.W
