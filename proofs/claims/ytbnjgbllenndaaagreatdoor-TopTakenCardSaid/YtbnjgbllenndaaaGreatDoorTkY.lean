/- The law's arguments, opened: what is told, one and a list. -/
import Derived.Test.YtbnjgbllenndaaaGreatDoorTkW
import Derived.Test.YtbnjgbllenndaaaGreatDoorLstA
import Derived.WalkKit
import Derived.ProofKit
import Derived.OpenShut
import Derived.ChangeOld
import Derived.Below
import Derived.Lib.SmallJoins
namespace Go.Proofs.YtbnjgbllenndaaaGreatDoor.W
open Go.ChangeShapes Go.WideShapes Go.ChangeAt Go.RowKit Go.Proofs.YtbnjgbllenndaaaGreatDoor.M Go.Proofs.YtbnjgbllenndaaaGreatDoor.S
set_option linter.unusedVariables false
set_option maxRecDepth 100000
section
variable {H : Type} {enc : TypeId × Value → H} {W : World} {base : Nat} {sp : Nat → Bool} {hd : Bool}
theorem told_of_cells {fuel : Nat} {cs : List Value} {x : DataW H × List MemPlace} (hl : cs.length = 5) (h : DataW.trod enc Tryz.prog W base sp hd fuel 26 cs = some x) : ∃ y : Tt, cs = tcl y ∧ y.ok := by
  obtain ⟨xs, n, _, rfl, _, hlen, hf⟩ := DataW.trod_struct Tryz.underlying26 h
  match cs, hl with
  | [c0, c1, c2, c3, c4], _ =>
    match xs, hlen with
    | [y0, y1, y2, y3, y4], _ =>
      obtain ⟨f0, e0, _, w0⟩ := DataW.trod_int Tryz.underlying5 (hf 0 _ rfl)
      obtain ⟨f1, e1, _, w1⟩ := DataW.trod_int Tryz.underlying23 (hf 1 _ rfl)
      obtain ⟨f2, e2, _, w2⟩ := DataW.trod_int Tryz.underlying24 (hf 2 _ rfl)
      obtain ⟨f3, e3, _, w3⟩ := DataW.trod_int Tryz.underlying24 (hf 3 _ rfl)
      obtain ⟨f4, e4, _, w4⟩ := DataW.trod_int Tryz.underlying24 (hf 4 _ rfl)
      have a0 : [c0] = [Value.int .u8 f0] := e0
      have a1 : [c1] = [Value.int .u32 f1] := e1
      have a2 : [c2] = [Value.int .u16 f2] := e2
      have a3 : [c3] = [Value.int .u16 f3] := e3
      have a4 : [c4] = [Value.int .u16 f4] := e4
      injection a0 with a0
      injection a1 with a1
      injection a2 with a2
      injection a3 with a3
      injection a4 with a4
      subst a0 a1 a2 a3 a4
      exact ⟨⟨f0, f1, f2, f3, f4⟩, rfl, wf_u8 w0, wf_u32 w1, wf_u16 w2, wf_u16 w3, wf_u16 w4⟩
theorem open_tolds {r : Reach} {b0 : Nat} {v : Value} {d : DataW H} {p : List MemPlace} (hv : Value.okWide Tryz.prog W r b0 22 v) (h : DataW.Trod enc Tryz.prog W base sp hd 22 v d p) :
    ∃ (a : Option Addr) (n cap : Nat) (L : Nat → Tt), v = .slice a n cap ∧ Lst 5 W a n (fun j => tcl (L j)) ∧ (∀ j, j < n → (L j).ok) ∧ (a = none → n = 0 ∧ cap = 0) ∧ n ≤ cap ∧ cap ≤ maxLen := by
  obtain ⟨a, n, cap, rfl⟩ := okWide_slice Tryz.underlying22 hv
  have hcap : n ≤ cap ∧ cap ≤ maxLen := by
    obtain ⟨fuel, hf⟩ := h
    rcases Go.Deep.open_slice Tryz.underlying22 hf with ⟨hcs, _⟩ | ⟨x, l, cp, m, k, D, Pl, hcs, _, hl, hm, _⟩
    · simp [Value.cells] at hcs
      obtain ⟨rfl, rfl, rfl⟩ := hcs
      exact ⟨Nat.le_refl _, by decide⟩
    · simp [Value.cells] at hcs
      obtain ⟨rfl, rfl, rfl⟩ := hcs
      exact ⟨hl, hm⟩
  obtain ⟨c, hz, hl, hr, hn⟩ := lst_of_trod Tryz.underlying22 (z := 5) (by kernel_rfl) (by omega) h
  have : Inhabited Tt := ⟨⟨0, 0, 0, 0, 0⟩⟩
  obtain ⟨S, hS⟩ := Go.Deep.choose_lt (n := n) (p := fun j y => c j = tcl y ∧ y.ok) (fun j hj => by
    obtain ⟨n, x, hx⟩ := hr j hj
    exact told_of_cells (hz j) hx)
  refine ⟨a, n, cap, S, rfl, ⟨hl.1, fun hp => ?_⟩, fun j hj => (hS j hj).2, hn, hcap⟩
  obtain ⟨b, off, ha, hlt, hc⟩ := hl.2 hp
  exact ⟨b, off, ha, hlt, fun j hj i u hu => hc j hj i u (by rw [(hS j hj).1]; exact hu)⟩
theorem open_told {r : Reach} {b0 : Nat} {v : Value} {d : DataW H} {p : List MemPlace} (hv : Value.okWide Tryz.prog W r b0 26 v) (h : DataW.Trod enc Tryz.prog W base sp hd 26 v d p) :
    ∃ y : Tt, v = tv y ∧ y.ok := by
  obtain ⟨cs, rfl, hsz⟩ := okWide_struct Tryz.underlying26 hv
  obtain ⟨fuel, hf⟩ := h
  have hs5 : cs.size = 5 := hsz.trans (by kernel_rfl)
  obtain ⟨y, hy, hok⟩ := told_of_cells (by simp [Value.cells, hs5]) hf
  refine ⟨y, ?_, hok⟩
  have : cs.toList = tcl y := by simpa [Value.cells] using hy
  unfold tv
  congr 1
  apply Array.ext'
  rw [this]; rfl
end
end Go.Proofs.YtbnjgbllenndaaaGreatDoor.W
