/- The arguments of the laws of attach, opened: orders, items. -/
import Derived.Test.YtjfcbflhnfjcfaaAtTC
import Derived.Test.YtjfcbflhnfjcfaaRows
import Derived.Test.YtjfcbflhnfjcfaaLstA
import Derived.WalkKit
import Derived.ProofKit
import Derived.OpenShut
import Derived.ChangeOld
import Derived.Below
import Derived.Lib.SmallJoins
namespace Go.Proofs.Ytjfcbflhnfjcfaa.W
open Go.ChangeShapes Go.WideShapes Go.ChangeAt Go.RowKit Go.Proofs.Ytjfcbflhnfjcfaa.M Go.Proofs.Ytjfcbflhnfjcfaa.S Go.Proofs.Ytjfcbflhnfjcfaa.B
set_option linter.unusedVariables false
set_option maxRecDepth 100000
section
variable {H : Type} {enc : TypeId × Value → H} {W : World} {base : Nat} {sp : Nat → Bool} {hd : Bool}
theorem ord_of_cells {fuel : Nat} {cs : List Value} {x : DataW H × List MemPlace} (hl : cs.length = 6) (h : DataW.trod enc Try.prog W base sp hd fuel 43 cs = some x) : ∃ y : Ord, cs = ocells y ∧ okO y := by
  obtain ⟨xs, n, _, rfl, _, hlen, hf⟩ := DataW.trod_struct Try.underlying43 h
  match cs, hl with
  | [c0, c1, c2, c3, c4, c5], _ =>
    match xs, hlen with
    | [y0, y1, y2, y3, y4, y5], _ =>
      obtain ⟨s, e0, _, w0⟩ := DataW.trod_string Try.underlying9 (hf 0 _ rfl)
      obtain ⟨f1, e1, _, w1⟩ := DataW.trod_int Try.underlying3 (hf 1 _ rfl)
      obtain ⟨f2, e2, _, w2⟩ := DataW.trod_int Try.underlying41 (hf 2 _ rfl)
      obtain ⟨f3, e3, _, w3⟩ := DataW.trod_int Try.underlying22 (hf 3 _ rfl)
      obtain ⟨f4, e4, _, w4⟩ := DataW.trod_int Try.underlying22 (hf 4 _ rfl)
      obtain ⟨f5, e5, _, w5⟩ := DataW.trod_int Try.underlying22 (hf 5 _ rfl)
      have a0 : [c0] = [Value.string s] := e0
      have a1 : [c1] = [Value.int .i64 f1] := e1
      have a2 : [c2] = [Value.int .i64 f2] := e2
      have a3 : [c3] = [Value.int .i64 f3] := e3
      have a4 : [c4] = [Value.int .i64 f4] := e4
      have a5 : [c5] = [Value.int .i64 f5] := e5
      injection a0 with a0
      injection a1 with a1
      injection a2 with a2
      injection a3 with a3
      injection a4 with a4
      injection a5 with a5
      subst a0 a1 a2 a3 a4 a5
      exact ⟨⟨s, f1, f2, f3, f4, f5⟩, rfl, w0, wf_i64 w1, wf_i64 w2, wf_i64 w3, wf_i64 w4, wf_i64 w5⟩
theorem ords_of_trod {a : Option Addr} {len cap : Nat} {d : DataW H} {p : List MemPlace} (h : DataW.Trod enc Try.prog W base sp hd 24 (.slice a len cap) d p) :
    ∃ S : Nat → Ord, Lst 6 W a len (fun j => ocells (S j)) ∧ (∀ j, j < len → okO (S j)) ∧ (a = none → len = 0 ∧ cap = 0) := by
  obtain ⟨c, hz, hl, hr, hn⟩ := lst_of_trod Try.underlying24 (z := 6) (by kernel_rfl) (by omega) h
  obtain ⟨S, hS⟩ := Go.Deep.choose_lt (n := len) (p := fun j y => c j = ocells y ∧ okO y) (fun j hj => by
    obtain ⟨n, x, hx⟩ := hr j hj
    exact ord_of_cells (hz j) hx)
  refine ⟨S, ⟨hl.1, fun hp => ?_⟩, fun j hj => (hS j hj).2, hn⟩
  obtain ⟨b, off, ha, hlt, hc⟩ := hl.2 hp
  exact ⟨b, off, ha, hlt, fun j hj i u hu => hc j hj i u (by rw [(hS j hj).1]; exact hu)⟩
theorem open_ords {r : Reach} {b0 : Nat} {v : Value} {d : DataW H} {p : List MemPlace} (hv : Value.okWide Try.prog W r b0 24 v) (h : DataW.Trod enc Try.prog W base sp hd 24 v d p) :
    ∃ (a : Option Addr) (n cap : Nat) (S : Nat → Ord), v = .slice a n cap ∧ Lst 6 W a n (fun j => ocells (S j)) ∧ (∀ j, j < n → okO (S j)) ∧ (a = none → n = 0 ∧ cap = 0) := by
  obtain ⟨a, n, cap, rfl⟩ := okWide_slice Try.underlying24 hv
  obtain ⟨S, h1, h2, h3⟩ := ords_of_trod h
  exact ⟨a, n, cap, S, rfl, h1, h2, h3⟩
theorem open_ord {r : Reach} {b0 : Nat} {v : Value} {d : DataW H} {p : List MemPlace} (hv : Value.okWide Try.prog W r b0 43 v) (h : DataW.Trod enc Try.prog W base sp hd 43 v d p) :
    ∃ y : Ord, v = oval y ∧ okO y := by
  obtain ⟨cs, rfl, hsz⟩ := okWide_struct Try.underlying43 hv
  obtain ⟨fuel, hf⟩ := h
  have hs6 : cs.size = 6 := hsz.trans (by kernel_rfl)
  obtain ⟨y, hy, hok⟩ := ord_of_cells (by simp [Value.cells, hs6]) hf
  refine ⟨y, ?_, hok⟩
  have : cs.toList = ocells y := by simpa [Value.cells] using hy
  unfold oval
  congr 1
  apply Array.ext'
  rw [this]; rfl

def okI (p : ByteArray × Int) : Prop := p.1.size ≤ 9223372036854775807 ∧ I64 p.2
theorem item_of_cells {fuel : Nat} {cs : List Value} {x : DataW H × List MemPlace} (hl : cs.length = 2) (h : DataW.trod enc Try.prog W base sp hd fuel 38 cs = some x) : ∃ y : ByteArray × Int, cs = ic y ∧ okI y := by
  obtain ⟨y0, y1, n, _, _, h0, h1⟩ := trod_struct2 Try.underlying38 h
  match cs, hl with
  | [c0, c1], _ =>
    obtain ⟨s, e0, _, w0⟩ := DataW.trod_string Try.underlying9 h0
    obtain ⟨f1, e1, _, w1⟩ := DataW.trod_int Try.underlying22 h1
    have a0 : [c0] = [Value.string s] := e0
    have a1 : [c1] = [Value.int .i64 f1] := e1
    injection a0 with a0
    injection a1 with a1
    subst a0 a1
    exact ⟨(s, f1), rfl, w0, wf_i64 w1⟩
theorem open_items {r : Reach} {b0 : Nat} {v : Value} {d : DataW H} {p : List MemPlace} (hv : Value.okWide Try.prog W r b0 23 v) (h : DataW.Trod enc Try.prog W base sp hd 23 v d p) :
    ∃ (a : Option Addr) (n cap : Nat) (I : Nat → ByteArray × Int), v = .slice a n cap ∧ Lst 2 W a n (fun j => ic (I j)) ∧ (∀ j, j < n → okI (I j)) ∧ (a = none → n = 0 ∧ cap = 0) := by
  obtain ⟨a, n, cap, rfl⟩ := okWide_slice Try.underlying23 hv
  obtain ⟨c, hz, hl, hr, hn⟩ := lst_of_trod Try.underlying23 (z := 2) (by kernel_rfl) (by omega) h
  have : Inhabited (ByteArray × Int) := ⟨(ByteArray.empty, 0)⟩
  obtain ⟨I, hI⟩ := Go.Deep.choose_lt (n := n) (p := fun j y => c j = ic y ∧ okI y) (fun j hj => by
    obtain ⟨n, x, hx⟩ := hr j hj
    exact item_of_cells (hz j) hx)
  refine ⟨a, n, cap, I, rfl, ⟨hl.1, fun hp => ?_⟩, fun j hj => (hI j hj).2, hn⟩
  obtain ⟨b, off, ha, hlt, hc⟩ := hl.2 hp
  exact ⟨b, off, ha, hlt, fun j hj i u hu => hc j hj i u (by rw [(hI j hj).1]; exact hu)⟩
end
end Go.Proofs.Ytjfcbflhnfjcfaa.W
