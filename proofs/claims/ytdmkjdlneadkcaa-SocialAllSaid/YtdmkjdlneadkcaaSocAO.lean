/- Lists of texts and of sums, opened. -/
import Derived.Test.YtdmkjdlneadkcaaSocXO
import Derived.Test.YtdmkjdlneadkcaaSocAS
namespace Go.Proofs.Ytdmkjdlneadkcaa.W
open Go.ChangeShapes Go.WideShapes Go.ChangeAt Go.RowKit Go.Proofs.Ytdmkjdlneadkcaa.M Go.Proofs.Ytdmkjdlneadkcaa.S Go.Proofs.Ytdmkjdlneadkcaa.B
set_option linter.unusedVariables false
section
variable {H : Type} {enc : TypeId × Value → H} {W : World} {base : Nat} {sp : Nat → Bool} {hd : Bool}
theorem text_of_cells {fuel : Nat} {cs : List Value} {x : DataW H × List MemPlace} (hl : cs.length = 1) (h : DataW.trod enc Try.prog W base sp hd fuel 9 cs = some x) : ∃ s : ByteArray, cs = tcells s ∧ s.size ≤ 9223372036854775807 := by
  match cs, hl with
  | [c0], _ =>
    obtain ⟨s, e0, _, w0⟩ := DataW.trod_string Try.underlying9 h
    have a0 : [c0] = [Value.string s] := e0
    injection a0 with a0
    subst a0
    exact ⟨s, rfl, w0⟩
theorem sums_of_cells {fuel : Nat} {cs : List Value} {x : DataW H × List MemPlace} (hl : cs.length = 4) (h : DataW.trod enc Try.prog W base sp hd fuel 24 cs = some x) : ∃ y : Sm, cs = mcells y ∧ okM y := by
  obtain ⟨y0, y1, y2, y3, n, _, _, h0, h1, h2, h3⟩ := Go.Joins.trod_struct4 Try.underlying24 h
  match cs, hl with
  | [c0, c1, c2, c3], _ =>
    obtain ⟨f0, e0, _, w0⟩ := DataW.trod_int Try.underlying22 h0
    obtain ⟨f1, e1, _, w1⟩ := DataW.trod_int Try.underlying22 h1
    obtain ⟨f2, e2, _, w2⟩ := DataW.trod_int Try.underlying22 h2
    obtain ⟨f3, e3, _, w3⟩ := DataW.trod_int Try.underlying22 h3
    have a0 : [c0] = [Value.int .i64 f0] := e0
    have a1 : [c1] = [Value.int .i64 f1] := e1
    have a2 : [c2] = [Value.int .i64 f2] := e2
    have a3 : [c3] = [Value.int .i64 f3] := e3
    injection a0 with a0
    injection a1 with a1
    injection a2 with a2
    injection a3 with a3
    subst a0 a1 a2 a3
    exact ⟨(f0, f1, f2, f3), rfl, wf_i64 w0, wf_i64 w1, wf_i64 w2, wf_i64 w3⟩
theorem open_codes {r : Reach} {b0 : Nat} {v : Value} {d : DataW H} {p : List MemPlace} (hv : Value.okWide Try.prog W r b0 43 v) (h : DataW.Trod enc Try.prog W base sp hd 43 v d p) :
    ∃ (a : Option Addr) (n cap : Nat) (C : Nat → ByteArray), v = .slice a n cap ∧ Lst 1 W a n (fun j => tcells (C j)) ∧ (∀ j, j < n → (C j).size ≤ 9223372036854775807) := by
  obtain ⟨a, n, cap, rfl⟩ := okWide_slice Try.underlying43 hv
  obtain ⟨c, hz, hl, hr, _⟩ := lst_of_trod Try.underlying43 (z := 1) (by kernel_rfl) (by omega) h
  have : Inhabited ByteArray := ⟨ByteArray.empty⟩
  obtain ⟨C, hC⟩ := Go.Deep.choose_lt (n := n) (p := fun j y => c j = tcells y ∧ y.size ≤ 9223372036854775807) (fun j hj => by
    obtain ⟨n, x, hx⟩ := hr j hj
    exact text_of_cells (hz j) hx)
  refine ⟨a, n, cap, C, rfl, ⟨hl.1, fun hp => ?_⟩, fun j hj => (hC j hj).2⟩
  obtain ⟨b, off, ha, hlt, hc⟩ := hl.2 hp
  exact ⟨b, off, ha, hlt, fun j hj i u hu => hc j hj i u (by rw [(hC j hj).1]; exact hu)⟩
theorem open_sumsl {r : Reach} {b0 : Nat} {v : Value} {d : DataW H} {p : List MemPlace} (hv : Value.okWide Try.prog W r b0 44 v) (h : DataW.Trod enc Try.prog W base sp hd 44 v d p) :
    ∃ (a : Option Addr) (n cap : Nat) (M : Nat → Sm), v = .slice a n cap ∧ Lst 4 W a n (fun j => mcells (M j)) ∧ (∀ j, j < n → okM (M j)) := by
  obtain ⟨a, n, cap, rfl⟩ := okWide_slice Try.underlying44 hv
  obtain ⟨c, hz, hl, hr, _⟩ := lst_of_trod Try.underlying44 (z := 4) (by kernel_rfl) (by omega) h
  have : Inhabited Sm := ⟨(0, 0, 0, 0)⟩
  obtain ⟨M, hM⟩ := Go.Deep.choose_lt (n := n) (p := fun j y => c j = mcells y ∧ okM y) (fun j hj => by
    obtain ⟨n, x, hx⟩ := hr j hj
    exact sums_of_cells (hz j) hx)
  refine ⟨a, n, cap, M, rfl, ⟨hl.1, fun hp => ?_⟩, fun j hj => (hM j hj).2⟩
  obtain ⟨b, off, ha, hlt, hc⟩ := hl.2 hp
  exact ⟨b, off, ha, hlt, fun j hj i u hu => hc j hj i u (by rw [(hM j hj).1]; exact hu)⟩
end
end Go.Proofs.Ytdmkjdlneadkcaa.W
