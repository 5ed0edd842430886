/- A list of schemes, opened. -/
import Derived.Test.YtdmkjdlneadkcaaSocXB
import Derived.Test.YtdmkjdlneadkcaaSocO
import Derived.Test.YtdmkjdlneadkcaaLstA
namespace Go.Proofs.Ytdmkjdlneadkcaa.W
open Go.ChangeShapes Go.WideShapes Go.ChangeAt Go.RowKit Go.Proofs.Ytdmkjdlneadkcaa.M Go.Proofs.Ytdmkjdlneadkcaa.S Go.Proofs.Ytdmkjdlneadkcaa.B
set_option linter.unusedVariables false
section
variable {H : Type} {enc : TypeId × Value → H} {W : World} {base : Nat} {sp : Nat → Bool} {hd : Bool}
theorem sch_of_cells {fuel : Nat} {cs : List Value} {x : DataW H × List MemPlace} (hl : cs.length = 4) (h : DataW.trod enc Try.prog W base sp hd fuel 27 cs = some x) : ∃ y : Sch, cs = scells y ∧ okS y := by
  obtain ⟨y0, y1, y2, y3, n, _, _, h0, h1, h2, h3⟩ := Go.Joins.trod_struct4 Try.underlying27 h
  match cs, hl with
  | [c0, c1, c2, c3], _ =>
    obtain ⟨s, e0, _, w0⟩ := DataW.trod_string Try.underlying9 h0
    obtain ⟨f1, e1, _, w1⟩ := DataW.trod_int Try.underlying25 h1
    obtain ⟨f2, e2, _, w2⟩ := DataW.trod_int Try.underlying25 h2
    obtain ⟨f3, e3, _, w3⟩ := DataW.trod_int Try.underlying22 h3
    have a0 : [c0] = [Value.string s] := e0
    have a1 : [c1] = [Value.int .i64 f1] := e1
    have a2 : [c2] = [Value.int .i64 f2] := e2
    have a3 : [c3] = [Value.int .i64 f3] := e3
    injection a0 with a0
    injection a1 with a1
    injection a2 with a2
    injection a3 with a3
    subst a0 a1 a2 a3
    exact ⟨⟨s, f1, f2, f3⟩, rfl, w0, wf_i64 w1, wf_i64 w2, wf_i64 w3⟩
theorem schs_of_trod {a : Option Addr} {len cap : Nat} {d : DataW H} {p : List MemPlace} (h : DataW.Trod enc Try.prog W base sp hd 45 (.slice a len cap) d p) :
    ∃ S : Nat → Sch, Lst 4 W a len (fun j => scells (S j)) ∧ (∀ j, j < len → okS (S j)) ∧ (a = none → len = 0 ∧ cap = 0) := by
  obtain ⟨c, hz, hl, hr, hn⟩ := lst_of_trod Try.underlying45 (z := 4) (by kernel_rfl) (by omega) h
  have : Inhabited Sch := ⟨⟨ByteArray.empty, 0, 0, 0⟩⟩
  obtain ⟨S, hS⟩ := Go.Deep.choose_lt (n := len) (p := fun j y => c j = scells y ∧ okS y) (fun j hj => by
    obtain ⟨n, x, hx⟩ := hr j hj
    exact sch_of_cells (hz j) hx)
  refine ⟨S, ⟨hl.1, fun hp => ?_⟩, fun j hj => (hS j hj).2, hn⟩
  obtain ⟨b, off, ha, hlt, hc⟩ := hl.2 hp
  exact ⟨b, off, ha, hlt, fun j hj i u hu => hc j hj i u (by rw [(hS j hj).1]; exact hu)⟩
theorem open_schs {r : Reach} {b0 : Nat} {v : Value} {d : DataW H} {p : List MemPlace} (hv : Value.okWide Try.prog W r b0 45 v) (h : DataW.Trod enc Try.prog W base sp hd 45 v d p) :
    ∃ (a : Option Addr) (n cap : Nat) (S : Nat → Sch), v = .slice a n cap ∧ Lst 4 W a n (fun j => scells (S j)) ∧ (∀ j, j < n → okS (S j)) ∧ (a = none → n = 0 ∧ cap = 0) := by
  obtain ⟨a, n, cap, rfl⟩ := okWide_slice Try.underlying45 hv
  obtain ⟨S, h1, h2, h3⟩ := schs_of_trod h
  exact ⟨a, n, cap, S, rfl, h1, h2, h3⟩
end
end Go.Proofs.Ytdmkjdlneadkcaa.W
