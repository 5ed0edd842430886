/- The arguments of the social laws, opened. -/
import Derived.Test.YtdmkjdlneadkcaaSocB
import Derived.Test.YtdmkjdlneadkcaaRows
import Derived.WalkKit
import Derived.ProofKit
import Derived.OpenShut
import Derived.ChangeOld
import Derived.Below
import Derived.Lib.SmallJoins
namespace Go.Proofs.Ytdmkjdlneadkcaa.W
open Go.ChangeShapes Go.WideShapes Go.ChangeAt Go.RowKit Go.Proofs.Ytdmkjdlneadkcaa.M
set_option linter.unusedVariables false
section
variable {H : Type} {enc : TypeId × Value → H} {W : World} {base : Nat} {sp : Nat → Bool} {hd : Bool}
theorem open_sums {r : Reach} {b0 : Nat} {v : Value} {d : DataW H} {p : List MemPlace} (hv : Value.okWide Try.prog W r b0 24 v) (h : DataW.Trod enc Try.prog W base sp hd 24 v d p) :
    ∃ b i w f : Int, v = .agg #[.int .i64 b, .int .i64 i, .int .i64 w, .int .i64 f] ∧ (-9223372036854775808 ≤ b ∧ b ≤ 9223372036854775807) ∧ (-9223372036854775808 ≤ i ∧ i ≤ 9223372036854775807) ∧ (-9223372036854775808 ≤ w ∧ w ≤ 9223372036854775807) ∧ (-9223372036854775808 ≤ f ∧ f ≤ 9223372036854775807) := by
  obtain ⟨c0, c1, c2, c3, y0, y1, y2, y3, m, rfl, rfl, rfl, hy0, hy1, hy2, hy3⟩ := Go.Joins.open_agg4 Try.underlying24 (by kernel_rfl) (by kernel_rfl) hv h
  obtain ⟨f0, e0, _, w0⟩ := DataW.trod_int Try.underlying22 hy0
  obtain ⟨f1, e1, _, w1⟩ := DataW.trod_int Try.underlying22 hy1
  obtain ⟨f2, e2, _, w2⟩ := DataW.trod_int Try.underlying22 hy2
  obtain ⟨f3, e3, _, w3⟩ := DataW.trod_int Try.underlying22 hy3
  injection e0 with e0
  injection e1 with e1
  injection e2 with e2
  injection e3 with e3
  subst e0 e1 e2 e3
  exact ⟨f0, f1, f2, f3, rfl, wf_i64 w0, wf_i64 w1, wf_i64 w2, wf_i64 w3⟩

theorem open_scheme {r : Reach} {b0 : Nat} {v : Value} {d : DataW H} {p : List MemPlace} (hv : Value.okWide Try.prog W r b0 27 v) (h : DataW.Trod enc Try.prog W base sp hd 27 v d p) :
    ∃ (s : ByteArray) (wr fr ce : Int), v = .agg #[.string s, .int .i64 wr, .int .i64 fr, .int .i64 ce] ∧ s.size ≤ 9223372036854775807 ∧ (-9223372036854775808 ≤ wr ∧ wr ≤ 9223372036854775807) ∧ (-9223372036854775808 ≤ fr ∧ fr ≤ 9223372036854775807) ∧ (-9223372036854775808 ≤ ce ∧ ce ≤ 9223372036854775807) := by
  obtain ⟨c0, c1, c2, c3, y0, y1, y2, y3, m, rfl, rfl, rfl, hy0, hy1, hy2, hy3⟩ := Go.Joins.open_agg4 Try.underlying27 (by kernel_rfl) (by kernel_rfl) hv h
  obtain ⟨s, e0, _, w0⟩ := DataW.trod_string Try.underlying9 hy0
  obtain ⟨f1, e1, _, w1⟩ := DataW.trod_int Try.underlying25 hy1
  obtain ⟨f2, e2, _, w2⟩ := DataW.trod_int Try.underlying25 hy2
  obtain ⟨f3, e3, _, w3⟩ := DataW.trod_int Try.underlying22 hy3
  injection e0 with e0
  injection e1 with e1
  injection e2 with e2
  injection e3 with e3
  subst e0 e1 e2 e3
  exact ⟨s, f1, f2, f3, rfl, w0, wf_i64 w1, wf_i64 w2, wf_i64 w3⟩
end
end Go.Proofs.Ytdmkjdlneadkcaa.W
