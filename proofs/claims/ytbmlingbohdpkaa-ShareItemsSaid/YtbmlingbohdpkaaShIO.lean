/- A list of items, opened. -/
import Derived.Test.YtbmlingbohdpkaaShIC
import Derived.Test.YtbmlingbohdpkaaRows
import Derived.ProofKit
import Derived.OpenShut
import Derived.ChangeOld
import Derived.Below
import Derived.Deep.SlicePairs
namespace Go.Proofs.Ytbmlingbohdpkaa.W
open Go.ChangeShapes Go.WideShapes Go.ChangeAt Go.RowKit Go.Proofs.Ytbmlingbohdpkaa.M
set_option linter.unusedVariables false
section
variable {H : Type} {enc : TypeId × Value → H} {W : World} {base : Nat} {sp : Nat → Bool} {hd : Bool}
theorem its_of_trod {a : Option Addr} {len cap : Nat} {d : DataW H} {p : List MemPlace} (h : DataW.Trod enc Try.prog W base sp hd 41 (.slice a len cap) d p) :
    ∃ C V, Its W a len C V ∧ ∀ j, j < len → -9223372036854775808 ≤ V j ∧ V j ≤ 9223372036854775807 := by
  obtain ⟨fuel, hf⟩ := h
  rcases Go.Deep.open_slice_pairs Try.underlying41 Try.underlying47 (by kernel_rfl) rfl rfl (by kernel_rfl) (by kernel_rfl) hf with ⟨hcs, _⟩ | ⟨x, l, c, m, n, V0, V1, D0, D1, P0, P1, hcs, _, hl, hm, hmm, _, hx⟩
  · simp [Value.cells] at hcs
    obtain ⟨rfl, rfl, rfl⟩ := hcs
    exact ⟨fun _ => ByteArray.empty, fun _ => 0, ⟨by omega, fun h => absurd h (by omega)⟩, fun j hj => absurd hj (by omega)⟩
  · simp [Value.cells] at hcs
    obtain ⟨rfl, rfl, rfl⟩ := hcs
    obtain ⟨b, off, spot⟩ := x
    have hlm : len ≤ m := by rw [hmm]; split <;> omega
    have key : ∀ i, i < len → ∃ (s : ByteArray) (v : Int), V0 i = .string s ∧ V1 i = .int .i64 v ∧ (-9223372036854775808 ≤ v ∧ v ≤ 9223372036854775807) := fun i hi => by
      obtain ⟨_, _, t0, t1⟩ := hx i (by omega)
      obtain ⟨s, e0, _, w0⟩ := DataW.trod_string Try.underlying9 t0
      obtain ⟨v, e1, _, w1⟩ := DataW.trod_int Try.underlying30 t1
      injection e0 with e0
      injection e1 with e1
      exact ⟨s, v, e0, e1, wf_i64 w1⟩
    let C : Nat → ByteArray := fun i => match V0 i with | .string s => s | _ => ByteArray.empty
    let V : Nat → Int := fun i => match V1 i with | .int _ v => v | _ => 0
    have hC : ∀ i, i < len → V0 i = .string (C i) ∧ V1 i = .int .i64 (V i) ∧ (-9223372036854775808 ≤ V i ∧ V i ≤ 9223372036854775807) := fun i hi => by
      obtain ⟨s, v, h0, h1, h2⟩ := key i hi
      have e0 : C i = s := by show (match V0 i with | .string s => s | _ => ByteArray.empty) = s; rw [h0]
      have e1 : V i = v := by show (match V1 i with | .int _ v => v | _ => 0) = v; rw [h1]
      rw [e0, e1]
      exact ⟨h0, h1, h2⟩
    refine ⟨C, V, ⟨by unfold maxLen at hm; omega, fun hn => ?_⟩, fun j hj => (hC j hj).2.2⟩
    have h0 := (hx 0 (by omega)).1
    have hspot : spot = none := by simpa [Addr.add] using World.cell?_spot h0
    subst hspot
    refine ⟨b, off, rfl, by simpa [Addr.add] using World.block_lt_of_cell? _ _ h0, fun j hj => ?_⟩
    obtain ⟨g0, g1, _⟩ := hx j (by omega)
    obtain ⟨v0, v1, _⟩ := hC j hj
    have add_at : ∀ q, (⟨b, off, none⟩ : Addr).add q = ⟨b, off + q, none⟩ := fun q => by unfold Addr.add; split <;> simp_all
    rw [add_at] at g0 g1
    rw [v0] at g0
    rw [v1] at g1
    exact ⟨g0, g1⟩
theorem open_its {r : Reach} {b0 : Nat} {v : Value} {d : DataW H} {p : List MemPlace} (hv : Value.okWide Try.prog W r b0 41 v) (h : DataW.Trod enc Try.prog W base sp hd 41 v d p) :
    ∃ (a : Option Addr) (n cap : Nat) (C : Nat → ByteArray) (V : Nat → Int), v = .slice a n cap ∧ Its W a n C V ∧ ∀ j, j < n → -9223372036854775808 ≤ V j ∧ V j ≤ 9223372036854775807 := by
  obtain ⟨a, n, cap, rfl⟩ := okWide_slice Try.underlying41 hv
  obtain ⟨C, V, h1, h2⟩ := its_of_trod h
  exact ⟨a, n, cap, C, V, rfl, h1, h2⟩
end
end Go.Proofs.Ytbmlingbohdpkaa.W
