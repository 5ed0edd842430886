/- Rows in memory: a block of its own that reads as a function. -/
import Derived.Test.YtjfcbflhnfjcfaaMem
import Derived.Deep.OwnRows
import Derived.Test.YtjfcbflhnfjcfaaProg
import Derived.BigQuiet
import Derived.Lib.Hide
namespace Go.Proofs.Ytjfcbflhnfjcfaa.W
open Go.RowKit Go.Proofs.Ytjfcbflhnfjcfaa.M
set_option linter.unusedVariables false

def upd (f : Nat → Int) (b : Nat) (v : Int) : Nat → Int := fun i => if i = b then v else f i
theorem upd_same (f : Nat → Int) (b : Nat) (v : Int) : upd f b v b = v := if_pos rfl
theorem upd_other (f : Nat → Int) {b i : Nat} (v : Int) (h : i ≠ b) : upd f b v i = f i := if_neg h
/-- A row of its own block. -/
structure Row (k : IntKind) (w : World) (g n : Nat) (f : Nat → Int) : Prop where
  lt : g < w.heap.size
  cell : ∀ i, i < n → w.cell? ⟨g, i, none⟩ = some (.int k (f i))
  frz : ∀ o, w.frozen? ⟨g, o, none⟩ = false
theorem Row.next {k : IntKind} {w w' : World} {g n : Nat} {f : Nat → Int} (h : Row k w g n f) {B : Nat} (hb : Below B w w') (hB : g < B) : Row k w' g n f :=
  ⟨Nat.lt_of_lt_of_le h.lt hb.size, fun i hi => bc hb hB (h.cell i hi), fun o => bf hb hB (h.frz o)⟩
theorem Row.step {k : IntKind} {w w' : World} {g n : Nat} {f : Nat → Int} (h : Row k w g n f) (hb : Below w.heap.size w w') : Row k w' g n f := h.next hb h.lt
theorem Row.congr {k : IntKind} {w : World} {g n : Nat} {f f' : Nat → Int} (h : Row k w g n f) (e : ∀ i, i < n → f i = f' i) : Row k w g n f' :=
  ⟨h.lt, fun i hi => by rw [h.cell i hi, e i hi], h.frz⟩
theorem Row.set {k : IntKind} {w : World} {g n : Nat} {f : Nat → Int} (h : Row k w g n f) {i : Nat} (hi : i < n) (v : Int) : Row k (w.setCell ⟨g, i, none⟩ (.int k v)) g n (upd f i v) := by
  refine ⟨by simpa using h.lt, fun j hj => ?_, fun o => by rw [World.frozen?_setCell]; exact h.frz o⟩
  by_cases e : j = i
  · subst e; rw [upd_same]; exact World.cell?_setCell_same _ _ _ (h.cell j hj)
  · rw [upd_other _ _ e]
    exact (World.cell?_setCell_other _ _ _ _ (fun hh => e (by injection hh with _ h2; exact h2.symm))).trans (h.cell j hj)
theorem Row.made (k : IntKind) (w : World) (n : Nat) (E : TypeId) : Row k (w.alloc (.cells (madeCells #[.int k 0] n) E)) w.heap.size n fun _ => 0 := by
  refine ⟨by simp, fun i hi => ?_, fun o => World.frozen?_alloc_at _ _ _ _ rfl⟩
  rw [World.cell?_alloc_at _ _ _ _ rfl, ← Array.getElem?_toList, toList_madeCells_one]
  simp [hi]
theorem Row.drewN {k : IntKind} {w : World} {g n : Nat} {f : Nat → Int} (h : Row k w g n f) (m : Nat) : Row k (w.drewN m) g n f := ⟨h.lt, h.cell, h.frz⟩
end Go.Proofs.Ytjfcbflhnfjcfaa.W
