/- Blocks known by their content, for regions that draw their order. -/
import Derived.Test.YtbnjgbllenndaaaGreatDoorMem
namespace Go.Proofs.YtbnjgbllenndaaaGreatDoor.M
open Go.RowKit
set_option linter.unusedVariables false

theorem blk_lt {w : World} {g : Nat} {o : Obj} (hb : w.heap[g]? = some o) : g < w.heap.size := by
  rcases Nat.lt_or_ge g w.heap.size with h | h
  · exact h
  · rw [Array.getElem?_eq_none h] at hb; cases hb
theorem blk_old {w : World} {g : Nat} {o u : Obj} (hb : w.heap[g]? = some u) : (w.alloc o).heap[g]? = some u := by
  have h := blk_lt hb
  show (w.heap.push o)[g]? = some u
  rw [Array.getElem?_push, if_neg (by omega)]
  exact hb
theorem blk_drew {w : World} {g : Nat} {u : Obj} (hb : w.heap[g]? = some u) : w.drew.heap[g]? = some u := hb
theorem blk_top {w : World} {g : Nat} {u : Obj} (h : g = w.heap.size) : (w.alloc u).heap[g]? = some u := block_alloc_last' w u h
theorem blk_grown {w w' : World} {row : Option Nat} {g : Nat} {u : Obj} (hg : w.grownBy w' row) (hb : w.heap[g]? = some u) (hne : some g ≠ row) : w'.heap[g]? = some u := (hg.block g (blk_lt hb) hne).trans hb
theorem blk_far {w : World} {g : Nat} {p : Addr} {v : Value} {u : Obj} (hb : w.heap[g]? = some u) (h : g ≠ p.block) : (w.setCell p v).heap[g]? = some u := (Below.heap_setCell w p v g h).trans hb
theorem blk_t00 {w : World} {u : Obj} : (w.alloc u).heap[w.heap.size]? = some u := blk_top rfl
theorem blk_t10 {w : World} {u o : Obj} : ((w.alloc u).alloc o).heap[w.heap.size]? = some u := blk_old blk_t00
theorem blk_t11 {w : World} {u o : Obj} : ((w.alloc o).alloc u).heap[w.heap.size + 1]? = some u := blk_top (by simp)
theorem blk_t20 {w : World} {u o o' : Obj} : (((w.alloc u).alloc o).alloc o').heap[w.heap.size]? = some u := blk_old blk_t10
theorem blk_t21 {w : World} {u o o' : Obj} : (((w.alloc o').alloc u).alloc o).heap[w.heap.size + 1]? = some u := blk_old blk_t11
theorem blk_t22 {w : World} {u o o' : Obj} : (((w.alloc o').alloc o).alloc u).heap[w.heap.size + 2]? = some u := blk_top (by simp)
/-- A guard: the goal is a step of a region. -/
theorem if_step {c : Prop} [Decidable c] {A B : Prop} (h : ite c A B) : ite c A B := h
/-- The block of an operand's value, told by 'rfl' on the frame. -/
theorem lay_blk {K : Act → World → Prop} {a : Act} {w : World} {u : Obj} (s : Operand) {g : Nat} (h : a.eval s = .pointer (some ⟨g, 0, none⟩)) (hp : w.heap[g]? = some u) (k : w.heap[g]? = some u → K a w) : K a w := k hp
theorem lay_sl {K : Act → World → Prop} {a : Act} {w : World} {u : Obj} (s : Operand) {g m c : Nat} (h : a.eval s = .slice (some ⟨g, 0, none⟩) m c) (hp : w.heap[g]? = some u) (k : w.heap[g]? = some u → K a w) : K a w := k hp
theorem own_blk {w : World} {base g z : Nat} {e : TypeId} (hb : w.heap[g]? = some (.cells #[] e (0, 0))) (hg : base ≤ g) : w.ownsRow base e z (.slice (some ⟨g, 0, none⟩) 0 0) 0 [] :=
  ⟨by simp, .inr ⟨g, 0, #[], rfl, hg, hb, Nat.le_refl _, Nat.zero_le _, by simp, by simp⟩⟩
theorem balloc_drew {a b : World} (h : Below a.heap.size a b.drew) (o : Obj) : Below a.heap.size a (b.alloc o).drew := balloc h o
theorem lay {p q : Prop} (hp : p) (h : p → q) : q := h hp
theorem szS {V w' : World} (h : Below V.heap.size V w' ∧ ∀ b o, b < V.heap.size → w'.cell? ⟨b, o, none⟩ = V.cell? ⟨b, o, none⟩) : V.heap.size ≤ w'.heap.size := h.1.size
theorem grS {V W w' : World} {row : Option Nat} (h : Below V.heap.size V W ∧ ∀ b o, b < V.heap.size → W.cell? ⟨b, o, none⟩ = V.cell? ⟨b, o, none⟩) (hg : W.grownBy w' row) (hr : ∀ k, row = some k → V.heap.size ≤ k) : Below V.heap.size V w' := h.1.grown hg h.1.size hr
theorem keepS {V w' : World} (h : Below V.heap.size V w') : Below V.heap.size V w' ∧ ∀ b o, b < V.heap.size → w'.cell? ⟨b, o, none⟩ = V.cell? ⟨b, o, none⟩ := ⟨h, (bcell h).1⟩
end Go.Proofs.YtbnjgbllenndaaaGreatDoor.M
