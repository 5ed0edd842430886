/- Lists of structs in memory: a slice that reads as n rows of cells; a row that the call owns, as a list. -/
import Derived.Test.YtbnjgbllenndaaaGreatDoorMem
import Derived.Deep.AppendLies
import Derived.Maps.Range
namespace Go.Proofs.YtbnjgbllenndaaaGreatDoor.M
open Go.RowKit
set_option linter.unusedVariables false

/-- A slice that reads as n elements of z cells each: element j has the cells c j. -/
def Lst (z : Nat) (w : World) (a : Option Addr) (n : Nat) (c : Nat → List Value) : Prop :=
  n ≤ 9223372036854775807 ∧ (0 < n → ∃ b off, a = some ⟨b, off, none⟩ ∧ b < w.heap.size ∧ ∀ j, j < n → ∀ i u, (c j)[i]? = some u → w.cell? ⟨b, off + j * z + i, none⟩ = some u)
theorem Lst.step {z : Nat} {w w' : World} {a : Option Addr} {n : Nat} {c : Nat → List Value} (h : Lst z w a n c) (hb : Below w.heap.size w w') : Lst z w' a n c :=
  ⟨h.1, fun hn => by
    obtain ⟨b, off, ha, hlt, hc⟩ := h.2 hn
    exact ⟨b, off, ha, Nat.lt_of_lt_of_le hlt hb.size, fun j hj i u hu => bc hb hlt (hc j hj i u hu)⟩⟩
theorem Lst.at_ {z : Nat} {w : World} {a : Option Addr} {n : Nat} {c : Nat → List Value} (h : Lst z w a n c) {j : Nat} (hj : j < n) : ∃ b off, a = some ⟨b, off, none⟩ ∧ b < w.heap.size ∧ ∀ i u, (c j)[i]? = some u → w.cell? ⟨b, off + j * z + i, none⟩ = some u := by
  obtain ⟨b, off, ha, hlt, hc⟩ := h.2 (by omega)
  exact ⟨b, off, ha, hlt, hc j hj⟩

/-- The cells of m elements. -/
def XR (c : Nat → List Value) : Nat → List Value
  | 0 => []
  | m + 1 => XR c m ++ c m
theorem XR_len {z : Nat} {c : Nat → List Value} (hz : ∀ j, (c j).length = z) : ∀ m, (XR c m).length = m * z
  | 0 => by simp [XR]
  | m + 1 => by unfold XR; rw [List.length_append, XR_len hz m, hz m, Nat.succ_mul]
theorem XR_at {z : Nat} {c : Nat → List Value} (hz : ∀ j, (c j).length = z) : ∀ m j, j < m → ∀ i u, (c j)[i]? = some u → (XR c m)[j * z + i]? = some u
  | 0, j, h => absurd h (by omega)
  | m + 1, j, h => fun i u hu => by
    have hi : i < z := by
      have := (List.getElem?_eq_some_iff.1 hu).1
      rw [hz j] at this; exact this
    unfold XR
    by_cases e : j < m
    · have hlt : j * z + i < m * z := by
        have : (j + 1) * z ≤ m * z := Nat.mul_le_mul_right z e
        rw [Nat.succ_mul] at this; omega
      rw [List.getElem?_append_left (by rw [XR_len hz]; exact hlt)]
      exact XR_at hz m j e i u hu
    · obtain rfl : j = m := by omega
      rw [List.getElem?_append_right (by rw [XR_len hz]; omega), XR_len hz, show j * z + i - j * z = i by omega]
      exact hu
theorem XR_congr {c d : Nat → List Value} : ∀ m, (∀ j, j < m → c j = d j) → XR c m = XR d m
  | 0, _ => rfl
  | m + 1, h => by unfold XR; rw [XR_congr m (fun j hj => h j (by omega)), h m (by omega)]
theorem own_lst {z : Nat} {w : World} {base : Nat} {e : TypeId} {v : Value} {m : Nat} {c : Nat → List Value} (hz : ∀ j, (c j).length = z) (h : w.ownsRow base e z v m (XR c m)) (hm : m ≤ 9223372036854775807) : ∃ a cap, v = .slice a m cap ∧ Lst z w a m c := by
  rcases Nat.eq_zero_or_pos m with h0 | h0
  · subst h0
    rcases h.2 with ⟨hv, _⟩ | ⟨g, cap, cur, hv, _⟩
    · exact ⟨none, 0, hv, hm, fun h => absurd h (by omega)⟩
    · exact ⟨_, cap, hv, hm, fun h => absurd h (by omega)⟩
  · obtain ⟨g, cap, hv, hb, hlt⟩ := h.form h0
    subst hv
    refine ⟨_, cap, rfl, hm, fun _ => ⟨g, 0, rfl, hlt, fun j hj i u hu => ?_⟩⟩
    have h1 := XR_at hz m j hj i u hu
    have hlt2 : j * z + i < (XR c m).length := (List.getElem?_eq_some_iff.1 h1).1
    rw [XR_len hz] at hlt2
    rw [Nat.zero_add]
    exact (h.cellAt _ hlt2).trans h1

/-- Two values that own different rows. -/
def Two (u v : Value) : Prop := ∀ b, u.ownBlock = some b → v.ownBlock ≠ some b
theorem Two.symm {u v : Value} (h : Two u v) : Two v u := fun b hb hu => h b hu hb

/-- .. and the append of one element. -/
theorem own_next {w : World} {base : Nat} {e : TypeId} {z m : Nat} {c : Nat → List Value} {v : Value} {news : List Value} (h : w.ownsRow base e z v (m + 1) (XR c m ++ news)) (hn : news = c m) : w.ownsRow base e z v (m + 1) (XR c (m + 1)) := by
  subst hn; exact h
theorem grown_alloc {w w' : World} {o : Obj} {row : Option Nat} (h : (w.alloc o).grownBy w' row) (hr : ∀ j, row = some j → j < w.heap.size) : w.grownBy w' row :=
  ⟨h.os, h.tape, h.output, Nat.le_trans (by simp) h.size, fun i hi hne => (h.block i (by simp; omega) hne).trans (World.grownBy_alloc w o row |>.block i hi hne)⟩
end Go.Proofs.YtbnjgbllenndaaaGreatDoor.M
