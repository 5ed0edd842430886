/- Items in memory: a slice of items, a slice of slices of items that the call owns. -/
import Derived.Test.YtbmlingbohdpkaaShRS
import Derived.Deep.SlicePairs
namespace Go.Proofs.Ytbmlingbohdpkaa.W
open Go.RowKit Go.Proofs.Ytbmlingbohdpkaa.M Go.Proofs.Ytbmlingbohdpkaa.B Go.Proofs.Ytbmlingbohdpkaa.H
set_option linter.unusedVariables false

/-- A slice that reads as n items. -/
def Its (w : World) (a : Option Addr) (n : Nat) (C : Nat → ByteArray) (V : Nat → Int) : Prop :=
  n ≤ 9223372036854775807 ∧ (0 < n → ∃ b off, a = some ⟨b, off, none⟩ ∧ b < w.heap.size ∧ ∀ j, j < n → w.cell? ⟨b, off + j * 2, none⟩ = some (.string (C j)) ∧ w.cell? ⟨b, off + j * 2 + 1, none⟩ = some (.int .i64 (V j)))
theorem Its.step {w w' : World} {a : Option Addr} {n : Nat} {C : Nat → ByteArray} {V : Nat → Int} (h : Its w a n C V) (hb : Below w.heap.size w w') : Its w' a n C V :=
  ⟨h.1, fun hn => by
    obtain ⟨b, off, ha, hlt, hc⟩ := h.2 hn
    exact ⟨b, off, ha, Nat.lt_of_lt_of_le hlt hb.size, fun j hj => ⟨bc hb hlt (hc j hj).1, bc hb hlt (hc j hj).2⟩⟩⟩
theorem Its.at_ {w : World} {a : Option Addr} {n : Nat} {C : Nat → ByteArray} {V : Nat → Int} (h : Its w a n C V) {j : Nat} (hj : j < n) : ∃ b off, a = some ⟨b, off, none⟩ ∧ b < w.heap.size ∧ w.cell? ⟨b, off + j * 2, none⟩ = some (.string (C j)) ∧ w.cell? ⟨b, off + j * 2 + 1, none⟩ = some (.int .i64 (V j)) := by
  obtain ⟨b, off, ha, hlt, hc⟩ := h.2 (by omega)
  exact ⟨b, off, ha, hlt, hc j hj⟩

/-- The cells of m items. -/
def XI (C : Nat → ByteArray) (V : Nat → Int) : Nat → List Value
  | 0 => []
  | m + 1 => XI C V m ++ [.string (C m), .int .i64 (V m)]
theorem XI_len (C : Nat → ByteArray) (V : Nat → Int) : ∀ m, (XI C V m).length = m * 2
  | 0 => rfl
  | m + 1 => by unfold XI; rw [List.length_append, XI_len C V m]; simp; omega
theorem XI_at (C : Nat → ByteArray) (V : Nat → Int) : ∀ m j, j < m → (XI C V m)[j * 2]? = some (.string (C j)) ∧ (XI C V m)[j * 2 + 1]? = some (.int .i64 (V j))
  | 0, j, h => absurd h (by omega)
  | m + 1, j, h => by
    unfold XI
    by_cases c : j < m
    · obtain ⟨h1, h2⟩ := XI_at C V m j c
      rw [List.getElem?_append_left (by rw [XI_len]; omega), List.getElem?_append_left (by rw [XI_len]; omega)]
      exact ⟨h1, h2⟩
    · obtain rfl : j = m := by omega
      rw [List.getElem?_append_right (by rw [XI_len]; omega), List.getElem?_append_right (by rw [XI_len]; omega), XI_len, show j * 2 - j * 2 = 0 by omega, show j * 2 + 1 - j * 2 = 1 by omega]
      exact ⟨rfl, rfl⟩
theorem own_its {w : World} {base : Nat} {e : TypeId} {v : Value} {m : Nat} {C : Nat → ByteArray} {V : Nat → Int} (h : w.ownsRow base e 2 v m (XI C V m)) (hm : m ≤ 9223372036854775807) : ∃ a cap, v = .slice a m cap ∧ Its w a m C V := by
  rcases Nat.eq_zero_or_pos m with h0 | h0
  · subst h0
    rcases h.2 with ⟨hv, _⟩ | ⟨g, cap, cur, hv, _⟩
    · exact ⟨none, 0, hv, hm, fun h => absurd h (by omega)⟩
    · exact ⟨_, cap, hv, hm, fun h => absurd h (by omega)⟩
  · obtain ⟨g, cap, hv, hb, hlt⟩ := h.form h0
    subst hv
    refine ⟨_, cap, rfl, hm, fun _ => ⟨g, 0, rfl, hlt, fun j hj => ?_⟩⟩
    obtain ⟨h1, h2⟩ := XI_at C V m j hj
    rw [Nat.zero_add]
    exact ⟨(h.cellAt _ (by omega)).trans h1, (h.cellAt _ (by omega)).trans h2⟩

/-- A row of rows of items: of item j the first k rows have it already. -/
structure Nest (w : World) (G n B : Nat) (C : Nat → ByteArray) (P : Nat → Nat → Int) (j k : Nat) (S : Nat → Value) : Prop where
  lt : G < w.heap.size
  cell : ∀ i, i < n → w.cell? ⟨G, i, none⟩ = some (S i)
  frz : ∀ o, w.frozen? ⟨G, o, none⟩ = false
  base : G < B
  top : B ≤ w.heap.size
  own : ∀ i, i < n → w.ownsRow B 47 2 (S i) (if i < k then j + 1 else j) (XI C (fun q => P q i) (if i < k then j + 1 else j))
  apart : ∀ i l, i < n → l < n → i ≠ l → Apart (S i) (S l)
theorem Nest.below {w w' : World} {G n B : Nat} {C : Nat → ByteArray} {P : Nat → Nat → Int} {j k : Nat} {S : Nat → Value} (h : Nest w G n B C P j k S) (hb : Below w.heap.size w w') : Nest w' G n B C P j k S :=
  ⟨Nat.lt_of_lt_of_le h.lt hb.size, fun i hi => bc hb h.lt (h.cell i hi), fun o => bf hb h.lt (h.frz o), h.base, Nat.le_trans h.top hb.size, fun i hi => own_below (h.own i hi) hb, h.apart⟩
theorem Nest.turn {w : World} {G n B : Nat} {C : Nat → ByteArray} {P : Nat → Nat → Int} {j : Nat} {S : Nat → Value} (h : Nest w G n B C P j n S) : Nest w G n B C P (j + 1) 0 S :=
  ⟨h.lt, h.cell, h.frz, h.base, h.top, fun i hi => by
    have := h.own i hi
    rw [if_pos hi] at this
    rw [if_neg (by omega)]
    exact this, h.apart⟩
theorem Nest.put {w W1 w2 : World} {G n B : Nat} {C : Nat → ByteArray} {P : Nat → Nat → Int} {j k : Nat} {S : Nat → Value} (h : Nest w G n B C P j k S) (hk : k < n) (hb : Below w.heap.size w W1) (hg : W1.grownBy w2 (S k).ownBlock)
    {g cap H : Nat} (hown : w2.ownsRow B 47 2 (.slice (some ⟨g, 0, none⟩) (j + 1) cap) (j + 1) (XI C (fun q => P q k) j ++ [.string (C j), .int .i64 (P j k)]))
    (hH : w.heap.size ≤ H) (hat : (S k).ownBlock = some g ∨ g = H) :
    Nest (w2.setCell ⟨G, k, none⟩ (.slice (some ⟨g, 0, none⟩) (j + 1) cap)) G n B C P j (k + 1) (fun i => if i = k then .slice (some ⟨g, 0, none⟩) (j + 1) cap else S i) := by
  have hne : some G ≠ (S k).ownBlock := fun hh => by
    have := (h.own k hk).lt G hh.symm
    have := h.base; omega
  have hGW : G < W1.heap.size := Nat.lt_of_lt_of_le h.lt hb.size
  have hcell : ∀ i, i < n → w2.cell? ⟨G, i, none⟩ = some (S i) := fun i hi => (hg.cell_far ⟨G, i, none⟩ hGW hne).trans (bc hb h.lt (h.cell i hi))
  have hfrz : ∀ o, w2.frozen? ⟨G, o, none⟩ = false := fun o => (hg.frozen_far ⟨G, o, none⟩ hGW hne).trans (bf hb h.lt (h.frz o))
  refine ⟨?_, fun i hi => ?_, fun o => by rw [World.frozen?_setCell]; exact hfrz o, h.base, ?_, fun i hi => ?_, fun i l hi hl hil => ?_⟩
  · have := hg.size; simp; omega
  · by_cases e : i = k
    · subst e; rw [if_pos rfl]; exact World.cell?_setCell_same _ _ _ (hcell i hi)
    · rw [if_neg e]
      exact (World.cell?_setCell_other _ _ _ _ (fun hh => e (by injection hh with _ h2; exact h2.symm))).trans (hcell i hi)
  · have := hg.size; have := hb.size; have := h.top; simp; omega
  · by_cases e : i = k
    · subst e
      rw [if_pos rfl, if_pos (by omega)]
      exact ownsRow_setCell_below hown (a := ⟨G, i, none⟩) h.base _
    · rw [if_neg e]
      have h1 := (own_below (h.own i hi) hb).kept hg (h.apart i k hi hk e).ne
      have e2 : (if i < k + 1 then j + 1 else j) = (if i < k then j + 1 else j) := by
        by_cases c : i < k
        · rw [if_pos c, if_pos (by omega)]
        · rw [if_neg c, if_neg (by omega)]
      rw [e2]
      exact ownsRow_setCell_below h1 (a := ⟨G, k, none⟩) h.base _
  · have key : ∀ i, i < n → i ≠ k → Apart (.slice (some ⟨g, 0, none⟩) (j + 1) cap) (S i) := fun i hi e b h1 h2 => by
      have e1 : g = b := by simpa [Value.ownBlock] using h1
      subst e1
      rcases hat with hat | hat
      · exact h.apart k i hk hi (Ne.symm e) g hat h2
      · have := ((h.own i hi).lt g h2).2; omega
    by_cases e1 : i = k
    · subst e1
      rw [if_pos rfl, if_neg (Ne.symm hil)]
      exact key l hl (Ne.symm hil)
    · by_cases e2 : l = k
      · subst e2
        rw [if_pos rfl, if_neg e1]
        exact (key i hi e1).symm
      · rw [if_neg e1, if_neg e2]
        exact h.apart i l hi hl hil
theorem Nest.made (w : World) (n : Nat) (E : TypeId) (C : Nat → ByteArray) (P : Nat → Nat → Int) : Nest (w.alloc (.cells (madeCells #[.slice none 0 0] n) E)) w.heap.size n (w.heap.size + 1) C P 0 0 (fun _ => .slice none 0 0) := by
  refine ⟨by simp, fun i hi => ?_, fun o => World.frozen?_alloc_at _ _ _ _ rfl, by omega, by simp, fun i hi => ?_, fun i l _ _ _ b h => by cases h⟩
  · rw [World.cell?_alloc_at _ _ _ _ rfl, ← Array.getElem?_toList, toList_madeCells_one]
    simp [hi]
  · rw [if_neg (by omega)]
    exact World.ownsRow_nil _ _ _ _

/-- The rows, read again. -/
def Rows2 (w : World) (g : Option Addr) (n m : Nat) (C : Nat → ByteArray) (P : Nat → Nat → Int) : Prop :=
  0 < n → ∃ b, g = some ⟨b, 0, none⟩ ∧ b < w.heap.size ∧ ∀ i, i < n → ∃ a cap, w.cell? ⟨b, i, none⟩ = some (.slice a m cap) ∧ Its w a m C fun q => P q i
theorem Rows2.step {w w' : World} {g : Option Addr} {n m : Nat} {C : Nat → ByteArray} {P : Nat → Nat → Int} (h : Rows2 w g n m C P) (hb : Below w.heap.size w w') : Rows2 w' g n m C P := fun hn => by
  obtain ⟨b, hg, hlt, hc⟩ := h hn
  refine ⟨b, hg, Nat.lt_of_lt_of_le hlt hb.size, fun i hi => ?_⟩
  obtain ⟨a, cap, h1, h2⟩ := hc i hi
  exact ⟨a, cap, bc hb hlt h1, h2.step hb⟩
theorem Nest.rows {w : World} {G n B : Nat} {C : Nat → ByteArray} {P : Nat → Nat → Int} {j : Nat} {S : Nat → Value} (h : Nest w G n B C P j 0 S) (hj : j ≤ 9223372036854775807) : Rows2 w (some ⟨G, 0, none⟩) n j C P := fun _ => by
  refine ⟨G, rfl, h.lt, fun i hi => ?_⟩
  have h1 := h.own i hi
  rw [if_neg (by omega)] at h1
  obtain ⟨a, cap, hv, hi2⟩ := own_its h1 hj
  exact ⟨a, cap, by rw [h.cell i hi, hv], hi2⟩
end Go.Proofs.Ytbmlingbohdpkaa.W
