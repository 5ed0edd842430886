/- Slips as tables: 7 parts of 4 codes; the lines of what isn't 0, rising. -/
import Derived.Test.YtnakcmliopcabaaLstA
import Derived.Lib.Hide
namespace Go.Proofs.Ytnakcmliopcabaa.S
open Go.Proofs.Ytnakcmliopcabaa.M
set_option linter.unusedVariables false

def I64 (x : Int) : Prop := -9223372036854775808 ≤ x ∧ x ≤ 9223372036854775807
def fit (c : Int) : Prop := -1125899906842624 ≤ c ∧ c ≤ 1125899906842624
instance (c : Int) : Decidable (fit c) := by unfold fit; infer_instance
/-- The code of a number from 0 to 3. -/
def cdB (j : Nat) : ByteArray := ⟨#[UInt8.ofNat (97 + j)]⟩
theorem cdB_list (j : Nat) : (cdB j).toList = [UInt8.ofNat (97 + j)] := by rw [ByteArray.toList_eq]; rfl
theorem cdB_size (j : Nat) : (cdB j).size = 1 := rfl
theorem cdB_less {a b : Nat} (ha : a < 4) (hb : b < 4) : Op.bytesLess (cdB a).toList (cdB b).toList = decide (a < b) := by
  rw [cdB_list, cdB_list]
  rcases (by omega : a = 0 ∨ a = 1 ∨ a = 2 ∨ a = 3) with rfl | rfl | rfl | rfl <;> rcases (by omega : b = 0 ∨ b = 1 ∨ b = 2 ∨ b = 3) with rfl | rfl | rfl | rfl <;> rfl
theorem cdB_same {a b : Nat} (ha : a < 4) (hb : b < 4) : ((cdB a).toList == (cdB b).toList) = decide (a = b) := by
  rw [cdB_list, cdB_list]
  rcases (by omega : a = 0 ∨ a = 1 ∨ a = 2 ∨ a = 3) with rfl | rfl | rfl | rfl <;> rcases (by omega : b = 0 ∨ b = 1 ∨ b = 2 ∨ b = 3) with rfl | rfl | rfl | rfl <;> rfl
/-- The part and the code of a line's number (below 28). -/
def prt (i : Nat) : Int := ((i / 4 : Nat) : Int)
def cod (i : Nat) : ByteArray := cdB (i % 4)
theorem prt_bd {i : Nat} (h : i < 28) : 0 ≤ prt i ∧ prt i ≤ 6 := by unfold prt; omega
/-- A line: its number, its amount. -/
def lc (i : Nat) (c : Int) : List Value := [.int .i64 (prt i), .string (cod i), .int .i64 c]
def lv (i : Nat) (c : Int) : Value := .agg #[.int .i64 (prt i), .string (cod i), .int .i64 c]
theorem num_less {i j : Nat} : i < j ↔ prt i < prt j ∨ (prt i = prt j ∧ i % 4 < j % 4) := by unfold prt; omega
theorem num_same {i j : Nat} : i = j ↔ prt i = prt j ∧ i % 4 = j % 4 := by unfold prt; omega

/-- The numbers below m of what isn't 0. -/
def idx (T : Nat → Int) : Nat → List Nat
  | 0 => []
  | m + 1 => if T m ≠ 0 then idx T m ++ [m] else idx T m
theorem idx_mem (T : Nat → Int) (x : Nat) : ∀ m, x ∈ idx T m ↔ x < m ∧ T x ≠ 0
  | 0 => by simp [idx]
  | m + 1 => by
    unfold idx
    have ih := idx_mem T x m
    by_cases h : T m ≠ 0
    · rw [if_pos h, List.mem_append, ih, List.mem_singleton]
      constructor
      · rintro (⟨h1, h2⟩ | rfl)
        · exact ⟨by omega, h2⟩
        · exact ⟨by omega, h⟩
      · rintro ⟨h1, h2⟩
        by_cases e : x = m
        · exact .inr e
        · exact .inl ⟨by omega, h2⟩
    · rw [if_neg h, ih]
      constructor
      · rintro ⟨h1, h2⟩; exact ⟨by omega, h2⟩
      · rintro ⟨h1, h2⟩
        by_cases e : x = m
        · subst e; exact absurd h2 h
        · exact ⟨by omega, h2⟩
theorem idx_up (T : Nat → Int) : ∀ m, (idx T m).Pairwise (· < ·)
  | 0 => List.Pairwise.nil
  | m + 1 => by
    unfold idx
    split
    · refine List.pairwise_append.2 ⟨idx_up T m, List.pairwise_singleton _ _, fun x hx y hy => ?_⟩
      obtain rfl := List.mem_singleton.1 hy
      exact ((idx_mem T x y).1 hx).1
    · exact idx_up T m
theorem idx_len (T : Nat → Int) : ∀ m, (idx T m).length ≤ m
  | 0 => Nat.le_refl _
  | m + 1 => by have := idx_len T m; unfold idx; split <;> simp <;> omega
theorem idx_congr {T U : Nat → Int} : ∀ m, (∀ i, i < m → T i = U i) → idx T m = idx U m
  | 0, _ => rfl
  | m + 1, h => by unfold idx; rw [idx_congr m (fun i hi => h i (by omega)), h m (by omega)]
theorem idx_none {T : Nat → Int} : ∀ m, (∀ i, i < m → T i = 0) → idx T m = []
  | 0, _ => rfl
  | m + 1, h => by unfold idx; rw [if_neg (by simp [h m (by omega)])]; exact idx_none m (fun i hi => h i (by omega))
/-- How many lines, and the q'th line's number. -/
def ln (T : Nat → Int) : Nat := (idx T 28).length
def at_ (T : Nat → Int) (q : Nat) : Nat := (idx T 28).getD q 0
theorem ln_le (T : Nat → Int) : ln T ≤ 28 := idx_len T 28
theorem at_get {T : Nat → Int} {q : Nat} (h : q < ln T) : (idx T 28)[q]? = some (at_ T q) := by
  unfold at_
  rw [List.getD_eq_getElem?_getD, List.getElem?_eq_getElem h]; rfl
theorem at_in {T : Nat → Int} {q : Nat} (h : q < ln T) : at_ T q < 28 ∧ T (at_ T q) ≠ 0 :=
  (idx_mem T _ 28).1 (List.mem_of_getElem? (at_get h))
theorem at_up {T : Nat → Int} {p q : Nat} (h : p < q) (hq : q < ln T) : at_ T p < at_ T q := by
  have h1 := List.pairwise_iff_getElem.1 (idx_up T 28) p q (by unfold ln at hq; omega) hq h
  have e1 := at_get (T := T) (q := p) (by omega)
  have e2 := at_get hq
  rw [List.getElem?_eq_getElem (show p < (idx T 28).length by unfold ln at hq; omega)] at e1
  rw [List.getElem?_eq_getElem (show q < (idx T 28).length from hq)] at e2
  injection e1 with e1
  injection e2 with e2
  rw [← e1, ← e2]; exact h1
theorem at_all {T : Nat → Int} {i : Nat} (h : i < 28) (h0 : T i ≠ 0) : ∃ q, q < ln T ∧ at_ T q = i := by
  obtain ⟨q, hq, e⟩ := List.getElem_of_mem ((idx_mem T i 28).2 ⟨h, h0⟩)
  refine ⟨q, hq, ?_⟩
  unfold at_
  rw [List.getD_eq_getElem?_getD, List.getElem?_eq_getElem hq]; exact e
/-- The cells of a table's lines. -/
def lcs (T : Nat → Int) : Nat → List Value := fun q => lc (at_ T q) (T (at_ T q))

/-- What the lines of some parts add up to. -/
def inP (lo hi : Int) (i : Nat) : Prop := lo ≤ prt i ∧ prt i ≤ hi
instance (lo hi : Int) (i : Nat) : Decidable (inP lo hi i) := by unfold inP; infer_instance
def lsum (T : Nat → Int) (lo hi : Int) : List Nat → Int
  | [] => 0
  | i :: r => (if inP lo hi i then T i else 0) + lsum T lo hi r
theorem lsum_app (T : Nat → Int) (lo hi : Int) : ∀ a b, lsum T lo hi (a ++ b) = lsum T lo hi a + lsum T lo hi b
  | [], b => by simp [lsum]
  | i :: r, b => by show _ + lsum T lo hi (r ++ b) = _ + _ + _; rw [lsum_app T lo hi r b]; omega
def tsum (T : Nat → Int) (lo hi : Int) : Nat → Int
  | 0 => 0
  | m + 1 => tsum T lo hi m + if inP lo hi m then T m else 0
theorem lsum_idx (T : Nat → Int) (lo hi : Int) : ∀ m, lsum T lo hi (idx T m) = tsum T lo hi m
  | 0 => rfl
  | m + 1 => by
    unfold idx tsum
    by_cases h : T m ≠ 0
    · rw [if_pos h, lsum_app, lsum_idx T lo hi m]; simp [lsum]
    · rw [if_neg h, lsum_idx T lo hi m]
      have : T m = 0 := by omega
      rw [this]; simp
/-- The sum of the first q lines. -/
def psum (T : Nat → Int) (lo hi : Int) (q : Nat) : Int := lsum T lo hi ((idx T 28).take q)
theorem psum_zero (T : Nat → Int) (lo hi : Int) : psum T lo hi 0 = 0 := by unfold psum; simp [lsum]
theorem psum_next {T : Nat → Int} (lo hi : Int) {q : Nat} (h : q < ln T) : psum T lo hi (q + 1) = psum T lo hi q + if inP lo hi (at_ T q) then T (at_ T q) else 0 := by
  unfold psum
  rw [List.take_add_one, at_get h, lsum_app]
  simp [lsum]
theorem psum_all (T : Nat → Int) (lo hi : Int) : psum T lo hi (ln T) = tsum T lo hi 28 := by
  unfold psum ln
  rw [List.take_length, lsum_idx]
/-- Amounts that aren't great. -/
def small (B : Int) (T : Nat → Int) : Prop := ∀ i, i < 28 → -B ≤ T i ∧ T i ≤ B
theorem psum_bd {T : Nat → Int} {B : Int} (hB : small B T) (hB0 : 0 ≤ B) (lo hi : Int) : ∀ q, q ≤ ln T → -(q * B) ≤ psum T lo hi q ∧ psum T lo hi q ≤ q * B
  | 0, _ => by rw [psum_zero]; simp
  | q + 1, h => by
    have ih := psum_bd hB hB0 lo hi q (by omega)
    have h1 := hB _ (at_in (T := T) (q := q) (by omega)).1
    have h2 : ((q + 1 : Nat) : Int) * B = q * B + B := by rw [show ((q + 1 : Nat) : Int) = (q : Int) + 1 by omega, Int.add_mul, Int.one_mul]
    rw [psum_next lo hi (by omega), h2]
    split <;> omega
theorem tsum_add (A D : Nat → Int) (lo hi : Int) : ∀ m, tsum (fun i => A i + D i) lo hi m = tsum A lo hi m + tsum D lo hi m
  | 0 => rfl
  | m + 1 => by unfold tsum; rw [tsum_add A D lo hi m]; split <;> omega
theorem tsum_congr {A D : Nat → Int} (lo hi : Int) : ∀ m, (∀ i, i < m → A i = D i) → tsum A lo hi m = tsum D lo hi m
  | 0, _ => rfl
  | m + 1, h => by unfold tsum; rw [tsum_congr lo hi m (fun i hi => h i (by omega)), h m (by omega)]
theorem tsum_bd {T : Nat → Int} {B : Int} (hB : small B T) (hB0 : 0 ≤ B) (lo hi : Int) : -(28 * B) ≤ tsum T lo hi 28 ∧ tsum T lo hi 28 ≤ 28 * B := by
  have h := psum_bd hB hB0 lo hi (ln T) (Nat.le_refl _)
  rw [psum_all] at h
  have h1 := ln_le T
  have h2 : (ln T : Int) * B ≤ 28 * B := Int.mul_le_mul_of_nonneg_right (by omega) hB0
  omega
/-- A slip's net. -/
def netT (T : Nat → Int) : Int := tsum T 0 0 28 - tsum T 1 5 28
end Go.Proofs.Ytnakcmliopcabaa.S
