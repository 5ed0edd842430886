/- The plain law of the long division by two digits: what a digit's first guess, lowered, comes to. -/
namespace Go.Proofs.Ytbmlingbohdpkaa.DM

/-- What a digit's guess keeps: it is not below the digit, and its rest is told. -/
def Guess (B u u1 y1 y0 q r : Nat) : Prop := q * y1 + r = u ∧ (u * B + u1) / (y1 * B + y0) ≤ q

theorem lt_of_quot {a y q : Nat} (_hy : 0 < y) (h : a < q * y) : a / y < q := (Nat.div_lt_iff_lt_mul _hy).2 h

theorem guess_first (B u u1 y1 y0 : Nat) (hy1 : 0 < y1) (hu1 : u1 < B) : Guess B u u1 y1 y0 (u / y1) (u - u / y1 * y1) := by
  have hB : 0 < B := by omega
  have h1 : u / y1 * y1 ≤ u := Nat.div_mul_le_self u y1
  refine ⟨by omega, ?_⟩
  rw [Nat.le_div_iff_mul_le hy1]
  have hy : 0 < y1 * B + y0 := by have := Nat.mul_pos hy1 hB; omega
  have h2 : (u * B + u1) / (y1 * B + y0) * (y1 * B + y0) ≤ u * B + u1 := Nat.div_mul_le_self _ _
  generalize (u * B + u1) / (y1 * B + y0) = q at *
  have h3 : q * (y1 * B + y0) = q * y1 * B + q * y0 := by rw [Nat.mul_add, Nat.mul_assoc]
  have h4 : q * y1 * B < (u + 1) * B := by rw [Nat.add_mul]; omega
  have h5 : q * y1 < u + 1 := Nat.lt_of_mul_lt_mul_right h4
  omega

/-- Where the test says yes, one less is a guess, too. -/
theorem guess_step (B u u1 y1 y0 q r : Nat) (hB : 0 < B) (hy1 : 0 < y1) (hu : u < y1 * B + y0) (hu1 : u1 < B) (h : Guess B u u1 y1 y0 q r) (ht : B ≤ q ∨ B * r + u1 < q * y0) : Guess B u u1 y1 y0 (q - 1) (r + y1) ∧ 0 < q := by
  obtain ⟨h1, h2⟩ := h
  have hy : 0 < y1 * B + y0 := by have := Nat.mul_pos hy1 hB; omega
  have hq : 0 < q := by
    rcases ht with ht | ht
    · omega
    · by_cases e : q = 0
      · subst e; simp at ht
      · omega
  have hlt : (u * B + u1) / (y1 * B + y0) < q := by
    rcases ht with ht | ht
    · refine Nat.lt_of_lt_of_le (lt_of_quot hy ?_) ht
      have : (u + 1) * B ≤ (y1 * B + y0) * B := Nat.mul_le_mul_right B hu
      rw [Nat.add_mul] at this
      rw [Nat.mul_comm B]
      omega
    · apply lt_of_quot hy
      rw [Nat.mul_add, ← Nat.mul_assoc]
      have : u * B = q * y1 * B + r * B := by rw [← h1, Nat.add_mul]
      have e2 : B * r = r * B := Nat.mul_comm _ _
      omega
  refine ⟨⟨?_, by omega⟩, hq⟩
  obtain ⟨p, rfl⟩ : ∃ p, q = p + 1 := ⟨q - 1, by omega⟩
  rw [Nat.add_mul] at h1
  simp only [Nat.add_sub_cancel]
  omega

/-- Where the test says no, the guess is the digit. -/
theorem guess_done (B u u1 y1 y0 q r : Nat) (hB : 0 < B) (hy1 : 0 < y1) (h : Guess B u u1 y1 y0 q r) (ht : q * y0 ≤ B * r + u1) : (u * B + u1) / (y1 * B + y0) = q := by
  obtain ⟨h1, h2⟩ := h
  have hy : 0 < y1 * B + y0 := by have := Nat.mul_pos hy1 hB; omega
  refine Nat.le_antisymm h2 ?_
  rw [Nat.le_div_iff_mul_le hy, Nat.mul_add, ← Nat.mul_assoc]
  have : u * B = q * y1 * B + r * B := by rw [← h1, Nat.add_mul]
  have e2 : B * r = r * B := Nat.mul_comm _ _
  omega

/-- Where the rest has grown to a digit's bound, too. -/
theorem guess_break (B u u1 y1 y0 q r : Nat) (hB : 0 < B) (hy1 : 0 < y1) (hy0 : y0 < B) (hu : u < y1 * B + y0) (h : Guess B u u1 y1 y0 q r) (hr : B ≤ r) : (u * B + u1) / (y1 * B + y0) = q := by
  have hq : q < B := by
    by_cases c : q < B
    · exact c
    · exfalso
      have h1 := h.1
      have : B * y1 ≤ q * y1 := Nat.mul_le_mul_right y1 (by omega)
      rw [Nat.mul_comm B] at this
      omega
  refine guess_done B u u1 y1 y0 q r hB hy1 h ?_
  have h1 : q * y0 ≤ B * B := Nat.mul_le_mul (by omega) (by omega)
  have h2 : B * B ≤ B * r := Nat.mul_le_mul_left B hr
  omega

theorem div_of (a y q r : Nat) (h : a = q * y + r) (hr : r < y) : a / y = q ∧ a % y = r := by
  have hy : 0 < y := by omega
  subst h
  constructor
  · rw [Nat.mul_comm, Nat.mul_add_div hy, Nat.div_eq_of_lt hr]; rfl
  · rw [Nat.mul_comm, Nat.mul_add_mod, Nat.mod_eq_of_lt hr]

/-- Two digits, one behind the other. -/
theorem two_digits (B u u1 u0 y : Nat) (hy : 0 < y) :
    (u * B * B + u1 * B + u0) / y = (u * B + u1) / y * B + ((u * B + u1) % y * B + u0) / y ∧ (u * B * B + u1 * B + u0) % y = ((u * B + u1) % y * B + u0) % y := by
  have h1 := Nat.div_add_mod (u * B + u1) y
  have h2 := Nat.div_add_mod ((u * B + u1) % y * B + u0) y
  generalize hq1 : (u * B + u1) / y = q1 at *
  generalize hr1 : (u * B + u1) % y = r1 at *
  generalize hq0 : (r1 * B + u0) / y = q0 at *
  have hr0 : (r1 * B + u0) % y < y := Nat.mod_lt _ hy
  generalize (r1 * B + u0) % y = r0 at *
  refine div_of _ _ _ _ ?_ hr0
  have e : u * B * B + u1 * B = (u * B + u1) * B := by rw [Nat.add_mul]
  rw [e, ← h1, Nat.add_mul, Nat.add_assoc, ← h2, Nat.add_mul, Nat.mul_comm y q1, Nat.mul_comm y q0]
  have e2 : q1 * y * B = q1 * B * y := by rw [Nat.mul_assoc, Nat.mul_comm y B, ← Nat.mul_assoc]
  omega

/-- A number and what it is divided by, both shifted. -/
theorem shifted (n y p : Nat) (hp : 0 < p) : n * p / (y * p) = n / y ∧ n * p % (y * p) = n % y * p :=
  ⟨Nat.mul_div_mul_right n y hp, by rw [Nat.mul_mod_mul_right]⟩

/-- A digit is below its bound, and what is left is below what it is divided by. -/
theorem digit_lt (B u u1 y : Nat) (_hB : 0 < B) (hu : u < y) (hu1 : u1 < B) : (u * B + u1) / y < B := by
  have hy : 0 < y := by omega
  apply lt_of_quot hy
  have : (u + 1) * B ≤ y * B := Nat.mul_le_mul_right B hu
  rw [Nat.add_mul] at this
  rw [Nat.mul_comm B]
  omega
end Go.Proofs.Ytbmlingbohdpkaa.DM
