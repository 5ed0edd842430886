/- Texts of dates are ordered as the days are: plain lists of bytes. -/
import Derived.Test.YtncekfogdpkgmaaDoorCivT
namespace Go.Proofs.YtncekfogdpkgmaaDoor.W
open Go.RowKit Go.Proofs.YtncekfogdpkgmaaDoor.M

theorem less_app (l1 l2 r1 r2 : List UInt8) (h : l1.length = l2.length) : Op.bytesLess (l1 ++ r1) (l2 ++ r2) = true ↔ (Op.bytesLess l1 l2 = true ∨ (l1 = l2 ∧ Op.bytesLess r1 r2 = true)) := by
  induction l1 generalizing l2 with
  | nil =>
    cases l2 with
    | nil => simp [Op.bytesLess]
    | cons b l2 => simp at h
  | cons a l1 ih =>
    cases l2 with
    | nil => simp at h
    | cons b l2 =>
      have h' : l1.length = l2.length := by simpa using h
      have ih' := ih l2 h'
      simp only [List.cons_append, Op.bytesLess, Bool.or_eq_true, Bool.and_eq_true, decide_eq_true_eq, beq_iff_eq, List.cons.injEq, ih']
      constructor
      · rintro (h1 | ⟨h1, h2 | ⟨h2, h3⟩⟩)
        · exact .inl (.inl h1)
        · exact .inl (.inr ⟨h1, h2⟩)
        · exact .inr ⟨⟨h1, h2⟩, h3⟩
      · rintro ((h1 | ⟨h1, h2⟩) | ⟨⟨h1, h2⟩, h3⟩)
        · exact .inl h1
        · exact .inr ⟨h1, .inl h2⟩
        · exact .inr ⟨h1, .inr ⟨h2, h3⟩⟩

theorem db_toNat (q : Int) (h0 : 0 ≤ q) (h1 : q ≤ 9) : ((db q).toNat : Int) = 48 + q := by
  have h : q = 0 ∨ q = 1 ∨ q = 2 ∨ q = 3 ∨ q = 4 ∨ q = 5 ∨ q = 6 ∨ q = 7 ∨ q = 8 ∨ q = 9 := by omega
  rcases h with rfl | rfl | rfl | rfl | rfl | rfl | rfl | rfl | rfl | rfl <;> decide
theorem db_lt (p q : Int) (h0 : 0 ≤ p) (h1 : p ≤ 9) (h2 : 0 ≤ q) (h3 : q ≤ 9) : Op.bytesLess [db p] [db q] = true ↔ p < q := by
  have hp := db_toNat p h0 h1
  have hq := db_toNat q h2 h3
  simp only [Op.bytesLess, Bool.or_eq_true, Bool.and_eq_true, decide_eq_true_eq, UInt8.lt_iff_toNat_lt]
  constructor
  · rintro (h | ⟨_, h⟩)
    · omega
    · cases h
  · intro h; left; omega
theorem db_inj (p q : Int) (h0 : 0 ≤ p) (h1 : p ≤ 9) (h2 : 0 ≤ q) (h3 : q ≤ 9) (h : db p = db q) : p = q := by
  have hp := db_toNat p h0 h1
  have hq := db_toNat q h2 h3
  rw [h] at hp; omega

theorem dig_inj (k : Nat) : ∀ (n n' : Int), 0 ≤ n → n < ((10 ^ k : Nat) : Int) → 0 ≤ n' → n' < ((10 ^ k : Nat) : Int) → dig n k = dig n' k → n = n' := by
  induction k with
  | zero => intro n n' h0 h1 h2 h3 _; simp at h1 h3; omega
  | succ k ih =>
    intro n n' h0 h1 h2 h3 h
    have hp : ((10 ^ (k + 1) : Nat) : Int) = 10 * ((10 ^ k : Nat) : Int) := by rw [Nat.pow_succ]; omega
    rw [hp] at h1 h3
    simp only [dig] at h
    obtain ⟨ha, hb⟩ := List.append_inj' h rfl
    have e1 := ih (n / 10) (n' / 10) (by omega) (by omega) (by omega) (by omega) ha
    have e2 := db_inj (n % 10) (n' % 10) (by omega) (by omega) (by omega) (by omega) (by simpa using hb)
    omega
theorem dig_lt (k : Nat) : ∀ (n n' : Int), 0 ≤ n → n < ((10 ^ k : Nat) : Int) → 0 ≤ n' → n' < ((10 ^ k : Nat) : Int) → (Op.bytesLess (dig n k) (dig n' k) = true ↔ n < n') := by
  induction k with
  | zero => intro n n' h0 h1 h2 h3; simp at h1 h3; simp [dig, Op.bytesLess]; omega
  | succ k ih =>
    intro n n' h0 h1 h2 h3
    have hp : ((10 ^ (k + 1) : Nat) : Int) = 10 * ((10 ^ k : Nat) : Int) := by rw [Nat.pow_succ]; omega
    rw [hp] at h1 h3
    simp only [dig]
    rw [less_app _ _ _ _ (by rw [dig_length, dig_length]), ih (n / 10) (n' / 10) (by omega) (by omega) (by omega) (by omega), db_lt _ _ (by omega) (by omega) (by omega) (by omega)]
    constructor
    · rintro (h | ⟨h, h'⟩)
      · omega
      · have := dig_inj k (n / 10) (n' / 10) (by omega) (by omega) (by omega) (by omega) h
        omega
    · intro h
      by_cases c : n / 10 < n' / 10
      · exact .inl c
      · have e : n / 10 = n' / 10 := by omega
        exact .inr ⟨by rw [e], by omega⟩

theorem text_less (y m k y' m' k' : Int) (h : Cal.Valid y m k) (h' : Cal.Valid y' m' k') :
    Op.bytesLess (textL y m k) (textL y' m' k') = true ↔ (y < y' ∨ (y = y' ∧ (m < m' ∨ (m = m' ∧ k < k')))) := by
  obtain ⟨y0, y1, m0, m1, k0, k1⟩ := h
  obtain ⟨y0', y1', m0', m1', k0', k1'⟩ := h'
  have hl := Cal.len_bd y m
  have hl' := Cal.len_bd y' m'
  have e4 : ((10 ^ 4 : Nat) : Int) = 10000 := by decide
  have e2 : ((10 ^ 2 : Nat) : Int) = 100 := by decide
  have ey := dig_inj 4 y y' (by omega) (by omega) (by omega) (by omega)
  have em := dig_inj 2 m m' (by omega) (by omega) (by omega) (by omega)
  have hs : Op.bytesLess [45] [45] = false := by decide
  simp only [textL, List.append_assoc]
  rw [less_app _ _ _ _ (by rw [dig_length, dig_length]), less_app _ _ _ _ rfl, less_app _ _ _ _ (by rw [dig_length, dig_length]), less_app _ _ _ _ rfl,
    dig_lt 4 y y' (by omega) (by omega) (by omega) (by omega), dig_lt 2 m m' (by omega) (by omega) (by omega) (by omega), dig_lt 2 k k' (by omega) (by omega) (by omega) (by omega), hs]
  constructor
  · rintro (h | ⟨h, h1 | ⟨_, h1 | ⟨h2, h3 | ⟨_, h3⟩⟩⟩⟩)
    · exact .inl h
    · cases h1
    · exact .inr ⟨ey h, .inl h1⟩
    · cases h3
    · exact .inr ⟨ey h, .inr ⟨em h2, h3⟩⟩
  · rintro (h | ⟨rfl, h | ⟨rfl, h⟩⟩)
    · exact .inl h
    · exact .inr ⟨rfl, .inr ⟨rfl, .inl h⟩⟩
    · exact .inr ⟨rfl, .inr ⟨rfl, .inr ⟨rfl, .inr ⟨rfl, h⟩⟩⟩⟩

theorem day_less (y m k y' m' k' : Int) (h : Cal.Valid y m k) (h' : Cal.Valid y' m' k') :
    (y < y' ∨ (y = y' ∧ (m < m' ∨ (m = m' ∧ k < k')))) ↔ Cal.day y m k < Cal.day y' m' k' := by
  have key : ∀ (y m k y' m' k' : Int), Cal.Valid y m k → Cal.Valid y' m' k' → (y < y' ∨ (y = y' ∧ (m < m' ∨ (m = m' ∧ k < k')))) → Cal.day y m k < Cal.day y' m' k' := by
    intro y m k y' m' k' h h' hc
    obtain ⟨y0, y1, m0, m1, k0, k1⟩ := h
    obtain ⟨y0', y1', m0', m1', k0', k1'⟩ := h'
    unfold Cal.day
    rcases hc with hc | ⟨rfl, hc | ⟨rfl, hc⟩⟩
    · have a := Cal.st_mono (y + 1) y' (by omega)
      have b := Cal.st_succ y
      have c := Cal.cum_mono y m 13 m0 (by omega) (by omega)
      rw [Cal.cum_end] at c
      have e := Cal.cum_bd y' m' m0' (by omega)
      omega
    · have c := Cal.cum_mono y m m' m0 (by omega) hc
      omega
    · omega
  constructor
  · exact key y m k y' m' k' h h'
  · intro hd
    by_cases c : y < y' ∨ (y = y' ∧ (m < m' ∨ (m = m' ∧ k < k')))
    · exact c
    · exfalso
      by_cases e : y = y' ∧ m = m' ∧ k = k'
      · obtain ⟨rfl, rfl, rfl⟩ := e; omega
      · have := key y' m' k' y m k h' h (by omega)
        omega

theorem text_order (y m k y' m' k' : Int) (h : Cal.Valid y m k) (h' : Cal.Valid y' m' k') :
    Op.bytesLess (textL y m k) (textL y' m' k') = decide (Cal.day y m k < Cal.day y' m' k') ∧ (textL y m k == textL y' m' k') = (Cal.day y m k == Cal.day y' m' k') := by
  refine ⟨?_, ?_⟩
  · rw [Bool.eq_iff_iff, text_less y m k y' m' k' h h', day_less y m k y' m' k' h h']
    simp
  · rw [Bool.eq_iff_iff, beq_iff_eq, beq_iff_eq]
    constructor
    · intro ht
      have e4 : ((10 ^ 4 : Nat) : Int) = 10000 := by decide
      have e2 : ((10 ^ 2 : Nat) : Int) = 100 := by decide
      obtain ⟨y0, y1, m0, m1, k0, k1⟩ := h
      obtain ⟨y0', y1', m0', m1', k0', k1'⟩ := h'
      have hl := Cal.len_bd y m
      have hl' := Cal.len_bd y' m'
      simp only [textL, List.append_assoc] at ht
      obtain ⟨a1, b1⟩ := List.append_inj ht (by rw [dig_length, dig_length])
      obtain ⟨_, b2⟩ := List.append_inj b1 rfl
      obtain ⟨a3, b3⟩ := List.append_inj b2 (by rw [dig_length, dig_length])
      obtain ⟨_, b4⟩ := List.append_inj b3 rfl
      rw [dig_inj 4 y y' (by omega) (by omega) (by omega) (by omega) a1, dig_inj 2 m m' (by omega) (by omega) (by omega) (by omega) a3, dig_inj 2 k k' (by omega) (by omega) (by omega) (by omega) b4]
    · intro hd
      obtain ⟨rfl, rfl, rfl⟩ := Cal.valid_inj y m k y' m' k' h h' hd
      rfl
end Go.Proofs.YtncekfogdpkgmaaDoor.W
