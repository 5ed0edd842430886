/- Plain laws of attach: what orders take. -/
import Derived.Test.YtjfcbflhnfjcfaaAtS
namespace Go.Proofs.Ytjfcbflhnfjcfaa.S
open Go.Proofs.Ytjfcbflhnfjcfaa.B Go.Proofs.Ytjfcbflhnfjcfaa.M Go.Sort
set_option linter.unusedVariables false

theorem rnd_bd' (c r : Int) (c0 : 0 ≤ c) (c1 : c ≤ 1125899906842624) (r0 : 0 ≤ r) (r1 : r ≤ 1000000) : 0 ≤ rnd c r ∧ rnd c r ≤ c := by
  have h1 : c * r ≤ c * 1000000 := Int.mul_le_mul_of_nonneg_left r1 c0
  have h2 : 0 ≤ c * r := Int.mul_nonneg c0 r0
  unfold rnd; omega
theorem wants_bd {net : Int} {x : Ord} (hn : fit net) (hx : rngO x) : 0 ≤ wants net x ∧ wants net x ≤ 1125899906842624 := by
  obtain ⟨_, _, h1, h2, h3, _, _⟩ := hx
  unfold wants
  by_cases c : x.fixed ≠ 0
  · rw [if_pos c]; exact h3
  · rw [if_neg c]
    unfold fit at hn
    have := rnd_bd' (if net < 0 then 0 else net) x.rate (by split <;> omega) (by split <;> omega) h1 h2
    refine ⟨this.1, Int.le_trans this.2 ?_⟩
    split <;> omega
theorem leftP_bd (w t : Int) (ht : t ≤ 1125899906842624) : 0 ≤ leftP w t ∧ leftP w t ≤ 1125899906842624 := by
  unfold leftP
  simp only
  repeat' split
  all_goals omega
theorem leftP_i64 (w t : Int) : 0 ≤ leftP w t ∧ leftP w t ≤ 1125899906842624 := by
  unfold leftP
  simp only
  repeat' split
  all_goals omega
theorem min2_le (a b : Int) : min2 a b ≤ a ∧ min2 a b ≤ b ∧ (min2 a b = a ∨ min2 a b = b) := by unfold min2; split <;> omega
theorem takes_bd (net left w : Int) (x : Ord) : 0 ≤ takes net left w x ∧ (0 < takes net left w x → takes net left w x ≤ wants net x ∧ takes net left w x ≤ leftP w x.total ∧ takes net left w x ≤ left - x.prot) := by
  unfold takes
  simp only
  have h1 := min2_le (wants net x) (leftP w x.total)
  have h2 := min2_le (min2 (wants net x) (leftP w x.total)) (left - x.prot)
  generalize min2 (min2 (wants net x) (leftP w x.total)) (left - x.prot) = c at *
  generalize min2 (wants net x) (leftP w x.total) = d at *
  split
  · exact ⟨by omega, fun h => by omega⟩
  · exact ⟨by omega, fun h => by omega⟩

variable {net : Int} {g : Mp} {O : Nat → Ord}
theorem leftK_le : ∀ k, leftK net g O k ≤ net
  | 0 => Int.le_refl _
  | k + 1 => by
    have h1 := leftK_le k
    have h2 := (takes_bd net (leftK net g O k) (was g (O k).code) (O k)).1
    unfold leftK; omega
theorem leftK_ge : ∀ k, (∀ i, i < k → 0 ≤ (O i).prot) → leftK net g O k = net ∨ 0 ≤ leftK net g O k
  | 0, _ => .inl rfl
  | k + 1, h => by
    have h1 := leftK_ge k (fun i hi => h i (by omega))
    have h2 := takes_bd net (leftK net g O k) (was g (O k).code) (O k)
    have h3 := h k (by omega)
    unfold leftK
    by_cases c : 0 < takes net (leftK net g O k) (was g (O k).code) (O k)
    · right
      have := (h2.2 c).2.2
      omega
    · have : takes net (leftK net g O k) (was g (O k).code) (O k) = 0 := by omega
      rw [this, Int.sub_zero]; exact h1
theorem leftK_fit (hn : fit net) (k : Nat) (h : ∀ i, i < k → 0 ≤ (O i).prot) : fit (leftK net g O k) := by
  have h1 := leftK_le (net := net) (g := g) (O := O) k
  have h2 := leftK_ge (net := net) (g := g) k h
  unfold fit at *
  omega
/-- What an order takes leaves what it protects. -/
theorem take_leaves (k : Nat) (h : 0 < takeK net g O k) : (O k).prot ≤ leftK net g O (k + 1) := by
  have := ((takes_bd net (leftK net g O k) (was g (O k).code) (O k)).2 h).2.2
  show _ ≤ leftK net g O k - takes net (leftK net g O k) (was g (O k).code) (O k)
  omega
theorem takeK_nonneg (k : Nat) : 0 ≤ takeK net g O k := (takes_bd _ _ _ _).1
theorem takeK_le (hn : fit net) (k : Nat) (h : ∀ i, i < k → 0 ≤ (O i).prot) (hx : rngO (O k)) : takeK net g O k ≤ 1125899906842624 := by
  have h1 := takes_bd net (leftK net g O k) (was g (O k).code) (O k)
  have h2 := wants_bd hn hx
  unfold takeK
  by_cases c : 0 < takes net (leftK net g O k) (was g (O k).code) (O k)
  · have := (h1.2 c).1; omega
  · omega
/-- Of a net that isn't above 0 nothing is taken. -/
theorem take_none (hn : net ≤ 0) (k : Nat) (h : 0 ≤ (O k).prot) : takeK net g O k = 0 := by
  have h1 := leftK_le (net := net) (g := g) (O := O) k
  have h2 := takes_bd net (leftK net g O k) (was g (O k).code) (O k)
  unfold takeK
  by_cases c : 0 < takes net (leftK net g O k) (was g (O k).code) (O k)
  · have := (h2.2 c).2.2; omega
  · omega

/-! ### The sums -/
def apart (O : Nat → Ord) (n : Nat) : Prop := ∀ i j, i < n → j < n → (O i).code = (O j).code → i = j
theorem out_else (t : ByteArray) : ∀ n, (∀ k, k < n → (O k).code ≠ t) → outK net g O n t = g t
  | 0, _ => rfl
  | n + 1, h => by
    unfold outK upd
    rw [if_neg (fun hh => h n (by omega) hh.symm)]
    exact out_else t n (fun k hk => h k (by omega))
theorem out_at : ∀ n, apart O n → ∀ k, k < n → outK net g O n (O k).code = some (was g (O k).code + takeK net g O k)
  | 0, _, k, h => absurd h (by omega)
  | n + 1, hA, k, h => by
    unfold outK upd
    by_cases e : k = n
    · subst e; rw [if_pos rfl]
    · rw [if_neg (fun hh => e (hA k n h (by omega) hh))]
      exact out_at n (fun i j hi hj => hA i j (by omega) (by omega)) k (by omega)
theorem out_has (t : ByteArray) : ∀ n, (g t).isSome = true → (outK net g O n t).isSome = true
  | 0, h => h
  | n + 1, h => by
    unfold outK upd
    split
    · rfl
    · exact out_has t n h

/-! ### The items -/
theorem items_succ (k : Nat) : itemsK net g O (k + 1) = if 0 < takeK net g O k then itemsK net g O k ++ [((O k).code, takeK net g O k)] else itemsK net g O k := rfl
theorem items_mono (k : Nat) : ∀ m, ∃ r, itemsK net g O (k + m) = itemsK net g O k ++ r
  | 0 => ⟨[], by simp⟩
  | m + 1 => by
    obtain ⟨r, hr⟩ := items_mono k m
    rw [show k + (m + 1) = (k + m) + 1 by omega, items_succ]
    split
    · exact ⟨r ++ [((O (k + m)).code, takeK net g O (k + m))], by rw [hr, List.append_assoc]⟩
    · exact ⟨r, hr⟩
/-- An order that takes: its item. -/
theorem items_at {k n : Nat} (h : k < n) (ht : 0 < takeK net g O k) : (itemsK net g O n)[(itemsK net g O k).length]? = some ((O k).code, takeK net g O k) := by
  obtain ⟨r, hr⟩ := items_mono (net := net) (g := g) (O := O) (k + 1) (n - (k + 1))
  rw [show k + 1 + (n - (k + 1)) = n by omega] at hr
  rw [hr, items_succ, if_pos ht, List.append_assoc, List.getElem?_append_right (Nat.le_refl _), Nat.sub_self]
  rfl
theorem items_next {k : Nat} (ht : 0 < takeK net g O k) : (itemsK net g O (k + 1)).length = (itemsK net g O k).length + 1 := by
  rw [items_succ, if_pos ht]; simp
theorem items_same {k : Nat} (ht : takeK net g O k = 0) : itemsK net g O (k + 1) = itemsK net g O k := by
  show (if _ then _ else _) = _; rw [if_neg (by omega)]
/-- What lies behind the items of the first k: a later order's. -/
theorem items_later (k : Nat) : ∀ n, k ≤ n → ∀ p, (itemsK net g O n)[(itemsK net g O k).length]? = some p → ∃ j, k ≤ j ∧ j < n ∧ 0 < takeK net g O j ∧ p = ((O j).code, takeK net g O j)
  | 0, h, p, hp => by
    obtain rfl : k = 0 := by omega
    simp [itemsK] at hp
  | n + 1, h, p, hp => by
    by_cases e : k = n + 1
    · subst e
      rw [List.getElem?_eq_none (Nat.le_refl _)] at hp; cases hp
    · by_cases ht : 0 < takeK net g O n
      · obtain ⟨r, hr⟩ := items_mono (net := net) (g := g) (O := O) k (n - k)
        rw [show k + (n - k) = n by omega] at hr
        have hlen : (itemsK net g O k).length ≤ (itemsK net g O n).length := by rw [hr]; simp
        rw [items_succ, if_pos ht] at hp
        by_cases c : (itemsK net g O k).length < (itemsK net g O n).length
        · rw [List.getElem?_append_left c] at hp
          obtain ⟨j, h1, h2, h3⟩ := items_later k n (by omega) p hp
          exact ⟨j, h1, by omega, h3⟩
        · rw [List.getElem?_append_right (by omega), show (itemsK net g O k).length - (itemsK net g O n).length = 0 by omega] at hp
          injection hp with hp
          exact ⟨n, by omega, by omega, ht, hp.symm⟩
      · have hs := items_same (net := net) (g := g) (O := O) (k := n) (by have := takeK_nonneg (net := net) (g := g) (O := O) n; omega)
        rw [hs] at hp
        obtain ⟨j, h1, h2, h3⟩ := items_later k n (by omega) p hp
        exact ⟨j, h1, by omega, h3⟩
/-- An order that takes nothing: what lies there is of another code. -/
theorem items_skip {k n : Nat} (hA : apart O n) (h : k < n) (ht : takeK net g O k = 0) (p : ByteArray × Int) (hp : (itemsK net g O n)[(itemsK net g O k).length]? = some p) : p.1 ≠ (O k).code := by
  obtain ⟨j, h1, h2, h3, rfl⟩ := items_later k n (by omega) p hp
  intro hh
  have := hA j k h2 h hh
  subst this
  omega
/-- Nothing is taken: there are no items. -/
theorem items_none : ∀ n, (∀ k, k < n → takeK net g O k = 0) → itemsK net g O n = []
  | 0, _ => rfl
  | n + 1, h => by rw [items_same (h n (by omega)), items_none n (fun k hk => h k (by omega))]
end Go.Proofs.Ytjfcbflhnfjcfaa.S
