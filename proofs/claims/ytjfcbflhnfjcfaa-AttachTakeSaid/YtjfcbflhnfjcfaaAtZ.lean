/- The stable sort of slices, in plain Lean: swapRange, rotate, symMerge, stable; and that it sorts, equals as they came. No program in sight. -/
import Derived.Test.YtjfcbflhnfjcfaaMem
import Derived.Sort.LotA
namespace Go.Proofs.Ytjfcbflhnfjcfaa.Z
open Go.Sort
set_option linter.unusedVariables false
variable {α : Type} [Inhabited α]

/-- n exchanges: a+i with b+i. -/
def swaps : Nat → Nat → Nat → Array α → Array α
  | 0, _, _, d => d
  | k + 1, a, b, d => swaps k (a + 1) (b + 1) (swp d a b)

/-- The loop of rotate, from (i, j). -/
def rotGo (m i j : Nat) (d : Array α) : Array α :=
  if h : 0 < i ∧ 0 < j then
    if i = j then swaps i (m - i) m d
    else if j < i then rotGo m (i - j) j (swaps j (m - i) m d)
    else rotGo m i (j - i) (swaps i (m - i) (m + j - i) d)
  else d
termination_by i + j
decreasing_by all_goals omega

def rotate (d : Array α) (a m b : Nat) : Array α := rotGo m (m - a) (b - m) d

/-- A search by halves: the first place from i on at which p is false, if p turns once. -/
def bs (p : Nat → Bool) (i j : Nat) : Nat :=
  if i < j then (if p ((i + j) / 2) then bs p ((i + j) / 2 + 1) j else bs p i ((i + j) / 2)) else i
termination_by j - i
decreasing_by all_goals omega

/-- 'for k := a; k < e; k++ { swap k, k+1 }'. -/
def up (k e : Nat) (d : Array α) : Array α := if k < e then up (k + 1) e (swp d k (k + 1)) else d
termination_by e - k
/-- 'for k := m; k > i; k-- { swap k, k-1 }'. -/
def down (i : Nat) : Nat → Array α → Array α
  | 0, d => d
  | k + 1, d => if i < k + 1 then down i k (swp d (k + 1) k) else d

section
variable (lt : α → α → Bool)
def sBeg (a m b : Nat) : Nat := if (a + b) / 2 < m then (a + b) / 2 + m - b else a
def sEnd (a m b : Nat) : Nat := if (a + b) / 2 < m then (a + b) / 2 else m
def sAt (d : Array α) (a m b : Nat) : Nat := bs (fun c => !lt d[(a + b) / 2 + m - 1 - c]! d[c]!) (sBeg a m b) (sEnd a m b)
def sRot (d : Array α) (a m b : Nat) : Array α :=
  if sAt lt d a m b < m ∧ m < (a + b) / 2 + m - sAt lt d a m b then rotate d (sAt lt d a m b) m ((a + b) / 2 + m - sAt lt d a m b) else d
def symMerge : Nat → Array α → Nat → Nat → Nat → Array α
  | 0, d, _, _, _ => d
  | f + 1, d, a, m, b =>
    if m - a = 1 then up a (bs (fun h => lt d[h]! d[a]!) m b - 1) d
    else if b - m = 1 then down (bs (fun h => !lt d[m]! d[h]!) a m) m d
    else
      let s := sAt lt d a m b
      let e := (a + b) / 2 + m - s
      let d1 := sRot lt d a m b
      let d2 := if a < s ∧ s < (a + b) / 2 then symMerge f d1 a s ((a + b) / 2) else d1
      if (a + b) / 2 < e ∧ e < b then symMerge f d2 ((a + b) / 2) e b else d2

/-- The blocks of B, from a on, each sorted by insertion. -/
def stIns (n B a : Nat) (d : Array α) : Array α :=
  if h : 0 < B ∧ a + B ≤ n then stIns n B (a + B) (insertionSort lt d a (a + B)) else insertionSort lt d a n
termination_by n - a
decreasing_by omega
/-- One pass of merges, from a on. -/
def stPass (n B a : Nat) (d : Array α) : Array α :=
  if h : 0 < B ∧ a + 2 * B ≤ n then stPass n B (a + 2 * B) (symMerge lt (2 * B) d a (a + B) (a + 2 * B))
  else if a + B < n then symMerge lt (n - a) d a (a + B) n else d
termination_by n - a
decreasing_by omega
def stLoop (n B : Nat) (d : Array α) : Array α := if h : 0 < B ∧ B < n then stLoop n (B * 2) (stPass lt n B 0 d) else d
termination_by n - B
decreasing_by omega
def stable (d : Array α) : Array α := stLoop lt d.size 20 (stIns lt d.size 20 0 d)
end

/-! ### Places -/
theorem size_swaps : ∀ (k a b : Nat) (d : Array α), (swaps k a b d).size = d.size
  | 0, _, _, _ => rfl
  | k + 1, a, b, d => by rw [swaps, size_swaps k, size_swp]
theorem swaps_get : ∀ (k a b : Nat) (d : Array α), a + k ≤ b → b + k ≤ d.size → ∀ t, (swaps k a b d)[t]! = if a ≤ t ∧ t < a + k then d[b + (t - a)]! else if b ≤ t ∧ t < b + k then d[a + (t - b)]! else d[t]!
  | 0, a, b, d, _, _, t => by
    rw [swaps, if_neg (by omega), if_neg (by omega)]
  | k + 1, a, b, d, h1, h2, t => by
    rw [swaps, swaps_get k (a + 1) (b + 1) _ (by omega) (by rw [size_swp]; omega) t]
    have g := swp_get d (i := a) (j := b) (by omega) (by omega)
    by_cases c1 : a + 1 ≤ t ∧ t < a + 1 + k
    · rw [if_pos c1, if_pos (by omega), g, if_neg (by omega), if_neg (by omega)]
      congr 1; omega
    · rw [if_neg c1]
      by_cases c2 : b + 1 ≤ t ∧ t < b + 1 + k
      · rw [if_pos c2, if_neg (by omega), if_pos (by omega), g, if_neg (by omega), if_neg (by omega)]
        congr 1; omega
      · rw [if_neg c2, g]
        by_cases c3 : t = b
        · subst c3
          rw [if_pos rfl, if_neg (by omega), if_pos (by omega)]
          congr 1; omega
        · rw [if_neg c3]
          by_cases c4 : t = a
          · subst c4
            rw [if_pos rfl, if_pos (by omega)]
            congr 1; omega
          · rw [if_neg c4, if_neg (by omega), if_neg (by omega)]
theorem swaps_perm : ∀ (k a b lo hi : Nat) (d : Array α), lo ≤ a → lo ≤ b → a + k ≤ hi → b + k ≤ hi → hi ≤ d.size → PermIn lo hi d (swaps k a b d)
  | 0, a, b, lo, hi, d, _, _, _, _, _ => permIn_refl d lo hi
  | k + 1, a, b, lo, hi, d, h1, h2, h3, h4, h5 =>
    permIn_trans _ _ _ lo hi (swp_permIn d lo hi a b (by omega) (by omega) (by omega) (by omega) h5) (swaps_perm k (a + 1) (b + 1) lo hi _ (by omega) (by omega) (by omega) (by omega) (by rw [size_swp]; exact h5))

/-- What lies where behind a rotation. -/
def Rot (m i j : Nat) (d d' : Array α) : Prop :=
  d'.size = d.size ∧ ∀ t, d'[t]! = if m - i ≤ t ∧ t < m - i + j then d[t + i]! else if m - i + j ≤ t ∧ t < m + j then d[t - j]! else d[t]!
theorem rotGo_spec : ∀ (s m i j : Nat) (d : Array α), i + j = s → 0 < i → 0 < j → i ≤ m → m + j ≤ d.size → Rot m i j d (rotGo m i j d) ∧ PermIn (m - i) (m + j) d (rotGo m i j d) := by
  intro s
  induction s using Nat.strongRecOn with
  | _ s ih =>
    intro m i j d hs hi hj hm hsz
    rw [rotGo, dif_pos ⟨hi, hj⟩]
    by_cases c1 : i = j
    · subst c1
      rw [if_pos rfl]
      refine ⟨⟨size_swaps _ _ _ _, fun t => ?_⟩, swaps_perm i (m - i) m _ _ d (Nat.le_refl _) (by omega) (by omega) (by omega) hsz⟩
      rw [swaps_get i (m - i) m d (by omega) (by omega)]
      by_cases c2 : m - i ≤ t ∧ t < m - i + i
      · rw [if_pos c2, if_pos c2]; congr 1; omega
      · rw [if_neg c2, if_neg c2]
        by_cases c3 : m ≤ t ∧ t < m + i
        · rw [if_pos c3, if_pos (by omega)]; congr 1; omega
        · rw [if_neg c3, if_neg (by omega)]
    · rw [if_neg c1]
      by_cases c2 : j < i
      · rw [if_pos c2]
        have g := swaps_get j (m - i) m d (by omega) (by omega)
        have z := size_swaps j (m - i) m d
        have pp := swaps_perm j (m - i) m (m - i) (m + j) d (Nat.le_refl _) (by omega) (by omega) (by omega) hsz
        obtain ⟨⟨h1, h2⟩, h3⟩ := ih (i - j + j) (by omega) m (i - j) j (swaps j (m - i) m d) rfl (by omega) hj (by omega) (by omega)
        refine ⟨⟨h1.trans z, fun t => ?_⟩, permIn_trans _ _ _ _ _ pp (permIn_mono _ _ (m - (i - j)) (m + j) (m - i) (m + j) (by omega) (by omega) (by omega) h3)⟩
        rw [h2 t]
        by_cases d1 : m - (i - j) ≤ t ∧ t < m - (i - j) + j
        · rw [if_pos d1, g]
          by_cases d2 : m ≤ t + (i - j) ∧ t + (i - j) < m + j
          · rw [if_neg (by omega), if_pos d2, if_neg (by omega), if_pos (by omega)]; congr 1; omega
          · omega
        · rw [if_neg d1]
          by_cases d3 : m - (i - j) + j ≤ t ∧ t < m + j
          · rw [if_pos d3, g, if_neg (by omega), if_neg (by omega), if_neg (by omega), if_pos (by omega)]
          · rw [if_neg d3, g]
            by_cases d4 : m - i ≤ t ∧ t < m - i + j
            · rw [if_pos d4, if_pos d4]; congr 1; omega
            · rw [if_neg d4, if_neg d4, if_neg (by omega), if_neg (by omega)]
      · rw [if_neg c2]
        have g := swaps_get i (m - i) (m + j - i) d (by omega) (by omega)
        have z := size_swaps i (m - i) (m + j - i) d
        have pp := swaps_perm i (m - i) (m + j - i) (m - i) (m + j) d (Nat.le_refl _) (by omega) (by omega) (by omega) hsz
        obtain ⟨⟨h1, h2⟩, h3⟩ := ih (i + (j - i)) (by omega) m i (j - i) (swaps i (m - i) (m + j - i) d) rfl hi (by omega) (by omega) (by omega)
        refine ⟨⟨h1.trans z, fun t => ?_⟩, permIn_trans _ _ _ _ _ pp (permIn_mono _ _ (m - i) (m + (j - i)) (m - i) (m + j) (by omega) (by omega) (by omega) h3)⟩
        rw [h2 t]
        by_cases d1 : m - i ≤ t ∧ t < m - i + (j - i)
        · rw [if_pos d1, if_pos (by omega), g]
          rw [if_neg (by omega), if_neg (by omega)]
        · rw [if_neg d1]
          by_cases d3 : m - i + (j - i) ≤ t ∧ t < m + (j - i)
          · rw [if_pos d3, g]
            rw [if_pos (by omega)]
            by_cases d4 : m - i ≤ t ∧ t < m - i + j
            · rw [if_pos d4]; congr 1; omega
            · omega
          · rw [if_neg d3, g, if_neg (by omega)]
            by_cases d5 : m + j - i ≤ t ∧ t < m + j - i + i
            · rw [if_pos d5, if_neg (by omega), if_pos (by omega)]; congr 1; omega
            · rw [if_neg d5, if_neg (by omega), if_neg (by omega)]
theorem rotate_spec (d : Array α) (a m b : Nat) (h1 : a < m) (h2 : m < b) (h3 : b ≤ d.size) :
    (rotate d a m b).size = d.size ∧ (∀ t, (rotate d a m b)[t]! = if a ≤ t ∧ t < a + (b - m) then d[t + (m - a)]! else if a + (b - m) ≤ t ∧ t < b then d[t - (b - m)]! else d[t]!) ∧ PermIn a b d (rotate d a m b) := by
  obtain ⟨⟨h4, h5⟩, h6⟩ := rotGo_spec (m - a + (b - m)) m (m - a) (b - m) d rfl (by omega) (by omega) (by omega) (by omega)
  have e1 : m - (m - a) = a := by omega
  have e2 : m + (b - m) = b := by omega
  rw [e1, e2] at h6
  refine ⟨h4, fun t => ?_, h6⟩
  have := h5 t
  rw [e1, e2] at this
  exact this

/-- A search by halves in a row in which p turns once. -/
theorem bs_spec (p : Nat → Bool) : ∀ (s i j : Nat), j - i = s → i ≤ j → (∀ x y, i ≤ x → x < y → y < j → p y = true → p x = true) →
    i ≤ bs p i j ∧ bs p i j ≤ j ∧ (∀ x, i ≤ x → x < bs p i j → p x = true) ∧ (∀ x, bs p i j ≤ x → x < j → p x = false) := by
  intro s
  induction s using Nat.strongRecOn with
  | _ s ih =>
    intro i j hs hij hm
    rw [bs]
    by_cases c : i < j
    · rw [if_pos c]
      by_cases cp : p ((i + j) / 2) = true
      · rw [if_pos cp]
        obtain ⟨h1, h2, h3, h4⟩ := ih (j - ((i + j) / 2 + 1)) (by omega) ((i + j) / 2 + 1) j rfl (by omega) (fun x y hx hxy hy => hm x y (by omega) hxy hy)
        refine ⟨by omega, h2, fun x hx hlt => ?_, h4⟩
        by_cases hx2 : (i + j) / 2 + 1 ≤ x
        · exact h3 x hx2 hlt
        · by_cases hx3 : x = (i + j) / 2
          · rw [hx3]; exact cp
          · exact hm x ((i + j) / 2) hx (by omega) (by omega) cp
      · rw [if_neg cp]
        obtain ⟨h1, h2, h3, h4⟩ := ih ((i + j) / 2 - i) (by omega) i ((i + j) / 2) rfl (by omega) (fun x y hx hxy hy => hm x y hx hxy (by omega))
        refine ⟨h1, by omega, h3, fun x hx hlt => ?_⟩
        by_cases hx2 : x < (i + j) / 2
        · exact h4 x hx hx2
        · cases hpx : p x with
          | false => rfl
          | true =>
            exfalso; apply cp
            by_cases hx3 : x = (i + j) / 2
            · rw [← hx3]; exact hpx
            · exact hm ((i + j) / 2) x (by omega) (by omega) hlt hpx
    · rw [if_neg c]
      exact ⟨Nat.le_refl _, hij, fun x h1 h2 => by omega, fun x h1 h2 => by omega⟩
/-- .. and its bounds, whatever p is. -/
theorem bs_bound (p : Nat → Bool) : ∀ (s i j : Nat), j - i = s → i ≤ j → i ≤ bs p i j ∧ bs p i j ≤ j := by
  intro s
  induction s using Nat.strongRecOn with
  | _ s ih =>
    intro i j hs hij
    rw [bs]
    by_cases c : i < j
    · rw [if_pos c]
      by_cases cp : p ((i + j) / 2) = true
      · rw [if_pos cp]
        have := ih (j - ((i + j) / 2 + 1)) (by omega) ((i + j) / 2 + 1) j rfl (by omega)
        omega
      · rw [if_neg cp]
        have := ih ((i + j) / 2 - i) (by omega) i ((i + j) / 2) rfl (by omega)
        omega
    · rw [if_neg c]; omega
theorem bs_congr {p q : Nat → Bool} : ∀ (s i j : Nat), j - i = s → (∀ x, i ≤ x → x < j → p x = q x) → bs p i j = bs q i j := by
  intro s
  induction s using Nat.strongRecOn with
  | _ s ih =>
    intro i j hs h
    rw [bs]
    conv => rhs; rw [bs]
    by_cases c : i < j
    · rw [if_pos c, if_pos c, h ((i + j) / 2) (by omega) (by omega)]
      rw [ih (j - ((i + j) / 2 + 1)) (by omega) ((i + j) / 2 + 1) j rfl (fun x h1 h2 => h x (by omega) h2), ih ((i + j) / 2 - i) (by omega) i ((i + j) / 2) rfl (fun x h1 h2 => h x h1 (by omega))]
    · rw [if_neg c, if_neg c]

theorem up_spec : ∀ (s k e : Nat) (d : Array α), e - k = s → k ≤ e → e < d.size → (up k e d).size = d.size ∧ (∀ t, (up k e d)[t]! = if k ≤ t ∧ t < e then d[t + 1]! else if t = e then d[k]! else d[t]!) ∧ PermIn k (e + 1) d (up k e d)
  | 0, k, e, d, hs, hk, he => by
    obtain rfl : k = e := by omega
    rw [up, if_neg (by omega)]
    refine ⟨rfl, fun t => ?_, permIn_refl _ _ _⟩
    rw [if_neg (by omega)]
    by_cases c : t = k
    · subst c; rw [if_pos rfl]
    · rw [if_neg c]
  | s + 1, k, e, d, hs, hk, he => by
    rw [up, if_pos (by omega)]
    have g := swp_get d (i := k) (j := k + 1) (by omega) (by omega)
    obtain ⟨h1, h2, h3⟩ := up_spec s (k + 1) e (swp d k (k + 1)) (by omega) (by omega) (by rw [size_swp]; exact he)
    refine ⟨h1.trans (size_swp _ _ _), fun t => ?_, permIn_trans _ _ _ _ _ (swp_permIn d k (e + 1) k (k + 1) (by omega) (by omega) (by omega) (by omega) (by omega)) (permIn_mono _ _ (k + 1) (e + 1) k (e + 1) (by omega) (by omega) (by rw [size_swp]; omega) h3)⟩
    rw [h2 t]
    by_cases c1 : k + 1 ≤ t ∧ t < e
    · rw [if_pos c1, if_pos (by omega), g, if_neg (by omega), if_neg (by omega)]
    · rw [if_neg c1]
      by_cases c2 : t = e
      · subst c2
        rw [if_pos rfl, if_neg (by omega), if_pos rfl, g, if_pos rfl]
      · rw [if_neg c2, if_neg c2, g]
        by_cases c3 : t = k
        · subst c3
          rw [if_neg (by omega), if_pos rfl, if_pos (by omega)]
        · rw [if_neg (by omega), if_neg c3, if_neg (by omega)]
theorem down_spec : ∀ (k i : Nat) (d : Array α), i ≤ k → k < d.size → (down i k d).size = d.size ∧ (∀ t, (down i k d)[t]! = if i < t ∧ t ≤ k then d[t - 1]! else if t = i then d[k]! else d[t]!) ∧ PermIn i (k + 1) d (down i k d)
  | 0, i, d, hi, hk => by
    obtain rfl : i = 0 := by omega
    rw [down]
    refine ⟨rfl, fun t => ?_, permIn_refl _ _ _⟩
    rw [if_neg (by omega)]
    by_cases c : t = 0
    · subst c; rw [if_pos rfl]
    · rw [if_neg c]
  | k + 1, i, d, hi, hk => by
    rw [down]
    by_cases c0 : i < k + 1
    · rw [if_pos c0]
      have g := swp_get d (i := k + 1) (j := k) (by omega) (by omega)
      obtain ⟨h1, h2, h3⟩ := down_spec k i (swp d (k + 1) k) (by omega) (by rw [size_swp]; omega)
      refine ⟨h1.trans (size_swp _ _ _), fun t => ?_, permIn_trans _ _ _ _ _ (swp_permIn d i (k + 2) (k + 1) k (by omega) (by omega) (by omega) (by omega) (by omega)) (permIn_mono _ _ i (k + 1) i (k + 2) (by omega) (by omega) (by rw [size_swp]; omega) h3)⟩
      rw [h2 t]
      by_cases c1 : i < t ∧ t ≤ k
      · rw [if_pos c1, if_pos (by omega), g, if_neg (by omega), if_neg (by omega)]
      · rw [if_neg c1]
        by_cases c2 : t = i
        · subst c2
          rw [if_pos rfl, if_neg (by omega), if_pos rfl, g, if_pos rfl]
        · rw [if_neg c2, if_neg c2, g]
          by_cases c3 : t = k + 1
          · subst c3
            rw [if_neg (by omega), if_pos rfl, if_pos (by omega)]
            rfl
          · rw [if_neg (by omega), if_neg c3, if_neg (by omega)]
    · obtain rfl : i = k + 1 := by omega
      rw [if_neg c0]
      refine ⟨rfl, fun t => ?_, permIn_refl _ _ _⟩
      rw [if_neg (by omega)]
      by_cases c : t = k + 1
      · subst c; rw [if_pos rfl]
      · rw [if_neg c]
end Go.Proofs.Ytjfcbflhnfjcfaa.Z
