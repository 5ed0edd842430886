/- symMerge merges: in plain Lean. -/
import Derived.Test.YtjfcbflhnfjcfaaAtZ
namespace Go.Proofs.Ytjfcbflhnfjcfaa.Z
open Go.Sort
set_option linter.unusedVariables false
variable {α : Type} [Inhabited α] {lt : α → α → Bool}

theorem sle (hS : SWO lt) {a b : Nat} {d : Array α} (h : SortedIn lt a b d) {i j : Nat} (h1 : a ≤ i) (h2 : i ≤ j) (h3 : j < b) : lt d[j]! d[i]! = false := by
  by_cases c : i = j
  · subst c; exact hS.irrefl _
  · exact h i j h1 (by omega) h3
theorem ssub {a b a' b' : Nat} {d : Array α} (h : SortedIn lt a b d) (h1 : a ≤ a') (h2 : b' ≤ b) : SortedIn lt a' b' d := fun i j hi hij hj => h i j (by omega) hij (by omega)
theorem ssame {a b : Nat} {d d' : Array α} (h : SortedIn lt a b d) (he : ∀ t, a ≤ t → t < b → d'[t]! = d[t]!) : SortedIn lt a b d' := fun i j hi hij hj => by
  rw [he i hi (by omega), he j (by omega) hj]; exact h i j hi hij hj
/-- Two sorted parts, the one below the other. -/
theorem sjoin {a m b : Nat} {d : Array α} (h1 : SortedIn lt a m d) (h2 : SortedIn lt m b d) (h : ∀ p q, a ≤ p → p < m → m ≤ q → q < b → lt d[q]! d[p]! = false) : SortedIn lt a b d := fun i j hi hij hj => by
  by_cases c1 : j < m
  · exact h1 i j hi hij c1
  · by_cases c2 : i < m
    · exact h i j hi c2 (by omega) hj
    · exact h2 i j (by omega) hij hj

theorem sBeg_le (a m b : Nat) (h1 : a < m) (h2 : m < b) : a ≤ sBeg a m b ∧ sBeg a m b ≤ sEnd a m b ∧ sEnd a m b ≤ m ∧ sEnd a m b ≤ (a + b) / 2 := by
  unfold sBeg sEnd
  split <;> omega
theorem sPlace {a m b c : Nat} (h1 : a < m) (h2 : m < b) (hc : sBeg a m b ≤ c) (hc2 : c < sEnd a m b) : a ≤ c ∧ c < m ∧ m ≤ (a + b) / 2 + m - 1 - c ∧ (a + b) / 2 + m - 1 - c < b := by
  revert hc hc2
  unfold sBeg sEnd
  split <;> omega
theorem sAt_bound (lt : α → α → Bool) (d : Array α) {a m b : Nat} (h1 : a < m) (h2 : m < b) : sBeg a m b ≤ sAt lt d a m b ∧ sAt lt d a m b ≤ sEnd a m b :=
  bs_bound _ _ _ _ rfl (sBeg_le a m b h1 h2).2.1
/-- Where the end of the turned part lies. -/
theorem sEnd_bound {a m b s : Nat} (h1 : a < m) (h2 : m < b) (hs : sBeg a m b ≤ s) (hs2 : s ≤ sEnd a m b) : a ≤ s ∧ s ≤ m ∧ s ≤ (a + b) / 2 ∧ m ≤ (a + b) / 2 + m - s ∧ (a + b) / 2 ≤ (a + b) / 2 + m - s ∧ (a + b) / 2 + m - s ≤ b ∧ (a + b) / 2 + m - s - m = (a + b) / 2 - s := by
  revert hs hs2
  unfold sBeg sEnd
  split <;> omega

theorem sRot_get (lt : α → α → Bool) (d : Array α) {a m b : Nat} (h1 : a < m) (h2 : m < b) (h3 : b ≤ d.size) :
    (sRot lt d a m b).size = d.size ∧ PermIn a b d (sRot lt d a m b) ∧ ∀ t, (sRot lt d a m b)[t]! = if sAt lt d a m b ≤ t ∧ t < (a + b) / 2 then d[t + (m - sAt lt d a m b)]! else if (a + b) / 2 ≤ t ∧ t < (a + b) / 2 + m - sAt lt d a m b then d[t - ((a + b) / 2 - sAt lt d a m b)]! else d[t]! := by
  obtain ⟨e1, e2⟩ := sAt_bound lt d h1 h2
  obtain ⟨f1, f2, f3, f4, f5, f6, f7⟩ := sEnd_bound h1 h2 e1 e2
  unfold sRot
  generalize sAt lt d a m b = s at *
  by_cases c : s < m ∧ m < (a + b) / 2 + m - s
  · rw [if_pos c]
    obtain ⟨g1, g2, g3⟩ := rotate_spec d s m ((a + b) / 2 + m - s) c.1 c.2 (by omega)
    refine ⟨g1, permIn_mono _ _ s _ a b f1 f6 h3 g3, fun t => ?_⟩
    rw [g2 t, show s + ((a + b) / 2 + m - s - m) = (a + b) / 2 by omega, f7]
  · rw [if_neg c]
    refine ⟨rfl, permIn_refl _ _ _, fun t => ?_⟩
    by_cases c1 : s ≤ t ∧ t < (a + b) / 2
    · rw [if_pos c1, show t + (m - s) = t by omega]
    · rw [if_neg c1]
      by_cases c2 : (a + b) / 2 ≤ t ∧ t < (a + b) / 2 + m - s
      · rw [if_pos c2, show t - ((a + b) / 2 - s) = t by omega]
      · rw [if_neg c2]

/-- What the turn leaves: four sorted parts, the two first below the two last. -/
theorem sRot_parts (hS : SWO lt) (d : Array α) {a m b : Nat} (h1 : a < m) (h2 : m < b) (h3 : b ≤ d.size) (hA : SortedIn lt a m d) (hB : SortedIn lt m b d) :
    SortedIn lt a (sAt lt d a m b) (sRot lt d a m b) ∧ SortedIn lt (sAt lt d a m b) ((a + b) / 2) (sRot lt d a m b) ∧ SortedIn lt ((a + b) / 2) ((a + b) / 2 + m - sAt lt d a m b) (sRot lt d a m b) ∧ SortedIn lt ((a + b) / 2 + m - sAt lt d a m b) b (sRot lt d a m b) ∧
    ∀ p q, a ≤ p → p < (a + b) / 2 → (a + b) / 2 ≤ q → q < b → lt (sRot lt d a m b)[q]! (sRot lt d a m b)[p]! = false := by
  have hmono : ∀ x y, sBeg a m b ≤ x → x < y → y < sEnd a m b → (!lt d[(a + b) / 2 + m - 1 - y]! d[y]!) = true → (!lt d[(a + b) / 2 + m - 1 - x]! d[x]!) = true := fun x y hx hxy hy hp => by
    have p1 := sPlace h1 h2 (show sBeg a m b ≤ y by omega) hy
    have p2 := sPlace h1 h2 hx (show x < sEnd a m b by omega)
    have q1 := hA x y (by omega) hxy (by omega)
    have q2 := hB ((a + b) / 2 + m - 1 - y) ((a + b) / 2 + m - 1 - x) (by omega) (by omega) (by omega)
    simp only [Bool.not_eq_true'] at hp ⊢
    exact hS.ntrans _ _ _ (hS.ntrans _ _ _ q2 hp) q1
  have hbs := bs_spec (fun c => !lt d[(a + b) / 2 + m - 1 - c]! d[c]!) _ (sBeg a m b) (sEnd a m b) rfl (sBeg_le a m b h1 h2).2.1 hmono
  obtain ⟨e1, e2⟩ := sAt_bound lt d h1 h2
  obtain ⟨f1, f2, f3, f4, f5, f6, f7⟩ := sEnd_bound h1 h2 e1 e2
  obtain ⟨g1, _, g⟩ := sRot_get lt d h1 h2 h3
  change _ ∧ _ ∧ (∀ x, sBeg a m b ≤ x → x < sAt lt d a m b → _) ∧ (∀ x, sAt lt d a m b ≤ x → x < sEnd a m b → _) at hbs
  obtain ⟨_, _, b3, b4⟩ := hbs
  generalize sRot lt d a m b = d1 at *
  generalize hs : sAt lt d a m b = s at *
  clear hs hmono
  have c1 : ∀ t, a ≤ t → t < s → d1[t]! = d[t]! := fun t ht ht2 => by rw [g, if_neg (by omega), if_neg (by omega)]
  have c2 : ∀ t, s ≤ t → t < (a + b) / 2 → d1[t]! = d[t + (m - s)]! := fun t ht ht2 => by rw [g, if_pos ⟨ht, ht2⟩]
  have c3 : ∀ t, (a + b) / 2 ≤ t → t < (a + b) / 2 + m - s → d1[t]! = d[t - ((a + b) / 2 - s)]! := fun t ht ht2 => by rw [g, if_neg (by omega), if_pos ⟨ht, ht2⟩]
  have c4 : ∀ t, (a + b) / 2 + m - s ≤ t → d1[t]! = d[t]! := fun t ht => by rw [g, if_neg (by omega), if_neg (by omega)]
  clear g
  refine ⟨fun i j h4 h5 h6 => ?_, fun i j h4 h5 h6 => ?_, fun i j h4 h5 h6 => ?_, fun i j h4 h5 h6 => ?_, fun p q hp hp2 hq hq2 => ?_⟩
  · rw [c1 i h4 (by omega), c1 j (by omega) h6]; exact hA i j h4 h5 (by omega)
  · rw [c2 i h4 (by omega), c2 j (by omega) h6]; exact hB _ _ (by omega) (by omega) (by omega)
  · rw [c3 i h4 (by omega), c3 j (by omega) h6]; exact hA _ _ (by omega) (by omega) (by omega)
  · rw [c4 i h4, c4 j (by omega)]; exact hB i j (by omega) h5 h6
  · by_cases hps : p < s
    · rw [c1 p hp hps]
      by_cases hqe : q < (a + b) / 2 + m - s
      · rw [c3 q hq hqe]; exact hA _ _ hp (by omega) (by omega)
      · rw [c4 q (by omega)]
        have hsb : sBeg a m b < s := by
          unfold sBeg at e1 ⊢
          split at e1 <;> split <;> omega
        have := b3 (s - 1) (by omega) (by omega)
        simp only [Bool.not_eq_true'] at this
        rw [show (a + b) / 2 + m - 1 - (s - 1) = (a + b) / 2 + m - s by omega] at this
        exact hS.ntrans _ _ _ (hS.ntrans _ _ _ (sle hS hB (by omega) (by omega) hq2) this) (sle hS hA hp (by omega) (by omega))
    · rw [c2 p (by omega) hp2]
      by_cases hqe : q < (a + b) / 2 + m - s
      · rw [c3 q hq hqe]
        have hse : s < sEnd a m b := by
          unfold sEnd at e2 ⊢
          split at e2 <;> split <;> omega
        have := b4 s (Nat.le_refl _) hse
        simp only [Bool.not_eq_false'] at this
        have := hS.asymmA this
        exact hS.ntrans _ _ _ (hS.ntrans _ _ _ (sle hS hA (i := s) (by omega) (by omega) (by omega)) this) (sle hS hB (by omega) (by omega) (by omega))
      · rw [c4 q (by omega)]; exact sle hS hB (by omega) (by omega) hq2

theorem one_up (hS : SWO lt) (d : Array α) {a b : Nat} (h2 : a + 1 < b) (h3 : b ≤ d.size) (hB : SortedIn lt (a + 1) b d) :
    PermIn a b d (up a (bs (fun h => lt d[h]! d[a]!) (a + 1) b - 1) d) ∧ SortedIn lt a b (up a (bs (fun h => lt d[h]! d[a]!) (a + 1) b - 1) d) := by
  obtain ⟨b1, b2, b3, b4⟩ := bs_spec (fun h => lt d[h]! d[a]!) _ (a + 1) b rfl (by omega) (fun x y hx hxy hy hp => by
    have q := hB x y hx hxy hy
    cases c : lt d[x]! d[a]! with
    | true => rfl
    | false => have := hS.ntrans _ _ _ q c; rw [this] at hp; exact hp)
  generalize bs (fun h => lt d[h]! d[a]!) (a + 1) b = i at *
  obtain ⟨g1, g, g3⟩ := up_spec (i - 1 - a) a (i - 1) d rfl (by omega) (by omega)
  generalize up a (i - 1) d = d' at *
  refine ⟨permIn_mono _ _ a (i - 1 + 1) a b (Nat.le_refl _) (by omega) h3 g3, fun p q hp hpq hq => ?_⟩
  rw [g p, g q]
  by_cases c1 : q < i - 1
  · rw [if_pos (by omega), if_pos (by omega)]; exact hB _ _ (by omega) (by omega) (by omega)
  · by_cases c2 : q = i - 1
    · rw [if_neg (show ¬ (a ≤ q ∧ q < i - 1) by omega), if_pos c2, if_pos (by omega)]; exact hS.asymmA (b3 (p + 1) (by omega) (by omega))
    · rw [if_neg (show ¬ (a ≤ q ∧ q < i - 1) by omega), if_neg c2]
      by_cases c3 : p < i - 1
      · rw [if_pos (by omega)]; exact sle hS hB (by omega) (by omega) hq
      · rw [if_neg (by omega)]
        by_cases c4 : p = i - 1
        · rw [if_pos c4]; exact b4 q (by omega) hq
        · rw [if_neg c4]; exact hB p q (by omega) hpq hq
theorem one_down (hS : SWO lt) (d : Array α) {a m : Nat} (h1 : a < m) (h3 : m + 1 ≤ d.size) (hA : SortedIn lt a m d) :
    PermIn a (m + 1) d (down (bs (fun h => !lt d[m]! d[h]!) a m) m d) ∧ SortedIn lt a (m + 1) (down (bs (fun h => !lt d[m]! d[h]!) a m) m d) := by
  obtain ⟨b1, b2, b3, b4⟩ := bs_spec (fun h => !lt d[m]! d[h]!) _ a m rfl (by omega) (fun x y hx hxy hy hp => by
    simp only [Bool.not_eq_true'] at hp ⊢
    exact hS.ntrans _ _ _ hp (hA x y hx hxy hy))
  generalize bs (fun h => !lt d[m]! d[h]!) a m = i at *
  obtain ⟨g1, g, g3⟩ := down_spec m i d (by omega) (by omega)
  generalize down i m d = d' at *
  simp only [Bool.not_eq_true', Bool.not_eq_false'] at b3 b4
  refine ⟨permIn_mono _ _ i (m + 1) a (m + 1) b1 (Nat.le_refl _) h3 g3, fun p q hp hpq hq => ?_⟩
  rw [g p, g q]
  by_cases c1 : i < q
  · rw [if_pos (show i < q ∧ q ≤ m by omega)]
    by_cases c2 : i < p
    · rw [if_pos (by omega)]; exact hA _ _ (by omega) (by omega) (by omega)
    · rw [if_neg (by omega)]
      by_cases c3 : p = i
      · rw [if_pos c3]; exact hS.asymmA (b4 (q - 1) (by omega) (by omega))
      · rw [if_neg c3]; exact hA _ _ hp (by omega) (by omega)
  · rw [if_neg (show ¬ (i < p ∧ p ≤ m) by omega), if_neg (show ¬ p = i by omega), if_neg (show ¬ (i < q ∧ q ≤ m) by omega)]
    by_cases c2 : q = i
    · rw [if_pos c2]; exact b3 p hp (by omega)
    · rw [if_neg c2]; exact hA p q hp hpq (by omega)

theorem symMerge_sorts (hS : SWO lt) : ∀ (f : Nat) (d : Array α) (a m b : Nat), b - a ≤ f → a < m → m < b → b ≤ d.size → SortedIn lt a m d → SortedIn lt m b d → PermIn a b d (symMerge lt f d a m b) ∧ SortedIn lt a b (symMerge lt f d a m b)
  | 0, d, a, m, b, hf, h1, h2, h3, hA, hB => absurd h1 (by omega)
  | f + 1, d, a, m, b, hf, h1, h2, h3, hA, hB => by
    rw [symMerge]
    by_cases c1 : m - a = 1
    · rw [if_pos c1]
      obtain rfl : m = a + 1 := by omega
      exact one_up hS d h2 h3 hB
    · rw [if_neg c1]
      by_cases c2 : b - m = 1
      · rw [if_pos c2]
        obtain rfl : b = m + 1 := by omega
        exact one_down hS d h1 h3 hA
      · rw [if_neg c2]
        obtain ⟨p1, p2, p3, p4, p5⟩ := sRot_parts hS d h1 h2 h3 hA hB
        obtain ⟨e1, e2⟩ := sAt_bound lt d h1 h2
        obtain ⟨f1, f2, f3, f4, f5, f6, f7⟩ := sEnd_bound h1 h2 e1 e2
        obtain ⟨g1, g2, _⟩ := sRot_get lt d h1 h2 h3
        simp only
        generalize sRot lt d a m b = d1 at *
        generalize sAt lt d a m b = s at *
        have hd2 : PermIn a ((a + b) / 2) d1 (if a < s ∧ s < (a + b) / 2 then symMerge lt f d1 a s ((a + b) / 2) else d1) ∧ SortedIn lt a ((a + b) / 2) (if a < s ∧ s < (a + b) / 2 then symMerge lt f d1 a s ((a + b) / 2) else d1) := by
          by_cases c : a < s ∧ s < (a + b) / 2
          · rw [if_pos c]
            exact symMerge_sorts hS f d1 a s ((a + b) / 2) (by omega) c.1 c.2 (by omega) p1 p2
          · rw [if_neg c]
            refine ⟨permIn_refl _ _ _, ?_⟩
            by_cases c' : s ≤ a
            · exact ssub p2 c' (Nat.le_refl _)
            · exact ssub p1 (Nat.le_refl _) (by omega)
        generalize (if a < s ∧ s < (a + b) / 2 then symMerge lt f d1 a s ((a + b) / 2) else d1) = d2 at *
        obtain ⟨q1, q2⟩ := hd2
        have z2 := q1.1
        have hk : ∀ t, (a + b) / 2 ≤ t → d2[t]! = d1[t]! := fun t ht => q1.2.1 t (Or.inr ht)
        have p3' := ssame (d' := d2) p3 (fun t h _ => hk t h)
        have p4' := ssame (d' := d2) p4 (fun t h _ => hk t (by omega))
        have p5' : ∀ p q, a ≤ p → p < (a + b) / 2 → (a + b) / 2 ≤ q → q < b → lt d2[q]! d2[p]! = false := fun p q hp hp2 hq hq2 => by
          rw [hk q hq]
          exact permIn_all d1 d2 a ((a + b) / 2) (fun x => lt d1[q]! x = false) (by omega) q1 (fun i hi hi2 => p5 i q hi hi2 hq hq2) p hp hp2
        have hd3 : PermIn ((a + b) / 2) b d2 (if (a + b) / 2 < (a + b) / 2 + m - s ∧ (a + b) / 2 + m - s < b then symMerge lt f d2 ((a + b) / 2) ((a + b) / 2 + m - s) b else d2) ∧ SortedIn lt ((a + b) / 2) b (if (a + b) / 2 < (a + b) / 2 + m - s ∧ (a + b) / 2 + m - s < b then symMerge lt f d2 ((a + b) / 2) ((a + b) / 2 + m - s) b else d2) := by
          by_cases c : (a + b) / 2 < (a + b) / 2 + m - s ∧ (a + b) / 2 + m - s < b
          · rw [if_pos c]
            exact symMerge_sorts hS f d2 _ _ b (by omega) c.1 c.2 (by omega) p3' p4'
          · rw [if_neg c]
            refine ⟨permIn_refl _ _ _, ?_⟩
            by_cases c' : (a + b) / 2 + m - s ≤ (a + b) / 2
            · exact ssub p4' c' (Nat.le_refl _)
            · exact ssub p3' (Nat.le_refl _) (by omega)
        generalize (if (a + b) / 2 < (a + b) / 2 + m - s ∧ (a + b) / 2 + m - s < b then symMerge lt f d2 ((a + b) / 2) ((a + b) / 2 + m - s) b else d2) = d3 at *
        obtain ⟨r1, r2⟩ := hd3
        refine ⟨permIn_trans _ _ _ a b g2 (permIn_trans _ _ _ a b (permIn_mono _ _ a ((a + b) / 2) a b (Nat.le_refl _) (by omega) (by omega) q1) (permIn_mono _ _ ((a + b) / 2) b a b (by omega) (Nat.le_refl _) (by omega) r1)), ?_⟩
        have hk2 : ∀ t, t < (a + b) / 2 → d3[t]! = d2[t]! := fun t ht => r1.2.1 t (Or.inl ht)
        refine sjoin (ssame q2 (fun t _ h => hk2 t h)) r2 (fun p q hp hp2 hq hq2 => ?_)
        rw [hk2 p hp2]
        exact permIn_all d2 d3 ((a + b) / 2) b (fun x => lt x d2[p]! = false) (by omega) r1 (fun i hi hi2 => p5' p i hp hp2 hi hi2) q hq hq2

theorem symMerge_perm (lt : α → α → Bool) : ∀ (f : Nat) (d : Array α) (a m b : Nat), a < m → m < b → b ≤ d.size → PermIn a b d (symMerge lt f d a m b)
  | 0, d, a, m, b, h1, h2, h3 => permIn_refl _ _ _
  | f + 1, d, a, m, b, h1, h2, h3 => by
    rw [symMerge]
    by_cases c1 : m - a = 1
    · rw [if_pos c1]
      have hb := bs_bound (fun h => lt d[h]! d[a]!) _ m b rfl (by omega)
      obtain ⟨_, _, g3⟩ := up_spec (bs (fun h => lt d[h]! d[a]!) m b - 1 - a) a (bs (fun h => lt d[h]! d[a]!) m b - 1) d rfl (by omega) (by omega)
      exact permIn_mono _ _ a _ a b (Nat.le_refl _) (by omega) h3 g3
    · rw [if_neg c1]
      by_cases c2 : b - m = 1
      · rw [if_pos c2]
        have hb := bs_bound (fun h => !lt d[m]! d[h]!) _ a m rfl (by omega)
        obtain ⟨_, _, g3⟩ := down_spec m (bs (fun h => !lt d[m]! d[h]!) a m) d (by omega) (by omega)
        exact permIn_mono _ _ _ (m + 1) a b (by omega) (by omega) h3 g3
      · rw [if_neg c2]
        obtain ⟨e1, e2⟩ := sAt_bound lt d h1 h2
        obtain ⟨f1, f2, f3, f4, f5, f6, f7⟩ := sEnd_bound h1 h2 e1 e2
        obtain ⟨g1, g2, _⟩ := sRot_get lt d h1 h2 h3
        simp only
        generalize sRot lt d a m b = d1 at *
        generalize sAt lt d a m b = s at *
        have hd2 : PermIn a b d1 (if a < s ∧ s < (a + b) / 2 then symMerge lt f d1 a s ((a + b) / 2) else d1) := by
          by_cases c : a < s ∧ s < (a + b) / 2
          · rw [if_pos c]
            exact permIn_mono _ _ a ((a + b) / 2) a b (Nat.le_refl _) (by omega) (by omega) (symMerge_perm lt f d1 a s ((a + b) / 2) c.1 c.2 (by omega))
          · rw [if_neg c]; exact permIn_refl _ _ _
        generalize (if a < s ∧ s < (a + b) / 2 then symMerge lt f d1 a s ((a + b) / 2) else d1) = d2 at *
        have z2 := hd2.1
        refine permIn_trans _ _ _ a b (permIn_trans _ _ _ a b g2 hd2) ?_
        by_cases c : (a + b) / 2 < (a + b) / 2 + m - s ∧ (a + b) / 2 + m - s < b
        · rw [if_pos c]
          exact permIn_mono _ _ ((a + b) / 2) b a b (by omega) (Nat.le_refl _) (by omega) (symMerge_perm lt f d2 _ _ b c.1 c.2 (by omega))
        · rw [if_neg c]; exact permIn_refl _ _ _

/-- Two orders that answer alike of whatever the merge compares: one merge. -/
def Alike (lt lt' : α → α → Bool) (a m b : Nat) (d : Array α) : Prop := ∀ i j, a ≤ i → i < m → m ≤ j → j < b → lt d[j]! d[i]! = lt' d[j]! d[i]!
theorem symMerge_alike {lt' : α → α → Bool} : ∀ (f : Nat) (d : Array α) (a m b : Nat), a < m → m < b → b ≤ d.size → Alike lt lt' a m b d → symMerge lt f d a m b = symMerge lt' f d a m b
  | 0, d, a, m, b, h1, h2, h3, hL => rfl
  | f + 1, d, a, m, b, h1, h2, h3, hL => by
    rw [symMerge, symMerge]
    by_cases c1 : m - a = 1
    · rw [if_pos c1, if_pos c1]
      rw [bs_congr (b - m) m b rfl (fun x hx hx2 => hL a x (Nat.le_refl _) h1 hx hx2)]
    · rw [if_neg c1, if_neg c1]
      by_cases c2 : b - m = 1
      · rw [if_pos c2, if_pos c2]
        rw [bs_congr (m - a) a m rfl (q := fun h => !lt' d[m]! d[h]!) (fun x hx hx2 => by show (!_) = (!_); rw [hL x m hx hx2 (Nat.le_refl _) h2])]
      · rw [if_neg c2, if_neg c2]
        have e : sAt lt d a m b = sAt lt' d a m b := bs_congr _ _ _ rfl (fun x hx hx2 => by
          obtain ⟨g1, g2, g3, g4⟩ := sPlace h1 h2 hx hx2
          show (!_) = (!_)
          rw [hL x _ g1 g2 g3 g4])
        have e' : sRot lt d a m b = sRot lt' d a m b := by unfold sRot; rw [e]
        obtain ⟨e1, e2⟩ := sAt_bound lt d h1 h2
        obtain ⟨f1, f2, f3, f4, f5, f6, f7⟩ := sEnd_bound h1 h2 e1 e2
        obtain ⟨g1, g2, g⟩ := sRot_get lt d h1 h2 h3
        rw [← e, ← e']
        simp only
        generalize sRot lt d a m b = d1 at *
        generalize sAt lt d a m b = s at *
        have a1 : Alike lt lt' a s ((a + b) / 2) d1 := fun i j hi hi2 hj hj2 => by
          rw [g i, g j, if_pos ⟨hj, hj2⟩, if_neg (by omega), if_neg (by omega)]
          exact hL _ _ hi (by omega) (by omega) (by omega)
        have a2 : Alike lt lt' ((a + b) / 2) ((a + b) / 2 + m - s) b d1 := fun i j hi hi2 hj hj2 => by
          rw [g i, g j, if_neg (show ¬ (s ≤ j ∧ j < (a + b) / 2) by omega), if_neg (show ¬ ((a + b) / 2 ≤ j ∧ j < (a + b) / 2 + m - s) by omega), if_neg (show ¬ (s ≤ i ∧ i < (a + b) / 2) by omega), if_pos ⟨hi, hi2⟩]
          exact hL _ _ (by omega) (by omega) (by omega) hj2
        have hd2 : (if a < s ∧ s < (a + b) / 2 then symMerge lt f d1 a s ((a + b) / 2) else d1) = (if a < s ∧ s < (a + b) / 2 then symMerge lt' f d1 a s ((a + b) / 2) else d1) := by
          by_cases c : a < s ∧ s < (a + b) / 2
          · rw [if_pos c, if_pos c]
            exact symMerge_alike f d1 a s _ c.1 c.2 (by omega) a1
          · rw [if_neg c, if_neg c]
        have hk : (if a < s ∧ s < (a + b) / 2 then symMerge lt f d1 a s ((a + b) / 2) else d1).size = d1.size ∧ ∀ t, (a + b) / 2 ≤ t → (if a < s ∧ s < (a + b) / 2 then symMerge lt f d1 a s ((a + b) / 2) else d1)[t]! = d1[t]! := by
          by_cases c : a < s ∧ s < (a + b) / 2
          · rw [if_pos c]
            have := symMerge_perm lt f d1 a s ((a + b) / 2) c.1 c.2 (by omega)
            exact ⟨this.1, fun t ht => this.2.1 t (Or.inr ht)⟩
          · rw [if_neg c]; exact ⟨rfl, fun _ _ => rfl⟩
        rw [← hd2]
        generalize (if a < s ∧ s < (a + b) / 2 then symMerge lt f d1 a s ((a + b) / 2) else d1) = d2 at *
        by_cases c : (a + b) / 2 < (a + b) / 2 + m - s ∧ (a + b) / 2 + m - s < b
        · rw [if_pos c, if_pos c]
          refine symMerge_alike f d2 _ _ b c.1 c.2 (by omega) (fun i j hi hi2 hj hj2 => ?_)
          rw [hk.2 i hi, hk.2 j (by omega)]
          exact a2 i j hi hi2 hj hj2
        · rw [if_neg c, if_neg c]
end Go.Proofs.Ytjfcbflhnfjcfaa.Z
