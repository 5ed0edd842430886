/- The stable sort of the numbers below n by what they stand for: sorted by it, equals as they came: in plain Lean. -/
import Derived.Test.YtjfcbflhnfjcfaaAtZB
namespace Go.Proofs.Ytjfcbflhnfjcfaa.Z
open Go.Sort
set_option linter.unusedVariables false

/-- .. equals by their place. -/
def ltp (lt : Nat → Nat → Bool) (x y : Nat) : Bool := lt x y || (!lt y x && decide (x < y))
variable {lt : Nat → Nat → Bool}
theorem ltp_swo (hS : SWO lt) : SWO (ltp lt) where
  irrefl x := by simp [ltp, hS.irrefl]
  trans x y z h1 h2 := by
    simp only [ltp, Bool.or_eq_true, Bool.and_eq_true, Bool.not_eq_true', decide_eq_true_eq] at *
    cases hxz : lt x z with
    | true => exact .inl rfl
    | false =>
      right
      rcases h1 with h1 | ⟨h1, h1'⟩ <;> rcases h2 with h2 | ⟨h2, h2'⟩
      · have := hS.trans _ _ _ h1 h2; rw [hxz] at this; cases this
      · have := hS.ntrans _ _ _ hxz h2; rw [h1] at this; cases this
      · have := hS.ntrans _ _ _ h1 hxz; rw [h2] at this; cases this
      · exact ⟨hS.ntrans _ _ _ h2 h1, by omega⟩
  ntrans x y z h1 h2 := by
    simp only [ltp, Bool.or_eq_false_iff, Bool.and_eq_false_iff, Bool.not_eq_false', decide_eq_false_iff_not] at *
    refine ⟨hS.ntrans _ _ _ h1.1 h2.1, ?_⟩
    cases hzx : lt z x with
    | true => exact .inl rfl
    | false =>
      right
      have e1 : lt y x = false := by
        cases c : lt y x with
        | false => rfl
        | true => have := hS.ntrans _ _ _ h2.1 hzx; rw [this] at c; cases c
      have e2 : lt z y = false := by
        cases c : lt z y with
        | false => rfl
        | true => have := hS.ntrans _ _ _ hzx h1.1; rw [this] at c; cases c
      have := h1.2.resolve_left (by rw [e1]; simp)
      have := h2.2.resolve_left (by rw [e2]; simp)
      omega
theorem ltp_tot {x y : Nat} (h1 : ltp lt x y = false) (h2 : ltp lt y x = false) : x = y := by
  simp only [ltp, Bool.or_eq_false_iff, Bool.and_eq_false_iff, Bool.not_eq_false', decide_eq_false_iff_not] at *
  have a := h1.2.resolve_left (by rw [h2.1]; simp)
  have b := h2.2.resolve_left (by rw [h1.1]; simp)
  omega
theorem ltp_late {x y : Nat} (h : y < x) : lt x y = ltp lt x y := by
  unfold ltp
  rw [decide_eq_false (by omega), Bool.and_false, Bool.or_false]

/-! ### Insertion of what came in order -/
theorem insInner_perm {α : Type} [Inhabited α] (lt : α → α → Bool) (a hi : Nat) : ∀ (j : Nat) (d : Array α), a ≤ j → j < hi → hi ≤ d.size → PermIn a hi d (insInner lt a j d)
  | 0, d, _, _, _ => by unfold insInner; exact permIn_refl _ _ _
  | j + 1, d, h1, h2, h3 => by
    unfold insInner
    split
    · rename_i c
      simp only [Bool.and_eq_true, decide_eq_true_eq] at c
      exact permIn_trans _ _ _ a hi (swp_permIn d a hi (j + 1) j (by omega) (by omega) (by omega) (by omega) h3) (insInner_perm lt a hi j _ (by omega) (by omega) (by rw [size_swp]; exact h3))
    · exact permIn_refl _ _ _
theorem insInner_alike {α : Type} [Inhabited α] {lt lt' : α → α → Bool} (a : Nat) : ∀ (j : Nat) (d : Array α), j < d.size → (∀ p, a ≤ p → p < j → lt d[j]! d[p]! = lt' d[j]! d[p]!) → insInner lt a j d = insInner lt' a j d
  | 0, d, _, _ => by unfold insInner; rfl
  | j + 1, d, h3, h => by
    unfold insInner
    by_cases c : j + 1 > a
    · rw [h j (by omega) (by omega)]
      split
      · have g := swp_get d (i := j + 1) (j := j) (by omega) (by omega)
        refine insInner_alike a j _ (by rw [size_swp]; omega) (fun p hp hp2 => ?_)
        rw [g j, g p, if_pos rfl, if_neg (by omega), if_neg (by omega)]
        exact h p hp (by omega)
      · rfl
    · simp [c]
theorem insOuter_alike {α : Type} [Inhabited α] {lt lt' : α → α → Bool} (a b : Nat) (d0 : Array α) (hL : ∀ p q, a ≤ p → p < q → q < b → lt d0[q]! d0[p]! = lt' d0[q]! d0[p]!) (hb : b ≤ d0.size) :
    ∀ (s i : Nat) (d : Array α), b - i = s → a < i → PermIn a i d0 d → i ≤ b → insOuter lt a b i d = insOuter lt' a b i d
  | 0, i, d, hs, hi, hP, hib => by rw [insOuter, if_neg (by omega), insOuter, if_neg (by omega)]
  | s + 1, i, d, hs, hi, hP, hib => by
    rw [insOuter, if_pos (by omega)]
    conv => rhs; rw [insOuter, if_pos (by omega)]
    have hz := hP.1
    have hdi : d[i]! = d0[i]! := hP.2.1 i (Or.inr (Nat.le_refl _))
    have e := insInner_alike (lt := lt) (lt' := lt') a i d (by omega) (fun p hp hp2 => by
      rw [hdi]
      exact permIn_all d0 d a i (fun x => lt d0[i]! x = lt' d0[i]! x) (by omega) hP (fun q hq hq2 => hL q i hq hq2 (by omega)) p hp hp2)
    rw [e]
    exact insOuter_alike a b d0 hL hb s (i + 1) _ (by omega) (by omega) (permIn_trans _ _ _ a (i + 1) (permIn_mono _ _ a i a (i + 1) (Nat.le_refl _) (by omega) (by omega) hP) (insInner_perm lt' a (i + 1) i d (by omega) (by omega) (by omega))) (by omega)
theorem insertion_alike {α : Type} [Inhabited α] {lt lt' : α → α → Bool} {a b : Nat} {d0 : Array α} (hL : ∀ p q, a ≤ p → p < q → q < b → lt d0[q]! d0[p]! = lt' d0[q]! d0[p]!) (hab : a ≤ b) (hb : b ≤ d0.size) : insertionSort lt d0 a b = insertionSort lt' d0 a b := by
  unfold insertionSort
  by_cases c : a + 1 ≤ b
  · exact insOuter_alike a b d0 hL hb _ (a + 1) d0 rfl (by omega) (permIn_refl _ _ _) c
  · rw [insOuter, if_neg (by omega), insOuter, if_neg (by omega)]
/-- A block of numbers as they came: sorted. -/
theorem ins_block (hS : SWO lt) {n a b : Nat} {d : Array Nat} (hz : d.size = n) (hab : a ≤ b) (hb : b ≤ n) (hd : ∀ i, a ≤ i → i < b → d[i]! = i) :
    PermIn a b d (insertionSort lt d a b) ∧ SortedIn (ltp lt) a b (insertionSort lt d a b) := by
  have e := insertion_alike (lt := lt) (lt' := ltp lt) (a := a) (b := b) (d0 := d) (fun p q hp hpq hq => by
    rw [hd p hp (by omega), hd q (by omega) hq]; exact ltp_late hpq) hab (by omega)
  rw [e]
  exact insertionSort_holds (ltp_swo hS) d a b hab (by omega)

/-! ### Blocks -/
/-- From a on the blocks of B are sorted, and hold their own numbers; ahead of a those of A. -/
structure Blk (lt : Nat → Nat → Bool) (n A B at_ : Nat) (d : Array Nat) : Prop where
  size : d.size = n
  perm : PermIn 0 n (Array.range n) d
  old : ∀ a, A ∣ a → a < at_ → a < n → SortedIn (ltp lt) a (min (a + A) n) d ∧ ∀ i, a ≤ i → i < min (a + A) n → a ≤ d[i]! ∧ d[i]! < a + A
  new : ∀ a, B ∣ a → at_ ≤ a → a < n → SortedIn (ltp lt) a (min (a + B) n) d ∧ ∀ i, a ≤ i → i < min (a + B) n → a ≤ d[i]! ∧ d[i]! < a + B
/-- What a turn of [a, b) alone leaves of the blocks that lie elsewhere. -/
theorem part_kept {n a b x y : Nat} {d d' : Array Nat} (hP : PermIn a b d d') (h : SortedIn (ltp lt) x y d ∧ ∀ i, x ≤ i → i < y → x ≤ d[i]! ∧ d[i]! < x + n) (ho : y ≤ a ∨ b ≤ x) :
    SortedIn (ltp lt) x y d' ∧ ∀ i, x ≤ i → i < y → x ≤ d'[i]! ∧ d'[i]! < x + n := by
  have e : ∀ t, x ≤ t → t < y → d'[t]! = d[t]! := fun t h1 h2 => hP.2.1 t (by omega)
  exact ⟨ssame h.1 e, fun i h1 h2 => by rw [e i h1 h2]; exact h.2 i h1 h2⟩
theorem dvd_apart {A a a' : Nat} (h : A ∣ a) (h' : A ∣ a') (hlt : a' < a) : a' + A ≤ a := by
  obtain ⟨k, rfl⟩ := h
  obtain ⟨k', rfl⟩ := h'
  have : k' < k := Nat.lt_of_mul_lt_mul_left hlt
  have : A * (k' + 1) ≤ A * k := Nat.mul_le_mul_left A this
  rw [Nat.mul_add, Nat.mul_one] at this; exact this

/-- The blocks of insertion: ahead of a they are sorted; from a on each number lies where it came. -/
structure Ini (lt : Nat → Nat → Bool) (n B at_ : Nat) (d : Array Nat) : Prop where
  size : d.size = n
  perm : PermIn 0 n (Array.range n) d
  old : ∀ a, B ∣ a → a < at_ → a < n → SortedIn (ltp lt) a (min (a + B) n) d ∧ ∀ i, a ≤ i → i < min (a + B) n → a ≤ d[i]! ∧ d[i]! < a + B
  new : ∀ i, at_ ≤ i → i < n → d[i]! = i
theorem ini_turn (hS : SWO lt) {n B a b : Nat} {d : Array Nat} (hB : 0 < B) (h : Ini lt n B a d) (ha : B ∣ a) (hab : a ≤ b) (hb : b = min (a + B) n) : Ini lt n B b (insertionSort lt d a b) := by
  obtain ⟨p1, p2⟩ := ins_block hS h.size hab (by omega) (fun i h1 h2 => h.new i h1 (by omega))
  generalize insertionSort lt d a b = d' at *
  have hp := permIn_mono _ _ a b 0 n (by omega) (by omega) (by rw [h.size]; omega) p1
  refine ⟨p1.1.trans h.size, permIn_trans _ _ _ 0 n h.perm hp, fun a' h1 h2 h3 => ?_, fun i h1 h2 => ?_⟩
  · by_cases c : a' < a
    · exact part_kept p1 (h.old a' h1 c h3) (by have := dvd_apart ha h1 c; omega)
    · have hc : a' = a := by
        apply Classical.byContradiction
        intro hne
        have := dvd_apart h1 ha (by omega)
        omega
      subst hc
      rw [← hb]
      refine ⟨p2, fun i hi hi2 => ?_⟩
      exact permIn_all d d' a' b (fun x => a' ≤ x ∧ x < a' + B) (by rw [h.size]; omega) p1 (fun q hq hq2 => by rw [h.new q hq (by omega)]; omega) i hi hi2
  · rw [p1.2.1 i (by omega)]; exact h.new i (by omega) h2
theorem stIns_ini (hS : SWO lt) {n B : Nat} (hB : 0 < B) : ∀ (s a : Nat) (d : Array Nat), n - a = s → a ≤ n → B ∣ a → Ini lt n B a d → Ini lt n B n (stIns lt n B a d) := by
  intro s
  induction s using Nat.strongRecOn with
  | _ s ih =>
    intro a d hs han ha h
    rw [stIns]
    by_cases c : 0 < B ∧ a + B ≤ n
    · rw [dif_pos c]
      exact ih (n - (a + B)) (by omega) (a + B) _ rfl c.2 (Nat.dvd_add ha (Nat.dvd_refl B)) (ini_turn hS hB h ha (by omega) (by omega))
    · rw [dif_neg c]
      exact ini_turn hS hB h ha han (by omega)

theorem blk_turn (hS : SWO lt) {n B a b f : Nat} {d : Array Nat} (hB : 0 < B) (h : Blk lt n (2 * B) B a d) (ha : 2 * B ∣ a) (hab : a + B < b) (hb : b = min (a + 2 * B) n) (hf : b - a ≤ f) : Blk lt n (2 * B) B (a + 2 * B) (symMerge lt f d a (a + B) b) := by
  have haB : B ∣ a := Nat.dvd_trans ⟨2, by omega⟩ ha
  have haB2 : B ∣ a + B := Nat.dvd_add haB (Nat.dvd_refl B)
  obtain ⟨s1, r1⟩ := h.new a haB (Nat.le_refl _) (by omega)
  obtain ⟨s2, r2⟩ := h.new (a + B) haB2 (by omega) (by omega)
  rw [show min (a + B) n = a + B by omega] at s1 r1
  rw [show min (a + B + B) n = b by omega] at s2 r2
  have e := symMerge_alike (lt := lt) (lt' := ltp lt) f d a (a + B) b (by omega) hab (by rw [h.size]; omega) (fun i j h1 h2 h3 h4 => by
    have := r1 i h1 h2; have := r2 j h3 h4
    exact ltp_late (by omega))
  rw [e]
  obtain ⟨p1, p2⟩ := symMerge_sorts (ltp_swo hS) f d a (a + B) b hf (by omega) hab (by rw [h.size]; omega) s1 s2
  generalize symMerge (ltp lt) f d a (a + B) b = d' at *
  have hp := permIn_mono _ _ a b 0 n (by omega) (by omega) (by rw [h.size]; omega) p1
  refine ⟨p1.1.trans h.size, permIn_trans _ _ _ 0 n h.perm hp, fun a' h1 h2 h3 => ?_, fun a' h1 h2 h3 => ?_⟩
  · by_cases c : a' < a
    · exact part_kept p1 (h.old a' h1 c h3) (by have := dvd_apart ha h1 c; omega)
    · have hc : a' = a := by
        apply Classical.byContradiction
        intro hne
        have := dvd_apart h1 ha (by omega)
        omega
      subst hc
      rw [← hb]
      refine ⟨p2, fun i hi hi2 => ?_⟩
      refine permIn_all d d' a' b (fun x => a' ≤ x ∧ x < a' + 2 * B) (by rw [h.size]; omega) p1 (fun q hq hq2 => ?_) i hi hi2
      by_cases cq : q < a' + B
      · have := r1 q hq cq; omega
      · have := r2 q (by omega) hq2; omega
  · exact part_kept p1 (h.new a' h1 (by omega) h3) (by omega)
theorem stPass_blk (hS : SWO lt) {n B : Nat} (hB : 0 < B) : ∀ (s a : Nat) (d : Array Nat), n - a = s → a ≤ n → 2 * B ∣ a → Blk lt n (2 * B) B a d → Blk lt n (2 * B) B n (stPass lt n B a d) := by
  intro s
  induction s using Nat.strongRecOn with
  | _ s ih =>
    intro a d hs han ha h
    rw [stPass]
    by_cases c : 0 < B ∧ a + 2 * B ≤ n
    · rw [dif_pos c]
      exact ih (n - (a + 2 * B)) (by omega) (a + 2 * B) _ rfl c.2 (Nat.dvd_add ha (Nat.dvd_refl _)) (blk_turn hS hB h ha (by omega) (by omega) (by omega))
    · rw [dif_neg c]
      by_cases c2 : a + B < n
      · rw [if_pos c2]
        have h1 := blk_turn hS (b := n) (f := n - a) hB h ha c2 (by omega) (by omega)
        exact ⟨h1.size, h1.perm, fun a' h2 h3 h4 => h1.old a' h2 (by omega) h4, fun a' h2 h3 h4 => by omega⟩
      · rw [if_neg c2]
        refine ⟨h.size, h.perm, fun a' h2 h3 h4 => ?_, fun a' h2 h3 h4 => by omega⟩
        by_cases c3 : a' < a
        · exact h.old a' h2 c3 h4
        · have hc : a' = a := by
            apply Classical.byContradiction
            intro hne
            have := dvd_apart h2 ha (by omega)
            omega
          subst hc
          have hn := h.new a' (Nat.dvd_trans ⟨2, by omega⟩ ha) (Nat.le_refl _) h4
          rw [show min (a' + B) n = n by omega] at hn
          rw [show min (a' + 2 * B) n = n by omega]
          exact ⟨hn.1, fun i hi hi2 => by have := hn.2 i hi hi2; omega⟩
theorem stLoop_blk (hS : SWO lt) {n : Nat} : ∀ (s B : Nat) (d : Array Nat), n - B = s → 0 < B → Blk lt n B B n d → PermIn 0 n (Array.range n) (stLoop lt n B d) ∧ SortedIn (ltp lt) 0 n (stLoop lt n B d) := by
  intro s
  induction s using Nat.strongRecOn with
  | _ s ih =>
    intro B d hs hB h
    rw [stLoop]
    by_cases c : 0 < B ∧ B < n
    · rw [dif_pos c]
      have h1 := stPass_blk hS hB (n - 0) 0 d rfl (Nat.zero_le _) ⟨0, by omega⟩ ⟨h.size, h.perm, fun a _ h2 _ => by omega, fun a h2 _ h3 => h.old a h2 h3 h3⟩
      rw [Nat.mul_comm 2 B] at h1
      exact ih (n - B * 2) (by omega) (B * 2) _ rfl (by omega) ⟨h1.size, h1.perm, h1.old, fun a _ h2 h3 => by omega⟩
    · rw [dif_neg c]
      refine ⟨h.perm, ?_⟩
      by_cases hn : n = 0
      · subst hn; exact fun i j h1 h2 h3 => by omega
      · have := (h.old 0 ⟨0, by omega⟩ (by omega) (by omega)).1
        rw [show min (0 + B) n = n by omega] at this
        exact this

/-- THE STABLE SORT: the numbers below n, sorted by what they stand for, equals as they came. -/
theorem stable_sorts (hS : SWO lt) (n : Nat) : PermIn 0 n (Array.range n) (stable lt (Array.range n)) ∧ SortedIn (ltp lt) 0 n (stable lt (Array.range n)) := by
  unfold stable
  rw [Array.size_range]
  have h0 : Ini lt n 20 0 (Array.range n) := ⟨Array.size_range, permIn_refl _ _ _, fun a _ h _ => by omega, fun i _ h => by simp [h]⟩
  have h1 := stIns_ini hS (by omega) (n - 0) 0 _ rfl (Nat.zero_le _) ⟨0, by omega⟩ h0
  exact stLoop_blk hS (n - 20) 20 _ rfl (by omega) ⟨h1.size, h1.perm, h1.old, fun a _ h2 h3 => by omega⟩
/-- .. there is one such. -/
theorem stable_is (hS : SWO lt) (n : Nat) : (stable lt (Array.range n)).toList = (List.range n).mergeSort (fun x y => !ltp lt y x) := by
  obtain ⟨h1, h2⟩ := stable_sorts hS n
  have := sorted_unique_holds (ltp_swo hS) (fun x y => ltp_tot) (Array.range n) (stable lt (Array.range n)) (by rw [Array.size_range]; exact h1) (by rw [Array.size_range]; exact h2)
  rw [this, Array.toList_range]
theorem sorted_is (hS : SWO lt) (n : Nat) (l : List Nat) (hp : l.Perm (List.range n)) (hs : l.Pairwise (fun x y => ltp lt y x = false)) : l = (List.range n).mergeSort (fun x y => !ltp lt y x) := by
  have hl : l.length = n := by rw [hp.length_eq, List.length_range]
  have h1 : PermIn 0 n (Array.range n) l.toArray := ⟨by simp [hl], fun i hi => by
    rcases hi with hi | hi
    · omega
    · rw [getElem!_neg _ i (by simp; omega), getElem!_neg _ i (by simp; omega)], by
    rw [show l.toArray.extract 0 n = l.toArray by (rw [← hl]; simp), show (Array.range n).extract 0 n = Array.range n by (apply Array.ext <;> simp)]
    simpa using hp⟩
  have h2 : SortedIn (ltp lt) 0 n l.toArray := fun i j _ hij hj => by
    rw [getElem!_pos _ i (by simp; omega), getElem!_pos _ j (by simp; omega)]
    exact List.pairwise_iff_getElem.1 hs i j (by omega) (by omega) hij
  have := sorted_unique_holds (ltp_swo hS) (fun x y => ltp_tot) (Array.range n) l.toArray (by rw [Array.size_range]; exact h1) (by rw [Array.size_range]; exact h2)
  rw [Array.toList_range] at this
  exact this
end Go.Proofs.Ytjfcbflhnfjcfaa.Z
