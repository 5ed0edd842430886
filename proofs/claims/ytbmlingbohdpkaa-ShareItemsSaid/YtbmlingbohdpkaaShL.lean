/- The plain laws of share: an amount in parts, what is left given to the greatest rests. -/
import Derived.Test.YtbmlingbohdpkaaProg
namespace Go.Proofs.Ytbmlingbohdpkaa.H

/-- The first greatest of the first n. -/
def bst (f : Nat → Int) : Nat → Nat
  | 0 => 0
  | n + 1 => if f (bst f n) < f n then n else bst f n
def upd (f : Nat → Int) (b : Nat) (v : Int) : Nat → Int := fun i => if i = b then v else f i
theorem upd_same (f : Nat → Int) (b : Nat) (v : Int) : upd f b v b = v := if_pos rfl
theorem upd_other (f : Nat → Int) {b i : Nat} (v : Int) (h : i ≠ b) : upd f b v i = f i := if_neg h
/-- What is left, cent by cent, to the first greatest rest, which becomes e. -/
def give (e : Int) (n : Nat) : Nat → (Nat → Int) → (Nat → Int) → (Nat → Int)
  | 0, o, _ => o
  | k + 1, o, r => give e n k (upd o (bst r n) (o (bst r n) + 1)) (upd r (bst r n) e)
def sm (f : Nat → Int) : Nat → Int
  | 0 => 0
  | n + 1 => sm f n + f n

theorem Int.lt_or_le' (a b : Int) : a < b ∨ b ≤ a := by omega
theorem bst_lt (f : Nat → Int) : ∀ n, 0 < n → bst f n < n
  | 0, h => absurd h (by omega)
  | n + 1, _ => by
    unfold bst
    split
    · omega
    · rcases Nat.eq_zero_or_pos n with rfl | h
      · exact Nat.zero_lt_one
      · have := bst_lt f n h; omega
theorem bst_max (f : Nat → Int) : ∀ n i, i < n → f i ≤ f (bst f n)
  | 0, i, h => absurd h (by omega)
  | n + 1, i, h => by
    unfold bst
    rcases Nat.lt_or_ge i n with c | c
    · have := bst_max f n i c
      split <;> omega
    · obtain rfl : i = n := by omega
      split <;> omega
theorem bst_first (f : Nat → Int) : ∀ n i, i < bst f n → f i < f (bst f n)
  | 0, i, h => absurd h (by unfold bst; omega)
  | n + 1, i, h => by
    unfold bst at h ⊢
    by_cases c : f (bst f n) < f n
    · rw [if_pos c] at h ⊢
      have := bst_max f n i h
      omega
    · rw [if_neg c] at h ⊢
      exact bst_first f n i h
theorem bst_uniq {f : Nat → Int} {n b : Nat} (h : b < n) (hm : ∀ i, i < n → f i ≤ f b) (hf : ∀ i, i < b → f i < f b) : bst f n = b := by
  have h1 := bst_lt f n (by omega)
  have h2 := bst_max f n b h
  have h3 := hm _ h1
  rcases Nat.lt_trichotomy (bst f n) b with c | c | c
  · have := hf _ c; omega
  · exact c
  · have := bst_first f n b c; omega

theorem sm_upd (f : Nat → Int) (b : Nat) (v : Int) : ∀ n, sm (upd f b v) n = if b < n then sm f n + (v - f b) else sm f n
  | 0 => by simp [sm]
  | n + 1 => by
    unfold sm
    rw [sm_upd f b v n]
    unfold upd
    rcases Nat.lt_trichotomy b n with c | c | c
    · rw [if_pos c, if_pos (show b < n + 1 by omega), if_neg (show ¬ n = b by omega)]; omega
    · subst c; rw [if_neg (show ¬ b < b by omega), if_pos (show b < b + 1 by omega), if_pos rfl]; omega
    · rw [if_neg (show ¬ b < n by omega), if_neg (show ¬ b < n + 1 by omega), if_neg (show ¬ n = b by omega)]
theorem sm_nonneg {f : Nat → Int} : ∀ n, (∀ i, i < n → 0 ≤ f i) → 0 ≤ sm f n
  | 0, _ => by simp [sm]
  | n + 1, h => by
    have h1 := sm_nonneg n fun i hi => h i (by omega)
    have h2 := h n (by omega)
    unfold sm; omega
theorem sm_le {f : Nat → Int} : ∀ n, (∀ i, i < n → 0 ≤ f i) → ∀ i, i < n → f i ≤ sm f n
  | 0, _, i, hi => absurd hi (by omega)
  | n + 1, h, i, hi => by
    have h1 := sm_nonneg n fun i hi => h i (by omega)
    have h2 := h n (by omega)
    unfold sm
    rcases Nat.lt_or_ge i n with c | c
    · have := sm_le n (fun i hi => h i (by omega)) i c; omega
    · obtain rfl : i = n := by omega
      omega
theorem sm_zero {f : Nat → Int} : ∀ n, (∀ i, i < n → f i ≤ 0) → sm f n ≤ 0
  | 0, _ => by simp [sm]
  | n + 1, h => by
    have h1 := sm_zero n fun i hi => h i (by omega)
    have h2 := h n (by omega)
    unfold sm; omega
theorem sm_congr {f g : Nat → Int} : ∀ n, (∀ i, i < n → f i = g i) → sm f n = sm g n
  | 0, _ => rfl
  | n + 1, h => by
    unfold sm
    rw [sm_congr n fun i hi => h i (by omega), h n (by omega)]
theorem sm_mul (a : Int) (f : Nat → Int) : ∀ n, sm (fun i => a * f i) n = a * sm f n
  | 0 => by simp [sm]
  | n + 1 => by
    unfold sm
    rw [sm_mul a f n, Int.mul_add]
theorem sm_add (f g : Nat → Int) : ∀ n, sm (fun i => f i + g i) n = sm f n + sm g n
  | 0 => by simp [sm]
  | n + 1 => by
    unfold sm
    rw [sm_add f g n]; omega
theorem sm_upto (f : Nat → Int) {m n : Nat} (h : m ≤ n) (h0 : ∀ i, i < n → 0 ≤ f i) : sm f m ≤ sm f n := by
  induction n with
  | zero => obtain rfl : m = 0 := by omega
            exact Int.le_refl _
  | succ n ih =>
    rcases Nat.lt_or_ge m (n + 1) with c | c
    · have h1 := ih (by omega) fun i hi => h0 i (by omega)
      have h2 := h0 n (by omega)
      show sm f m ≤ sm f n + f n
      omega
    · obtain rfl : m = n + 1 := by omega
      exact Int.le_refl _

/-- Where something is left, the greatest rest is above 0. -/
theorem best_pos {r : Nat → Int} {n k : Nat} {A : Int} (hA : 0 < A) (h : ((k + 1 : Nat) : Int) * A ≤ sm r n) : 0 < n ∧ 0 < r (bst r n) := by
  have h1 : 0 < sm r n := by
    have : 0 < ((k + 1 : Nat) : Int) * A := Int.mul_pos (by omega) hA
    omega
  refine ⟨?_, ?_⟩
  · rcases Nat.eq_zero_or_pos n with rfl | c
    · simp [sm] at h1
    · exact c
  · rcases Go.Proofs.Ytbmlingbohdpkaa.H.Int.lt_or_le' 0 (r (bst r n)) with c | c
    · exact c
    · have := sm_zero n fun i hi => Int.le_trans (bst_max r n i hi) c
      omega
theorem step_sum {r : Nat → Int} {n k : Nat} {A : Int} (hA : 0 < A) (hr : ∀ i, i < n → 0 ≤ r i ∧ r i < A) (h : ((k + 1 : Nat) : Int) * A ≤ sm r n) :
    (∀ i, i < n → 0 ≤ upd r (bst r n) 0 i ∧ upd r (bst r n) 0 i < A) ∧ ((k : Nat) : Int) * A ≤ sm (upd r (bst r n) 0) n := by
  obtain ⟨h0, h1⟩ := best_pos hA h
  have hb := bst_lt r n h0
  refine ⟨fun i hi => ?_, ?_⟩
  · unfold upd; split
    · omega
    · exact hr i hi
  · rw [sm_upd, if_pos hb]
    have := hr _ hb
    have e : ((k + 1 : Nat) : Int) * A = (k : Int) * A + A := by rw [Int.natCast_succ, Int.add_mul, Int.one_mul]
    omega
/-- What is given: to whom, and how much in all. -/
theorem give_law {n : Nat} {A : Int} (hA : 0 < A) : ∀ (k : Nat) (o r : Nat → Int), (∀ i, i < n → 0 ≤ r i ∧ r i < A) → (k : Int) * A ≤ sm r n →
    ∃ C : Nat → Bool, (∀ i, give 0 n k o r i = o i + if C i then 1 else 0) ∧ (∀ i, C i = true → i < n ∧ 0 < r i) ∧ (∀ i j, i < n → j < n → C i = true → C j = false → r j ≤ r i) ∧ sm (give 0 n k o r) n = sm o n + k
  | 0, o, r, _, _ => ⟨fun _ => false, fun i => by simp [give], fun i h => by simp at h, fun i j _ _ h => by simp at h, by simp [give]⟩
  | k + 1, o, r, hr, h => by
    obtain ⟨h0, h1⟩ := best_pos hA h
    have hb := bst_lt r n h0
    obtain ⟨hr2, h2⟩ := step_sum hA hr h
    obtain ⟨C, c1, c2, c3, c4⟩ := give_law hA k (upd o (bst r n) (o (bst r n) + 1)) (upd r (bst r n) 0) hr2 h2
    have cb : C (bst r n) = false := by
      rcases hc : C (bst r n) with _ | _
      · rfl
      · have := (c2 _ hc).2
        rw [upd_same] at this
        omega
    refine ⟨fun i => if i = bst r n then true else C i, fun i => ?_, fun i hi => ?_, fun i j hi hj hci hcj => ?_, ?_⟩
    · show give 0 n k _ _ i = _
      rw [c1 i]
      by_cases e : i = bst r n
      · subst e; rw [upd_same, cb]; simp
      · rw [upd_other _ _ e]; simp [e]
    · by_cases e : i = bst r n
      · subst e; exact ⟨hb, h1⟩
      · simp only [e, if_false] at hi
        have := c2 i hi
        rw [upd_other _ _ e] at this
        exact this
    · have ej : j ≠ bst r n := by
        intro e
        simp [e] at hcj
      simp only [ej, if_false] at hcj
      by_cases e : i = bst r n
      · subst e; exact bst_max r n j hj
      · simp only [e, if_false] at hci
        have := c3 i j hi hj hci hcj
        rw [upd_other _ _ e, upd_other _ _ ej] at this
        exact this
    · show sm (give 0 n k _ _) n = _
      rw [c4, sm_upd, if_pos hb]
      omega
/-- What becomes -1 in place of 0 is given the same. -/
theorem give_ref {n : Nat} {A : Int} (hA : 0 < A) : ∀ (k : Nat) (o r r2 : Nat → Int), (∀ i, i < n → 0 ≤ r i ∧ r i < A) → (k : Int) * A ≤ sm r n → (∀ i, i < n → r2 i = r i ∨ (r i = 0 ∧ r2 i = -1)) →
    give (-1) n k o r2 = give 0 n k o r
  | 0, _, _, _, _, _, _ => rfl
  | k + 1, o, r, r2, hr, h, h12 => by
    obtain ⟨h0, h1⟩ := best_pos hA h
    have hb := bst_lt r n h0
    obtain ⟨hr2, h2⟩ := step_sum hA hr h
    have e : r2 (bst r n) = r (bst r n) := by rcases h12 _ hb with c | c <;> omega
    have hb2 : bst r2 n = bst r n := by
      refine bst_uniq hb (fun i hi => ?_) fun i hi => ?_
      · have := bst_max r n i hi
        rcases h12 i hi with c | c <;> omega
      · have := bst_first r n i hi
        rcases h12 i (by omega) with c | c <;> omega
    show give (-1) n k (upd o (bst r2 n) (o (bst r2 n) + 1)) (upd r2 (bst r2 n) (-1)) = give 0 n k (upd o (bst r n) (o (bst r n) + 1)) (upd r (bst r n) 0)
    rw [hb2]
    refine give_ref hA k _ _ _ hr2 h2 fun i hi => ?_
    unfold upd
    split
    · exact .inr ⟨rfl, rfl⟩
    · exact h12 i hi
/-- Rests that are all so many times as great are given the same. -/
theorem give_times {n : Nat} {c : Int} (hc : 0 < c) : ∀ (k : Nat) (o r : Nat → Int), give 0 n k o (fun i => c * r i) = give 0 n k o r
  | 0, _, _ => rfl
  | k + 1, o, r => by
    have hb : ∀ m, bst (fun i => c * r i) m = bst r m := by
      intro m
      induction m with
      | zero => rfl
      | succ m ih =>
        unfold bst
        rw [ih]
        have e : (c * r (bst r m) < c * r m) = (r (bst r m) < r m) := propext ⟨fun h => Int.lt_of_mul_lt_mul_left h (by omega), fun h => Int.mul_lt_mul_of_pos_left h hc⟩
        simp only [e]
    show give 0 n k (upd o (bst _ n) (o (bst _ n) + 1)) (upd _ (bst _ n) 0) = _
    rw [hb n]
    have e : upd (fun i => c * r i) (bst r n) 0 = fun i => c * upd r (bst r n) 0 i := by
      funext i
      unfold upd
      split <;> simp
    rw [e]
    exact give_times hc k _ _

/-- The parts of an amount from 0 on. -/
def qq (a A : Int) (w : Nat → Int) : Nat → Int := fun i => a * w i / A
def rr (a A : Int) (w : Nat → Int) : Nat → Int := fun i => a * w i % A
def parts (a : Int) (w : Nat → Int) (n : Nat) : Nat → Int := give 0 n (a - sm (qq a (sm w n) w) n).toNat (qq a (sm w n) w) (rr a (sm w n) w)

theorem left_law {a : Int} {w : Nat → Int} {n : Nat} (ha : 0 ≤ a) (hw : ∀ i, i < n → 0 ≤ w i) (hA : 0 < sm w n) :
    (∀ i, i < n → 0 ≤ qq a (sm w n) w i) ∧ (∀ i, i < n → 0 ≤ rr a (sm w n) w i ∧ rr a (sm w n) w i < sm w n) ∧ (a - sm (qq a (sm w n) w) n) * sm w n = sm (rr a (sm w n) w) n ∧ sm (qq a (sm w n) w) n ≤ a := by
  have h1 : ∀ i, i < n → 0 ≤ qq a (sm w n) w i := fun i hi => Int.ediv_nonneg (Int.mul_nonneg ha (hw i hi)) (by omega)
  have h2 : ∀ i, i < n → 0 ≤ rr a (sm w n) w i ∧ rr a (sm w n) w i < sm w n := fun i hi => ⟨Int.emod_nonneg _ (by omega), Int.emod_lt_of_pos _ hA⟩
  have h3 : (a - sm (qq a (sm w n) w) n) * sm w n = sm (rr a (sm w n) w) n := by
    have e1 : sm (fun i => a * w i) n = a * sm w n := sm_mul a w n
    have e2 : sm (fun i => sm w n * qq a (sm w n) w i) n = sm w n * sm (qq a (sm w n) w) n := sm_mul _ _ n
    have e3 : sm (fun i => a * w i) n = sm (fun i => sm w n * qq a (sm w n) w i + rr a (sm w n) w i) n := sm_congr n fun i _ => (Int.mul_ediv_add_emod (a * w i) (sm w n)).symm
    rw [sm_add, e1, e2] at e3
    rw [Int.sub_mul, e3, Int.mul_comm (sm (qq a (sm w n) w) n)]
    omega
  refine ⟨h1, h2, h3, ?_⟩
  have h4 := sm_nonneg n fun i hi => (h2 i hi).1
  rw [← h3] at h4
  have := Int.nonneg_of_mul_nonneg_left h4 hA
  omega

/-- What the parts are. -/
theorem parts_law {a : Int} {w : Nat → Int} {n : Nat} (ha : 0 ≤ a) (hw : ∀ i, i < n → 0 ≤ w i) (hA : 0 < sm w n) :
    sm (parts a w n) n = a ∧ (∀ i, i < n → 0 ≤ parts a w n i ∧ parts a w n i ≤ a ∧ (w i = 0 → parts a w n i = 0) ∧ -(sm w n) < parts a w n i * sm w n - a * w i ∧ parts a w n i * sm w n - a * w i < sm w n) ∧
      ∀ i k, i < n → k < n → w i < w k → parts a w n i ≤ parts a w n k := by
  obtain ⟨h1, h2, h3, h4⟩ := left_law ha hw hA
  have hk : (((a - sm (qq a (sm w n) w) n).toNat : Nat) : Int) = a - sm (qq a (sm w n) w) n := Int.toNat_of_nonneg (by omega)
  obtain ⟨C, c1, c2, c3, c4⟩ := give_law hA (a - sm (qq a (sm w n) w) n).toNat (qq a (sm w n) w) (rr a (sm w n) w) h2 (by rw [hk, h3]; exact Int.le_refl _)
  have hs : sm (parts a w n) n = a := by
    show sm (give 0 n _ _ _) n = a
    rw [c4, hk]; omega
  have hp : ∀ i, i < n → 0 ≤ parts a w n i := fun i hi => by
    show 0 ≤ give 0 n _ _ _ i
    rw [c1 i]
    have := h1 i hi
    split <;> omega
  refine ⟨hs, fun i hi => ⟨hp i hi, ?_, fun hz => ?_, ?_⟩, fun i k hi hk' hlt => ?_⟩
  · have := sm_le n hp i hi; omega
  · show give 0 n _ _ _ i = 0
    have e1 : qq a (sm w n) w i = 0 := by show a * w i / sm w n = 0; rw [hz, Int.mul_zero, Int.zero_ediv]
    have e2 : rr a (sm w n) w i = 0 := by show a * w i % sm w n = 0; rw [hz, Int.mul_zero, Int.zero_emod]
    rw [c1 i, e1]
    by_cases cc : C i = true
    · have := (c2 i cc).2; omega
    · simp [cc]
  · have e : sm w n * qq a (sm w n) w i + rr a (sm w n) w i = a * w i := Int.mul_ediv_add_emod (a * w i) (sm w n)
    have e2 : parts a w n i = qq a (sm w n) w i + if C i then 1 else 0 := c1 i
    have e3 := h2 i hi
    rw [e2, Int.add_mul, Int.mul_comm (qq a (sm w n) w i), ← e]
    by_cases cc : C i = true
    · have := (c2 i cc).2
      rw [if_pos cc]; omega
    · rw [if_neg cc]; omega
  · have e1 : parts a w n i = qq a (sm w n) w i + if C i then 1 else 0 := c1 i
    have e2 : parts a w n k = qq a (sm w n) w k + if C k then 1 else 0 := c1 k
    have hq : qq a (sm w n) w i ≤ qq a (sm w n) w k := Int.ediv_le_ediv hA (Int.mul_le_mul_of_nonneg_left (by omega) ha)
    rw [e1, e2]
    by_cases ci : C i = true
    · by_cases ck : C k = true
      · rw [if_pos ci, if_pos ck]; omega
      · rw [if_pos ci, if_neg ck]
        rcases Go.Proofs.Ytbmlingbohdpkaa.H.Int.lt_or_le' (qq a (sm w n) w i) (qq a (sm w n) w k) with c | c
        · omega
        · exfalso
          have hr := c3 i k hi hk' ci (by simpa using ck)
          have hp := (c2 i ci).2
          have g1 : sm w n * qq a (sm w n) w i + rr a (sm w n) w i = a * w i := Int.mul_ediv_add_emod (a * w i) (sm w n)
          have g2 : sm w n * qq a (sm w n) w k + rr a (sm w n) w k = a * w k := Int.mul_ediv_add_emod (a * w k) (sm w n)
          have g3 : qq a (sm w n) w i = qq a (sm w n) w k := by omega
          rw [g3] at g1
          have ha' : 0 < a := by
            rcases Go.Proofs.Ytbmlingbohdpkaa.H.Int.lt_or_le' 0 a with c | c
            · exact c
            · obtain rfl : a = 0 := by omega
              have : rr 0 (sm w n) w i = 0 := by show 0 * w i % sm w n = 0; rw [Int.zero_mul, Int.zero_emod]
              omega
          have g4 := Int.mul_lt_mul_of_pos_left hlt ha'
          omega
    · rw [if_neg ci]; split <;> omega
end Go.Proofs.Ytbmlingbohdpkaa.H
