/- The plain laws of the week: whether a pattern is right, what is worked on a day, and in a span. -/
namespace Go.Proofs.YtjpjeimpmfoldaaDoor.WL

/-- A day's weekday. -/
def wd (d : Int) : Nat := ((d + 25567) % 7).toNat
theorem wd_lt (d : Int) : wd d < 7 := by unfold wd; omega
theorem wd_shift (d : Int) : wd (d + 7) = wd d := by unfold wd; omega

/-- Minutes that may be. -/
def ok (k : Nat → Int) : Prop := (0 ≤ k 0 ∧ k 0 ≤ 1440) ∧ (0 ≤ k 1 ∧ k 1 ≤ 1440) ∧ (0 ≤ k 2 ∧ k 2 ≤ 1440) ∧ (0 ≤ k 3 ∧ k 3 ≤ 1440) ∧ (0 ≤ k 4 ∧ k 4 ≤ 1440) ∧ (0 ≤ k 5 ∧ k 5 ≤ 1440) ∧ (0 ≤ k 6 ∧ k 6 ≤ 1440)
instance (k : Nat → Int) : Decidable (ok k) := by unfold ok; infer_instance
theorem ok_at {k : Nat → Int} (h : ok k) (i : Nat) (hi : i < 7) : 0 ≤ k i ∧ k i ≤ 1440 := by
  obtain ⟨h0, h1, h2, h3, h4, h5, h6⟩ := h
  rcases (by omega : i = 0 ∨ i = 1 ∨ i = 2 ∨ i = 3 ∨ i = 4 ∨ i = 5 ∨ i = 6) with rfl | rfl | rfl | rfl | rfl | rfl | rfl <;> assumption
theorem ok_wd {k : Nat → Int} (h : ok k) (d : Int) : 0 ≤ k (wd d) ∧ k (wd d) ≤ 1440 := ok_at h _ (wd_lt d)

/-- Does a day not rise above the one ahead? -/
def notAbove : Option Int → Int → Bool
  | none, _ => false
  | some q, d => decide (d ≤ q)
/-- The free days, from one of them on: an error's number. -/
def chkL : Option Int → List Int → Int
  | _, [] => 0
  | p, d :: r => if d < -25567 ∨ 84005 < d then 15 else if notAbove p d = true then 8 else chkL (some d) r
def chk (k : Nat → Int) (xs : List Int) : Int := if ok k then (if 4096 < xs.length then 5 else chkL none xs) else 2

theorem chkL_zero : ∀ (xs : List Int) (p : Option Int), chkL p xs = 0 → (∀ x ∈ xs, -25567 ≤ x ∧ x ≤ 84005) ∧ xs.Pairwise (· < ·) ∧ ∀ q, p = some q → ∀ x ∈ xs, q < x
  | [], _, _ => ⟨by simp, List.Pairwise.nil, by simp⟩
  | d :: r, p, h => by
    unfold chkL at h
    by_cases c : d < -25567 ∨ 84005 < d
    · rw [if_pos c] at h; omega
    rw [if_neg c] at h
    by_cases e : notAbove p d = true
    · rw [if_pos e] at h; omega
    rw [if_neg e] at h
    obtain ⟨h1, h2, h3⟩ := chkL_zero r (some d) h
    refine ⟨?_, List.Pairwise.cons (h3 d rfl) h2, ?_⟩
    · intro x hx
      rcases List.mem_cons.1 hx with rfl | hx
      · omega
      · exact h1 x hx
    · intro q hq x hx
      subst hq
      have hd : q < d := by
        have : ¬ d ≤ q := fun hh => e (by simp [notAbove, hh])
        omega
      rcases List.mem_cons.1 hx with rfl | hx
      · exact hd
      · have := h3 d rfl x hx; omega
theorem chk_zero {k : Nat → Int} {xs : List Int} (h : chk k xs = 0) : ok k ∧ xs.length ≤ 4096 ∧ (∀ x ∈ xs, -25567 ≤ x ∧ x ≤ 84005) ∧ xs.Pairwise (· < ·) := by
  unfold chk at h
  by_cases c : ok k
  · rw [if_pos c] at h
    by_cases e : 4096 < xs.length
    · rw [if_pos e] at h; omega
    rw [if_neg e] at h
    obtain ⟨h1, h2, _⟩ := chkL_zero xs none h
    exact ⟨c, by omega, h1, h2⟩
  · rw [if_neg c] at h; omega
theorem chkL_app : ∀ (xs : List Int) (p : Option Int) (d : Int), chkL p xs = 0 → -25567 ≤ d ∧ d ≤ 84005 → (∀ q, p = some q → q < d) → (∀ x ∈ xs, x < d) → chkL p (xs ++ [d]) = 0
  | [], p, d, _, hd, hp, _ => by
    show chkL p [d] = 0
    unfold chkL
    rw [if_neg (by omega)]
    have : notAbove p d = false := by
      cases p with
      | none => rfl
      | some q => have := hp q rfl; simp [notAbove]; omega
    rw [this, if_neg (by decide)]
    rfl
  | x :: r, p, d, h, hd, hp, hx => by
    show chkL p (x :: (r ++ [d])) = 0
    unfold chkL at h ⊢
    by_cases c : x < -25567 ∨ 84005 < x
    · rw [if_pos c] at h; omega
    rw [if_neg c] at h ⊢
    by_cases e : notAbove p x = true
    · rw [if_pos e] at h; omega
    rw [if_neg e] at h ⊢
    refine chkL_app r (some x) d h hd ?_ (fun y hy => hx y (List.mem_cons_of_mem _ hy))
    intro q hq
    injection hq with hq
    subst hq
    exact hx _ (List.mem_cons_self ..)

/-- What is summed over so many days from a day on. -/
def sumTo (f : Int → Int) (a : Int) : Nat → Int
  | 0 => 0
  | n + 1 => sumTo f a n + f (a + n)
theorem sumTo_congr {f g : Int → Int} {a : Int} : ∀ {n : Nat}, (∀ j : Nat, j < n → f (a + j) = g (a + j)) → sumTo f a n = sumTo g a n
  | 0, _ => rfl
  | n + 1, h => by
    rw [sumTo, sumTo, sumTo_congr (fun j hj => h j (by omega)), h n (by omega)]
theorem sumTo_zero {f : Int → Int} {a : Int} {n : Nat} (h : ∀ j : Nat, j < n → f (a + j) = 0) : sumTo f a n = 0 := by
  have e : sumTo f a n = sumTo (fun _ => 0) a n := sumTo_congr h
  rw [e]
  clear h e
  induction n with
  | zero => rfl
  | succ n ih => rw [sumTo, ih]; rfl
theorem sumTo_split (f : Int → Int) (a : Int) (m : Nat) : ∀ n : Nat, sumTo f a (m + n) = sumTo f a m + sumTo f (a + m) n
  | 0 => by simp [sumTo]
  | n + 1 => by
    rw [← Nat.add_assoc, sumTo, sumTo, sumTo_split f a m n, show a + ((m + n : Nat) : Int) = a + m + n by omega]
    omega
theorem sumTo_sub (f g : Int → Int) (a : Int) : ∀ n : Nat, sumTo (fun d => f d - g d) a n = sumTo f a n - sumTo g a n
  | 0 => rfl
  | n + 1 => by rw [sumTo, sumTo, sumTo, sumTo_sub f g a n]; omega
theorem sumTo_bd {f : Int → Int} {c : Int} (a : Int) (h : ∀ d, 0 ≤ f d ∧ f d ≤ c) : ∀ n : Nat, 0 ≤ sumTo f a n ∧ sumTo f a n ≤ c * n
  | 0 => by simp [sumTo]
  | n + 1 => by
    have h1 := sumTo_bd a h n
    have h2 := h (a + n)
    have h3 : c * ((n + 1 : Nat) : Int) = c * (n : Int) + c := by rw [show ((n + 1 : Nat) : Int) = (n : Int) + 1 by omega, Int.mul_add, Int.mul_one]
    rw [sumTo, h3]
    omega
/-- One day alone. -/
theorem sumTo_one (f : Int → Int) (x a : Int) : ∀ n : Nat, sumTo (fun d => if d = x then f d else 0) a n = if a ≤ x ∧ x < a + n then f x else 0
  | 0 => by rw [if_neg (by omega)]; rfl
  | n + 1 => by
    rw [sumTo, sumTo_one f x a n]
    by_cases c : a + (n : Int) = x
    · rw [if_neg (by omega), if_pos c, if_pos (by omega), c]; omega
    · rw [if_neg c]
      by_cases e : a ≤ x ∧ x < a + n
      · rw [if_pos e, if_pos (by omega)]; omega
      · rw [if_neg e, if_neg (by omega)]; omega

/-- What a day has, but for the free ones. -/
def punch (f : Int → Int) (xs : List Int) (d : Int) : Int := if d ∈ xs then 0 else f d
theorem punch_cons (f : Int → Int) (x : Int) (xs : List Int) (hx : x ∉ xs) (d : Int) : punch f (x :: xs) d = punch f xs d - (if d = x then f d else 0) := by
  unfold punch
  by_cases c : d = x
  · subst c
    rw [if_pos (List.mem_cons_self ..), if_neg hx, if_pos rfl]; omega
  · rw [if_neg c]
    by_cases e : d ∈ xs
    · rw [if_pos e, if_pos (List.mem_cons_of_mem _ e)]; omega
    · rw [if_neg e, if_neg (by simp [c, e])]; omega
/-- What the free days in a span have. -/
def taken (f : Int → Int) (lo hi : Int) : List Int → Int
  | [] => 0
  | x :: r => (if lo ≤ x ∧ x < hi then f x else 0) + taken f lo hi r
theorem sumTo_punch (f : Int → Int) (a : Int) (n : Nat) : ∀ xs : List Int, xs.Pairwise (· < ·) → sumTo (punch f xs) a n = sumTo f a n - taken f a (a + n) xs
  | [], _ => by
    rw [taken]
    have : sumTo (punch f []) a n = sumTo f a n := sumTo_congr (fun j _ => by simp [punch])
    omega
  | x :: r, h => by
    have hx : x ∉ r := fun hm => by have := List.rel_of_pairwise_cons h hm; omega
    have e : sumTo (punch f (x :: r)) a n = sumTo (fun d => punch f r d - (if d = x then f d else 0)) a n := sumTo_congr (fun j _ => punch_cons f x r hx _)
    rw [e, sumTo_sub, sumTo_punch f a n r (List.Pairwise.of_cons h), sumTo_one, taken]
    omega
theorem punch_app (f : Int → Int) (xs : List Int) (x d : Int) (hx : x ∉ xs) : punch f (xs ++ [x]) d = punch f xs d - (if d = x then f d else 0) := by
  unfold punch
  by_cases c : d = x
  · subst c
    rw [if_pos (by simp), if_neg hx, if_pos rfl]; omega
  · rw [if_neg c]
    by_cases e : d ∈ xs
    · rw [if_pos e, if_pos (by simp [e])]; omega
    · rw [if_neg e, if_neg (by simp [c, e])]; omega

/-- The minutes of a weekday; whether there are any. -/
def W (k : Nat → Int) (d : Int) : Int := k (wd d)
def V (k : Nat → Int) (d : Int) : Int := if 0 < k (wd d) then 1 else 0
theorem W_bd {k : Nat → Int} (h : ok k) (d : Int) : 0 ≤ W k d ∧ W k d ≤ 1440 := ok_wd h d
theorem V_bd (k : Nat → Int) (d : Int) : 0 ≤ V k d ∧ V k d ≤ 1 := by unfold V; split <;> omega
theorem punch_bd {f : Int → Int} {c : Int} (h : ∀ d, 0 ≤ f d ∧ f d ≤ c) (xs : List Int) (d : Int) : 0 ≤ punch f xs d ∧ punch f xs d ≤ c := by
  have := h d
  unfold punch; split <;> omega
theorem V_punch {k : Nat → Int} (h : ok k) (xs : List Int) (d : Int) : punch (V k) xs d = if punch (W k) xs d = 0 then 0 else 1 := by
  have h1 := ok_wd h d
  unfold punch V W
  by_cases e : d ∈ xs
  · rw [if_pos e, if_pos e, if_pos rfl]
  · rw [if_neg e, if_neg e]
    by_cases c : 0 < k (wd d)
    · rw [if_pos c, if_neg (by omega)]
    · rw [if_neg c, if_pos (by omega)]

/-- A span's first day, and how many it has, in the calendar. -/
def lo (f : Int) : Int := if f < -25567 then -25567 else f
def hi (t : Int) : Int := if 84006 < t then 84006 else t
def cnt (f t : Int) : Nat := (hi t - lo f).toNat
theorem cnt_bd (f t : Int) : cnt f t ≤ 109573 := by unfold cnt hi lo; split <;> split <;> omega
/-- A span's minutes, and its days that have minutes. -/
def mins (k : Nat → Int) (xs : List Int) (f t : Int) : Int := if chk k xs = 0 then sumTo (punch (W k) xs) (lo f) (cnt f t) else 0
def days (k : Nat → Int) (xs : List Int) (f t : Int) : Int := if chk k xs = 0 then sumTo (punch (V k) xs) (lo f) (cnt f t) else 0
/-- A day's minutes. -/
def on (k : Nat → Int) (xs : List Int) (d : Int) : Int := if chk k xs = 0 ∧ -25567 ≤ d ∧ d ≤ 84005 then punch (W k) xs d else 0

theorem mins_bd (k : Nat → Int) (xs : List Int) (f t : Int) : 0 ≤ mins k xs f t ∧ mins k xs f t ≤ 1000000000 := by
  unfold mins
  by_cases c : chk k xs = 0
  · rw [if_pos c]
    have h1 := sumTo_bd (lo f) (punch_bd (W_bd (chk_zero c).1) xs) (cnt f t)
    have h2 := cnt_bd f t
    omega
  · rw [if_neg c]; omega
theorem days_bd (k : Nat → Int) (xs : List Int) (f t : Int) : 0 ≤ days k xs f t ∧ days k xs f t ≤ 1000000 := by
  unfold days
  by_cases c : chk k xs = 0
  · rw [if_pos c]
    have h1 := sumTo_bd (lo f) (punch_bd (V_bd k) xs) (cnt f t)
    have h2 := cnt_bd f t
    omega
  · rw [if_neg c]; omega
theorem on_bd (k : Nat → Int) (xs : List Int) (d : Int) : 0 ≤ on k xs d ∧ on k xs d ≤ 1440 := by
  unfold on
  by_cases c : chk k xs = 0 ∧ -25567 ≤ d ∧ d ≤ 84005
  · rw [if_pos c]; exact punch_bd (W_bd (chk_zero c.1).1) xs d
  · rw [if_neg c]; omega

/-- Where the week has no minutes at all. -/
theorem none_worked {k : Nat → Int} (h : ∀ i, i < 7 → k i = 0) (xs : List Int) (f t : Int) : mins k xs f t = 0 ∧ days k xs f t = 0 := by
  unfold mins days
  constructor
  · split
    · exact sumTo_zero fun j _ => by unfold punch W; rw [h _ (wd_lt _)]; split <;> rfl
    · rfl
  · split
    · exact sumTo_zero fun j _ => by unfold punch V; rw [h _ (wd_lt _)]; split <;> rfl
    · rfl

/-- The document's sum. -/
theorem mins_ref {k : Nat → Int} {xs : List Int} (c : chk k xs = 0) (f t : Int) (hft : lo f ≤ hi t) :
    mins k xs f t = sumTo (W k) (lo f) (cnt f t) - taken (W k) (lo f) (hi t) xs ∧ days k xs f t = sumTo (V k) (lo f) (cnt f t) - taken (V k) (lo f) (hi t) xs := by
  have hp := (chk_zero c).2.2.2
  have e : lo f + ((cnt f t : Nat) : Int) = hi t := by unfold cnt; omega
  unfold mins days
  rw [if_pos c, if_pos c, sumTo_punch _ _ _ _ hp, sumTo_punch _ _ _ _ hp, e]
  exact ⟨rfl, rfl⟩
theorem taken_none (f : Int → Int) (a b : Int) (h : b ≤ a) : ∀ xs : List Int, taken f a b xs = 0
  | [] => rfl
  | x :: r => by rw [taken, if_neg (by omega), taken_none f a b h r]; rfl
theorem mins_ref' {k : Nat → Int} {xs : List Int} (c : chk k xs = 0) (f t : Int) :
    mins k xs f t = sumTo (W k) (lo f) (cnt f t) - taken (W k) (lo f) (hi t) xs ∧ days k xs f t = sumTo (V k) (lo f) (cnt f t) - taken (V k) (lo f) (hi t) xs := by
  by_cases h : lo f ≤ hi t
  · exact mins_ref c f t h
  · have e : cnt f t = 0 := by unfold cnt; omega
    rw [taken_none _ _ _ (by omega), taken_none _ _ _ (by omega)]
    unfold mins days
    rw [if_pos c, if_pos c, e]
    exact ⟨rfl, rfl⟩
theorem taken_bd {f : Int → Int} {c : Int} (hc : 0 ≤ c) (h : ∀ d, 0 ≤ f d ∧ f d ≤ c) (a b : Int) : ∀ xs : List Int, 0 ≤ taken f a b xs ∧ taken f a b xs ≤ c * xs.length
  | [] => by simp [taken]
  | x :: r => by
    have h1 := taken_bd hc h a b r
    have h2 := h x
    have h3 : c * (((x :: r).length : Nat) : Int) = c * ((r.length : Nat) : Int) + c := by
      rw [List.length_cons, show ((r.length + 1 : Nat) : Int) = (r.length : Int) + 1 by omega, Int.mul_add, Int.mul_one]
    rw [taken, h3]
    split <;> omega

/-- P7.4, its first half. -/
theorem lo_in {f : Int} (h : -25567 ≤ f) : lo f = f := by unfold lo; rw [if_neg (by omega)]
theorem hi_in {t : Int} (h : t ≤ 84006) : hi t = t := by unfold hi; rw [if_neg (by omega)]
theorem parts (k : Nat → Int) (xs : List Int) (a : Int) (m n : Nat) (h0 : -25567 ≤ a) (h1 : a + m + n ≤ 84006) :
    mins k xs a (a + m + n) = mins k xs a (a + m) + mins k xs (a + m) (a + m + n) ∧ days k xs a (a + m + n) = days k xs a (a + m) + days k xs (a + m) (a + m + n) := by
  have l1 := lo_in h0
  have l2 := lo_in (f := a + m) (by omega)
  have e1 := hi_in (t := a + m) (by omega)
  have e2 := hi_in h1
  have c1 : cnt a (a + m + n) = m + n := by unfold cnt; rw [l1, e2]; omega
  have c2 : cnt a (a + m) = m := by unfold cnt; rw [l1, e1]; omega
  have c3 : cnt (a + m) (a + m + n) = n := by unfold cnt; rw [l2, e2]; omega
  unfold mins days
  rw [l1, l2, c1, c2, c3]
  split
  · exact ⟨sumTo_split _ _ _ _, sumTo_split _ _ _ _⟩
  · exact ⟨rfl, rfl⟩
theorem mins_on (k : Nat → Int) (xs : List Int) (a : Int) (n : Nat) (h0 : -25567 ≤ a) (h1 : a + n ≤ 84006) : mins k xs a (a + n) = sumTo (on k xs) a n := by
  have l1 := lo_in h0
  have e1 := hi_in h1
  have c1 : cnt a (a + n) = n := by unfold cnt; rw [l1, e1]; omega
  unfold mins
  rw [l1, c1]
  by_cases c : chk k xs = 0
  · rw [if_pos c]
    exact sumTo_congr fun j hj => by unfold on; rw [if_pos ⟨c, by omega, by omega⟩]
  · rw [if_neg c]
    exact (sumTo_zero fun j hj => by unfold on; rw [if_neg (fun h => c h.1)]).symm
theorem mins_back (k : Nat → Int) (xs : List Int) (f t : Int) (h : t ≤ f) : mins k xs f t = 0 := by
  have e : cnt f t = 0 := by unfold cnt hi lo; split <;> split <;> omega
  unfold mins; rw [e]; split <;> rfl

/-- P7.4, its second half. -/
theorem frees {k : Nat → Int} {xs : List Int} (c : chk k xs = 0) (hl : xs.length ≤ 300) (d : Int) (hd : -25567 ≤ d ∧ d ≤ 84005) (hx : ∀ x ∈ xs, x < d) (f t : Int) :
    chk k (xs ++ [d]) = 0 ∧ mins k (xs ++ [d]) f t = mins k xs f t - (if f ≤ d ∧ d < t then on k xs d else 0) ∧ on k (xs ++ [d]) d = 0 := by
  have hc : chk k (xs ++ [d]) = 0 := by
    unfold chk at c ⊢
    by_cases o : ok k
    · rw [if_pos o] at c ⊢
      rw [if_neg (by omega)] at c
      rw [if_neg (by simp; omega)]
      exact chkL_app xs none d c hd (by simp) hx
    · rw [if_neg o] at c; omega
  have hn : d ∉ xs := fun h => by have := hx d h; omega
  refine ⟨hc, ?_, ?_⟩
  · unfold mins
    rw [if_pos hc, if_pos c]
    have e : sumTo (punch (W k) (xs ++ [d])) (lo f) (cnt f t) = sumTo (fun e => punch (W k) xs e - (if e = d then W k e else 0)) (lo f) (cnt f t) := sumTo_congr fun j _ => punch_app _ _ _ _ hn
    rw [e, sumTo_sub, sumTo_one]
    have e2 : on k xs d = W k d := by unfold on; rw [if_pos ⟨c, hd.1, hd.2⟩]; unfold punch; rw [if_neg hn]
    rw [e2]
    by_cases g : f ≤ d ∧ d < t
    · rw [if_pos g, if_pos (by unfold cnt hi lo; split <;> split <;> omega)]
    · rw [if_neg g, if_neg (by unfold cnt hi lo; split <;> split <;> omega)]
  · unfold on
    rw [if_pos ⟨hc, hd.1, hd.2⟩]
    unfold punch
    rw [if_pos (by simp)]

/-- Any seven days on end. -/
theorem seven (g : Nat → Int) (d : Int) : sumTo (fun e => g (wd e)) d 7 = g 0 + g 1 + g 2 + g 3 + g 4 + g 5 + g 6 := by
  simp only [sumTo]
  have h : (d + 25567) % 7 = 0 ∨ (d + 25567) % 7 = 1 ∨ (d + 25567) % 7 = 2 ∨ (d + 25567) % 7 = 3 ∨ (d + 25567) % 7 = 4 ∨ (d + 25567) % 7 = 5 ∨ (d + 25567) % 7 = 6 := by omega
  have e : ∀ (j r : Int) (i : Nat), (d + 25567) % 7 = r → (r + j) % 7 = (i : Int) → 0 ≤ j → wd (d + j) = i := fun j r i h1 h2 _ => by unfold wd; omega
  rcases h with h | h | h | h | h | h | h
  · rw [e _ _ 0 h (by decide) (by decide), e _ _ 1 h (by decide) (by decide), e _ _ 2 h (by decide) (by decide), e _ _ 3 h (by decide) (by decide), e _ _ 4 h (by decide) (by decide), e _ _ 5 h (by decide) (by decide), e _ _ 6 h (by decide) (by decide)]; omega
  · rw [e _ _ 1 h (by decide) (by decide), e _ _ 2 h (by decide) (by decide), e _ _ 3 h (by decide) (by decide), e _ _ 4 h (by decide) (by decide), e _ _ 5 h (by decide) (by decide), e _ _ 6 h (by decide) (by decide), e _ _ 0 h (by decide) (by decide)]; omega
  · rw [e _ _ 2 h (by decide) (by decide), e _ _ 3 h (by decide) (by decide), e _ _ 4 h (by decide) (by decide), e _ _ 5 h (by decide) (by decide), e _ _ 6 h (by decide) (by decide), e _ _ 0 h (by decide) (by decide), e _ _ 1 h (by decide) (by decide)]; omega
  · rw [e _ _ 3 h (by decide) (by decide), e _ _ 4 h (by decide) (by decide), e _ _ 5 h (by decide) (by decide), e _ _ 6 h (by decide) (by decide), e _ _ 0 h (by decide) (by decide), e _ _ 1 h (by decide) (by decide), e _ _ 2 h (by decide) (by decide)]; omega
  · rw [e _ _ 4 h (by decide) (by decide), e _ _ 5 h (by decide) (by decide), e _ _ 6 h (by decide) (by decide), e _ _ 0 h (by decide) (by decide), e _ _ 1 h (by decide) (by decide), e _ _ 2 h (by decide) (by decide), e _ _ 3 h (by decide) (by decide)]; omega
  · rw [e _ _ 5 h (by decide) (by decide), e _ _ 6 h (by decide) (by decide), e _ _ 0 h (by decide) (by decide), e _ _ 1 h (by decide) (by decide), e _ _ 2 h (by decide) (by decide), e _ _ 3 h (by decide) (by decide), e _ _ 4 h (by decide) (by decide)]; omega
  · rw [e _ _ 6 h (by decide) (by decide), e _ _ 0 h (by decide) (by decide), e _ _ 1 h (by decide) (by decide), e _ _ 2 h (by decide) (by decide), e _ _ 3 h (by decide) (by decide), e _ _ 4 h (by decide) (by decide), e _ _ 5 h (by decide) (by decide)]; omega
theorem wholes (g : Nat → Int) (d : Int) : ∀ n : Nat, sumTo (fun e => g (wd e)) d (7 * n) = n * (g 0 + g 1 + g 2 + g 3 + g 4 + g 5 + g 6)
  | 0 => by simp [sumTo]
  | n + 1 => by
    rw [show 7 * (n + 1) = 7 * n + 7 by omega, sumTo_split, wholes g d n, seven, show ((n + 1 : Nat) : Int) = (n : Int) + 1 by omega, Int.add_mul, Int.one_mul]
theorem week_wholes {k : Nat → Int} (c : ok k) (d : Int) (n : Nat) (h0 : -25567 ≤ d) (h1 : d + 7 * n ≤ 84006) :
    mins k [] d (d + 7 * n) = n * (k 0 + k 1 + k 2 + k 3 + k 4 + k 5 + k 6) ∧
    days k [] d (d + 7 * n) = n * ((if 0 < k 0 then 1 else 0) + (if 0 < k 1 then 1 else 0) + (if 0 < k 2 then 1 else 0) + (if 0 < k 3 then 1 else 0) + (if 0 < k 4 then 1 else 0) + (if 0 < k 5 then 1 else 0) + (if 0 < k 6 then 1 else 0)) := by
  have hc : chk k [] = 0 := by unfold chk; rw [if_pos c]; rfl
  have l1 := lo_in h0
  have e1 := hi_in h1
  have c1 : cnt d (d + 7 * n) = 7 * n := by unfold cnt; rw [l1, e1]; omega
  unfold mins days
  rw [if_pos hc, if_pos hc, l1, c1]
  constructor
  · rw [← wholes k d n]
    exact sumTo_congr fun j _ => by simp [punch, W]
  · rw [← wholes (fun i => if 0 < k i then 1 else 0) d n]
    exact sumTo_congr fun j _ => by simp [punch, V]
end Go.Proofs.YtjpjeimpmfoldaaDoor.WL
