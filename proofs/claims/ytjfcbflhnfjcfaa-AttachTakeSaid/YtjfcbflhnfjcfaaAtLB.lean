/- Plain laws of attach: more of a net; net by net; the first of them, or in another order. -/
import Derived.Test.YtjfcbflhnfjcfaaAtD
namespace Go.Proofs.Ytjfcbflhnfjcfaa.S
open Go.Proofs.Ytjfcbflhnfjcfaa.B Go.Proofs.Ytjfcbflhnfjcfaa.M Go.Sort
set_option linter.unusedVariables false

/-! ### What depends on the first k alone -/
theorem leftK_congr {net : Int} {g : Mp} {O O' : Nat → Ord} : ∀ k, (∀ i, i < k → O i = O' i) → leftK net g O k = leftK net g O' k
  | 0, _ => rfl
  | k + 1, h => by unfold leftK; rw [leftK_congr k (fun i hi => h i (by omega)), h k (by omega)]
theorem takeK_congr {net : Int} {g : Mp} {O O' : Nat → Ord} (k : Nat) (h : ∀ i, i < k + 1 → O i = O' i) : takeK net g O k = takeK net g O' k := by
  unfold takeK; rw [leftK_congr k (fun i hi => h i (by omega)), h k (by omega)]
theorem itemsK_congr {net : Int} {g : Mp} {O O' : Nat → Ord} : ∀ k, (∀ i, i < k → O i = O' i) → itemsK net g O k = itemsK net g O' k
  | 0, _ => rfl
  | k + 1, h => by
    rw [items_succ, items_succ, itemsK_congr k (fun i hi => h i (by omega)), takeK_congr k h, h k (by omega)]
theorem terr_congr {net : Int} {g : Mp} {O O' : Nat → Ord} (n : Nat) (h : ∀ i, i < n → O i = O' i) (h0 : terr net g O n = 0) : terr net g O' n = 0 := by
  refine (terr_zero n).2 (fun k hk => ?_)
  have := (terr_zero n).1 h0 k hk
  rw [takeK_congr k (fun i hi => h i (by omega)), h k hk] at this
  exact this
theorem terr_less {net : Int} {g : Mp} {O : Nat → Ord} {k n : Nat} (hk : k ≤ n) (h0 : terr net g O n = 0) : terr net g O k = 0 :=
  (terr_zero k).2 (fun i hi => (terr_zero n).1 h0 i (by omega))

/-! ### Orders that are right -/
theorem check_zero {S : Nat → Ord} {n : Nat} : check S n = 0 ↔ n ≤ 64 ∧ ∀ k, k < n → word (S k).code.data.toList ∧ rngO (S k) ∧ fresh S k := by
  unfold check
  by_cases c : 64 < n
  · rw [if_pos c]; constructor
    · intro h; omega
    · intro h; omega
  · rw [if_neg c, cerr_zero]; constructor
    · intro h; exact ⟨by omega, h⟩
    · intro h; exact h.2
theorem apart_of {S : Nat → Ord} {n : Nat} (h : ∀ k, k < n → fresh S k) : apart S n := fun i j hi hj e => by
  rcases Nat.lt_trichotomy i j with c | c | c
  · exact absurd e (h j hj i c)
  · exact c
  · exact absurd e.symm (h i hi j c)
theorem fresh_of {S : Nat → Ord} {n : Nat} (h : apart S n) : ∀ k, k < n → fresh S k := fun k hk i hi e => by
  have := h i k (by omega) hk e; omega
theorem check_right {S : Nat → Ord} {n : Nat} (h : check S n = 0) : n ≤ 64 ∧ apart S n ∧ (∀ k, k < n → rngO (S k)) ∧ ∀ k, k < n → word (S k).code.data.toList := by
  obtain ⟨h1, h2⟩ := check_zero.1 h
  exact ⟨h1, apart_of (fun k hk => (h2 k hk).2.2), fun k hk => (h2 k hk).2.1, fun k hk => (h2 k hk).1⟩
theorem check_of {S : Nat → Ord} {n : Nat} (h1 : n ≤ 64) (h2 : apart S n) (h3 : ∀ k, k < n → rngO (S k)) (h4 : ∀ k, k < n → word (S k).code.data.toList) : check S n = 0 :=
  check_zero.2 ⟨h1, fun k hk => ⟨h4 k hk, h3 k hk, fresh_of h2 k hk⟩⟩
abbrev srvO (S : Nat → Ord) (n : Nat) : Nat → Ord := fun k => S (srv S n k)
theorem apart_srv {S : Nat → Ord} {n : Nat} (h : apart S n) : apart (srvO S n) n := fun i j hi hj e => srv_inj S hi hj (h _ _ (srv_lt S hi) (srv_lt S hj) e)

/-! ### The first that are served -/
theorem srv_sorted (S : Nat → Ord) (n : Nat) {i j : Nat} (h : i < j) (hj : j < n) : ahead (srvO S n j) (srvO S n i) = false := by
  have h1 := dsrv_sorted S n
  rw [dsrv_is] at h1
  have h2 : j < (served S n).length := by rw [served_len]; exact hj
  have := List.pairwise_iff_getElem.1 h1 i j (by omega) h2 h
  unfold Z.ltp at this
  have := (Bool.or_eq_false_iff.1 this).1
  show ahead (S (srv S n j)) (S (srv S n i)) = false
  unfold srv
  rw [List.getD_eq_getElem?_getD, List.getElem?_eq_getElem h2, List.getD_eq_getElem?_getD, List.getElem?_eq_getElem (show i < (served S n).length by omega)]
  exact this
theorem served_first (S : Nat → Ord) (n k : Nat) (hk : k ≤ n) (T : Nat → Ord) (hT : ∀ i, i < k → T i = srvO S n i) : ∀ i, i < k → srv T k i = i := by
  have h1 : List.range k = served T k := Z.sorted_is (aheadAt_swo T) k _ (List.Perm.refl _) (List.pairwise_lt_range.imp_of_mem (fun {a b} ha hb hab => by
    have ha' : a < k := by simpa using ha
    have hb' : b < k := by simpa using hb
    unfold Z.ltp aheadAt
    rw [hT a ha', hT b hb', srv_sorted S n hab (by omega), decide_eq_false (show ¬ b < a by omega)]
    simp))
  intro i hi
  unfold srv
  rw [← h1]
  simp [List.getD_eq_getElem?_getD, hi]
/-- The first k that are served, alone: what they take is the head of what all take. -/
theorem first_take {net : Int} {S T : Nat → Ord} {n k : Nat} (hk : k ≤ n) (hT : ∀ i, i < k → T i = srvO S n i) (hf : fit net) (hc : check S n = 0) (ht : terr net (fun _ => none) (srvO S n) n = 0) :
    takeErr net (fun _ => none) T k = 0 ∧ itemsK net (fun _ => none) (srvO T k) k = itemsK net (fun _ => none) (srvO S n) k := by
  obtain ⟨c1, c2, c3, c4⟩ := check_right hc
  have hs := served_first S n k hk T hT
  have hO : ∀ i, i < k → srvO S n i = srvO T k i := fun i hi => by
    show srvO S n i = T (srv T k i); rw [hs i hi, hT i hi]
  have hcT : check T k = 0 := by
    refine check_of (by omega) (fun i j hi hj e => ?_) (fun i hi => ?_) (fun i hi => ?_)
    · rw [hT i hi, hT j hj] at e; exact apart_srv c2 i j (by omega) (by omega) e
    · rw [hT i hi]; exact c3 _ (srv_lt S (by omega))
    · rw [hT i hi]; exact c4 _ (srv_lt S (by omega))
  refine ⟨?_, (itemsK_congr k hO).symm⟩
  unfold takeErr
  rw [if_neg (by simpa using hf), if_neg (by simpa using hcT)]
  exact terr_congr k hO (terr_less hk ht)
/-- The same orders in another order: the same. -/
theorem back_take {net : Int} {S T : Nat → Ord} {n : Nat} (hT : ∀ i, i < n → T i = S (n - 1 - i)) (hf : fit net) (hc : check S n = 0) (ht : terr net (fun _ => none) (srvO S n) n = 0) :
    takeErr net (fun _ => none) T n = 0 ∧ itemsK net (fun _ => none) (srvO T n) n = itemsK net (fun _ => none) (srvO S n) n := by
  obtain ⟨c1, c2, c3, c4⟩ := check_right hc
  have hp : ((List.range n).map S).Perm ((List.range n).map T) := by
    have e : (List.range n).map T = ((List.range n).map S).reverse := by
      apply List.ext_getElem
      · simp
      · intro i h1 h2
        have hi : i < n := by simpa using h1
        simp [hT i hi]
    rw [e]; exact (List.reverse_perm _).symm
  have hO : ∀ i, i < n → srvO S n i = srvO T n i := fun i hi => served_alike (fun i j hi hj e => c2 i j hi hj e) hp i hi
  have hcT : check T n = 0 := by
    refine check_of c1 (fun i j hi hj e => ?_) (fun i hi => ?_) (fun i hi => ?_)
    · rw [hT i hi, hT j hj] at e
      have := c2 _ _ (by omega) (by omega) e
      omega
    · rw [hT i hi]; exact c3 _ (by omega)
    · rw [hT i hi]; exact c4 _ (by omega)
  refine ⟨?_, (itemsK_congr n hO).symm⟩
  unfold takeErr
  rw [if_neg (by simpa using hf), if_neg (by simpa using hcT)]
  exact terr_congr n hO ht

/-! ### More of a net, fixed amounts alone -/
theorem takes_more {n1 n2 l1 l2 w : Int} {x : Ord} (hx : x.fixed ≠ 0) (hl : l1 ≤ l2) : takes n1 l1 w x ≤ takes n2 l2 w x ∧ takes n2 l2 w x - takes n1 l1 w x ≤ l2 - l1 := by
  have e : ∀ n, wants n x = x.fixed := fun n => by unfold wants; rw [if_pos hx]
  unfold takes
  rw [e, e]
  simp only
  generalize min2 x.fixed (leftP w x.total) = d
  unfold min2
  repeat' split
  all_goals omega
theorem left_more {n1 n2 : Int} {g : Mp} {O : Nat → Ord} (hn : n1 ≤ n2) : ∀ k, (∀ i, i < k → (O i).fixed ≠ 0) → leftK n1 g O k ≤ leftK n2 g O k
  | 0, _ => hn
  | k + 1, h => by
    have h1 := left_more hn k (fun i hi => h i (by omega)) (g := g)
    have h2 := takes_more (n1 := n1) (n2 := n2) (w := was g (O k).code) (h k (by omega)) h1
    unfold leftK; omega
theorem take_more {n1 n2 : Int} {g : Mp} {O : Nat → Ord} (hn : n1 ≤ n2) (k : Nat) (h : ∀ i, i < k + 1 → (O i).fixed ≠ 0) : takeK n1 g O k ≤ takeK n2 g O k :=
  (takes_more (h k (by omega)) (left_more hn k (fun i hi => h i (by omega)))).1
theorem items_more {n1 n2 : Int} {g : Mp} {O : Nat → Ord} (hn : n1 ≤ n2) : ∀ k, (∀ i, i < k → (O i).fixed ≠ 0) → (itemsK n1 g O k).length ≤ (itemsK n2 g O k).length
  | 0, _ => Nat.le_refl _
  | k + 1, h => by
    have h1 := items_more hn k (fun i hi => h i (by omega)) (g := g)
    have h2 := take_more (g := g) hn k h
    rw [items_succ, items_succ]
    by_cases c : 0 < takeK n1 g O k
    · rw [if_pos c, if_pos (by omega)]; simp; omega
    · rw [if_neg c]; split <;> simp <;> omega

/-! ### What is read of the sums, in the list's own order -/
/-- What is in force at the i'th order of the list. -/
def outAt (net : Int) (g : Mp) (S : Nat → Ord) (n i : Nat) : Int := (outK net g (srvO S n) n (S i).code).getD 0
theorem outAt_is {net : Int} {g : Mp} {S : Nat → Ord} {n : Nat} (hA : apart S n) {k : Nat} (hk : k < n) : outAt net g S n (srv S n k) = was g (srvO S n k).code + takeK net g (srvO S n) k := by
  unfold outAt
  rw [out_at n (apart_srv hA) k hk]; rfl
theorem outAt_pos {net : Int} {g : Mp} {S : Nat → Ord} {n i : Nat} (hA : apart S n) (hi : i < n) : ∃ k, k < n ∧ srv S n k = i ∧ outAt net g S n i = was g (S i).code + takeK net g (srvO S n) k := by
  obtain ⟨k, hk, rfl⟩ := srv_all S hi
  exact ⟨k, hk, rfl, outAt_is hA hk⟩
def sumTo (f : Nat → Int) : Nat → Int
  | 0 => 0
  | m + 1 => sumTo f m + f m
theorem sumTo_list (f : Nat → Int) : ∀ m, sumTo f m = ((List.range m).map f).sum
  | 0 => rfl
  | m + 1 => by rw [sumTo, sumTo_list f m, List.range_succ, List.map_append, List.sum_append]; simp
theorem sum_left {net : Int} {g : Mp} {O : Nat → Ord} : ∀ k, sumTo (fun i => takeK net g O i) k = net - leftK net g O k
  | 0 => by simp [sumTo, leftK]
  | k + 1 => by
    rw [sumTo, sum_left k]
    show _ = net - (leftK net g O k - takes net (leftK net g O k) (was g (O k).code) (O k))
    unfold takeK; omega
theorem sum_perm {l1 l2 : List Int} (h : l1.Perm l2) : l1.sum = l2.sum := by
  induction h with
  | nil => rfl
  | cons x _ ih => simp [ih]
  | swap x y l => simp; omega
  | trans _ _ h1 h2 => exact h1.trans h2
theorem sum_out {net : Int} {S : Nat → Ord} {n : Nat} (hA : apart S n) : sumTo (outAt net (fun _ => none) S n) n = net - leftK net (fun _ => none) (srvO S n) n := by
  rw [← sum_left, sumTo_list, sumTo_list]
  have h1 : (List.range n).map (fun i => takeK net (fun _ => none) (srvO S n) i) = (served S n).map (outAt net (fun _ => none) S n) := by
    apply List.ext_getElem
    · simp [served_len]
    · intro i h1 h2
      have hi : i < n := by simpa using h1
      have h3 : i < (served S n).length := by rw [served_len]; exact hi
      have h4 := outAt_is (net := net) (g := fun _ => none) hA hi
      have h5 : srv S n i = (served S n)[i] := by unfold srv; rw [List.getD_eq_getElem?_getD, List.getElem?_eq_getElem h3]; rfl
      rw [List.getElem_map, List.getElem_map, ← h5, h4]
      simp [was]
  rw [h1]
  exact (sum_perm ((served_perm S n).map _)).symm
end Go.Proofs.Ytjfcbflhnfjcfaa.S
