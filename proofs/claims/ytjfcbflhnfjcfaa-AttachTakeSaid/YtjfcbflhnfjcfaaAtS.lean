/- What attach computes, in plain terms: orders, which is served ahead, what is left, what is wanted. -/
import Derived.Test.YtjfcbflhnfjcfaaAtZC
import Derived.Test.YtjfcbflhnfjcfaaRate
import Derived.Test.YtjfcbflhnfjcfaaMap
import Derived.Test.YtjfcbflhnfjcfaaLst
namespace Go.Proofs.Ytjfcbflhnfjcfaa.S
open Go.Proofs.Ytjfcbflhnfjcfaa.B Go.Proofs.Ytjfcbflhnfjcfaa.M Go.Sort
set_option linter.unusedVariables false

/-- A name's byte. -/
def okc (b : Nat) : Prop := (97 ≤ b ∧ b ≤ 122) ∨ (48 ≤ b ∧ b ≤ 57) ∨ b = 46 ∨ b = 95 ∨ b = 45
instance (b : Nat) : Decidable (okc b) := by unfold okc; infer_instance
/-- Is a text a name? -/
def word (l : List UInt8) : Prop := (∀ b ∈ l, okc b.toNat) ∧ l ≠ [] ∧ l ≠ [45] ∧ l.length ≤ 32
instance (l : List UInt8) : Decidable (word l) := by unfold word; infer_instance
def fit (c : Int) : Prop := -1125899906842624 ≤ c ∧ c ≤ 1125899906842624
def amt (c : Int) : Prop := 0 ≤ c ∧ c ≤ 1125899906842624
instance (c : Int) : Decidable (fit c) := by unfold fit; infer_instance
instance (c : Int) : Decidable (amt c) := by unfold amt; infer_instance
def I64 (x : Int) : Prop := -9223372036854775808 ≤ x ∧ x ≤ 9223372036854775807

/-- An order. -/
structure Ord where
  code : ByteArray
  rank : Int
  rate : Int
  fixed : Int
  prot : Int
  total : Int
instance : Inhabited Ord := ⟨⟨ByteArray.empty, 0, 0, 0, 0, 0⟩⟩
def ocells (x : Ord) : List Value := [.string x.code, .int .i64 x.rank, .int .i64 x.rate, .int .i64 x.fixed, .int .i64 x.prot, .int .i64 x.total]
def oval (x : Ord) : Value := .agg #[.string x.code, .int .i64 x.rank, .int .i64 x.rate, .int .i64 x.fixed, .int .i64 x.prot, .int .i64 x.total]
def okO (x : Ord) : Prop := x.code.size ≤ 9223372036854775807 ∧ I64 x.rank ∧ I64 x.rate ∧ I64 x.fixed ∧ I64 x.prot ∧ I64 x.total

/-! ### Which is served ahead -/
theorem bl_irrefl : ∀ a : List UInt8, Op.bytesLess a a = false
  | [] => rfl
  | a :: x => by simp [Op.bytesLess, bl_irrefl x]
theorem bl_trans : ∀ a b c : List UInt8, Op.bytesLess a b = true → Op.bytesLess b c = true → Op.bytesLess a c = true
  | _, [], _, h, _ => by simp [Op.bytesLess] at h
  | _, _ :: _, [], _, h => by simp [Op.bytesLess] at h
  | [], _ :: _, _ :: _, _, _ => rfl
  | a :: x, b :: y, c :: z, h1, h2 => by
    simp only [Op.bytesLess, Bool.or_eq_true, Bool.and_eq_true, decide_eq_true_eq, beq_iff_eq] at *
    rcases h1 with h1 | ⟨h1, h1'⟩ <;> rcases h2 with h2 | ⟨h2, h2'⟩
    · exact .inl (UInt8.lt_trans h1 h2)
    · subst h2; exact .inl h1
    · subst h1; exact .inl h2
    · subst h1; subst h2; exact .inr ⟨rfl, bl_trans x y z h1' h2'⟩
theorem bl_total : ∀ a b : List UInt8, Op.bytesLess a b = false → Op.bytesLess b a = false → a = b
  | [], [], _, _ => rfl
  | [], _ :: _, h, _ => by simp [Op.bytesLess] at h
  | _ :: _, [], _, h => by simp [Op.bytesLess] at h
  | a :: x, b :: y, h1, h2 => by
    simp only [Op.bytesLess, Bool.or_eq_false_iff, Bool.and_eq_false_iff, decide_eq_false_iff_not, beq_eq_false_iff_ne] at *
    have e : a = b := UInt8.le_antisymm (UInt8.not_lt.1 h2.1) (UInt8.not_lt.1 h1.1)
    subst e
    rw [bl_total x y (h1.2.resolve_left (by simp)) (h2.2.resolve_left (by simp))]

/-- Is an order served ahead of another one? -/
def ahead (x y : Ord) : Bool := decide (x.rank < y.rank) || (decide (x.rank = y.rank) && Op.bytesLess x.code.toList y.code.toList)
theorem ahead_swo : SWO ahead where
  irrefl x := by simp [ahead, bl_irrefl]
  trans x y z h1 h2 := by
    simp only [ahead, Bool.or_eq_true, Bool.and_eq_true, decide_eq_true_eq] at *
    rcases h1 with h1 | ⟨h1, h1'⟩ <;> rcases h2 with h2 | ⟨h2, h2'⟩
    · left; omega
    · left; omega
    · left; omega
    · exact .inr ⟨by omega, bl_trans _ _ _ h1' h2'⟩
  ntrans x y z h1 h2 := by
    simp only [ahead, Bool.or_eq_false_iff, Bool.and_eq_false_iff, decide_eq_false_iff_not] at *
    refine ⟨by omega, ?_⟩
    by_cases c : x.rank = z.rank
    · right
      have a := h1.2.resolve_left (by omega)
      have b := h2.2.resolve_left (by omega)
      cases e : Op.bytesLess x.code.toList z.code.toList with
      | false => rfl
      | true =>
        -- y <= x, z <= y, x < z
        cases e2 : Op.bytesLess y.code.toList x.code.toList with
        | true =>
          have := bl_trans _ _ _ e2 e
          rw [b] at this; cases this
        | false =>
          rw [bl_total _ _ a e2] at e
          rw [b] at e; cases e
    · exact .inl c
/-- .. by its place in the list. -/
def aheadAt (S : Nat → Ord) (i j : Nat) : Bool := ahead (S i) (S j)
theorem aheadAt_swo (S : Nat → Ord) : SWO (aheadAt S) := ⟨fun i => ahead_swo.irrefl _, fun i j k => ahead_swo.trans _ _ _, fun i j k => ahead_swo.ntrans _ _ _⟩
/-- The order in which they are served: the places in the list. -/
def served (S : Nat → Ord) (n : Nat) : List Nat := (List.range n).mergeSort (fun x y => !Z.ltp (aheadAt S) y x)
theorem served_perm (S : Nat → Ord) (n : Nat) : (served S n).Perm (List.range n) := List.mergeSort_perm _ _
theorem served_len (S : Nat → Ord) (n : Nat) : (served S n).length = n := by rw [(served_perm S n).length_eq, List.length_range]
/-- The k'th that is served. -/
def srv (S : Nat → Ord) (n k : Nat) : Nat := (served S n).getD k 0
theorem srv_lt (S : Nat → Ord) {n k : Nat} (h : k < n) : srv S n k < n := by
  have h1 : k < (served S n).length := by rw [served_len]; exact h
  have h2 : srv S n k ∈ served S n := by unfold srv; rw [List.getD_eq_getElem?_getD, List.getElem?_eq_getElem h1]; exact List.getElem_mem h1
  simpa using (served_perm S n).mem_iff.1 h2
theorem srv_inj (S : Nat → Ord) {n i j : Nat} (hi : i < n) (hj : j < n) (h : srv S n i = srv S n j) : i = j := by
  have hd : (served S n).Nodup := (served_perm S n).nodup_iff.2 List.nodup_range
  have h1 : i < (served S n).length := by rw [served_len]; exact hi
  have h2 : j < (served S n).length := by rw [served_len]; exact hj
  unfold srv at h
  rw [List.getD_eq_getElem?_getD, List.getElem?_eq_getElem h1, List.getD_eq_getElem?_getD, List.getElem?_eq_getElem h2] at h
  have hw := List.pairwise_iff_getElem.1 hd
  rcases Nat.lt_trichotomy i j with c | c | c
  · exact absurd h (hw i j h1 h2 c)
  · exact c
  · exact absurd h.symm (hw j i h2 h1 c)
theorem srv_all (S : Nat → Ord) {n i : Nat} (h : i < n) : ∃ k, k < n ∧ srv S n k = i := by
  have h1 : i ∈ served S n := (served_perm S n).mem_iff.2 (by simpa using h)
  obtain ⟨k, hk, e⟩ := List.getElem_of_mem h1
  refine ⟨k, by rw [served_len] at hk; exact hk, ?_⟩
  unfold srv
  rw [List.getD_eq_getElem?_getD, List.getElem?_eq_getElem hk]; exact e

/-- What the comparison answers. -/
def cmpS (x y : ByteArray) : Int := if Op.bytesLess x.toList y.toList then -1 else if Op.bytesLess y.toList x.toList then 1 else 0
def cmpO (x y : Ord) : Int := if x.rank < y.rank then -1 else if y.rank < x.rank then 1 else cmpS x.code y.code
theorem cmpO_ahead (x y : Ord) : decide (cmpO x y < 0) = ahead x y := by
  unfold cmpO ahead cmpS
  by_cases h1 : x.rank < y.rank
  · simp [h1]
  · rw [if_neg h1]
    by_cases h2 : y.rank < x.rank
    · rw [if_pos h2, decide_eq_false (by omega), decide_eq_false h1, decide_eq_false (by omega)]; rfl
    · rw [if_neg h2, decide_eq_false h1, decide_eq_true (show x.rank = y.rank by omega)]
      cases e : Op.bytesLess x.code.toList y.code.toList with
      | true => simp
      | false => cases e2 : Op.bytesLess y.code.toList x.code.toList <;> simp

/-! ### What is wrong with orders -/
def rngO (x : Ord) : Prop := 0 ≤ x.rank ∧ x.rank ≤ 99 ∧ 0 ≤ x.rate ∧ x.rate ≤ 1000000 ∧ amt x.fixed ∧ amt x.prot ∧ amt x.total
instance (x : Ord) : Decidable (rngO x) := by unfold rngO; infer_instance
def fresh (S : Nat → Ord) (k : Nat) : Prop := ∀ i, i < k → (S i).code ≠ (S k).code
instance (S : Nat → Ord) (k : Nat) : Decidable (fresh S k) := by unfold fresh; infer_instance
def wrgO (S : Nat → Ord) (k : Nat) : Int := if ¬ word (S k).code.data.toList then 12 else if ¬ rngO (S k) then 2 else if ¬ fresh S k then 7 else 0
/-- What is wrong with the first k. -/
def cerr (S : Nat → Ord) : Nat → Int
  | 0 => 0
  | k + 1 => if cerr S k ≠ 0 then cerr S k else wrgO S k
def check (S : Nat → Ord) (n : Nat) : Int := if 64 < n then 5 else cerr S n
theorem cerr_stays {S : Nat → Ord} {k : Nat} (h : cerr S k ≠ 0) : ∀ m, cerr S (k + m) = cerr S k
  | 0 => rfl
  | m + 1 => by
    have e := cerr_stays h m
    show (if cerr S (k + m) ≠ 0 then cerr S (k + m) else _) = _
    rw [if_pos (by rw [e]; exact h), e]
theorem cerr_late {S : Nat → Ord} {k n : Nat} (h : cerr S k ≠ 0) (hk : k ≤ n) : cerr S n = cerr S k := by
  have := cerr_stays h (n - k)
  rwa [show k + (n - k) = n by omega] at this
theorem cerr_step {S : Nat → Ord} {k : Nat} (h0 : cerr S k = 0) : cerr S (k + 1) = wrgO S k := by
  show (if cerr S k ≠ 0 then _ else _) = _
  rw [if_neg (by simpa using h0)]
theorem cerr_bad {S : Nat → Ord} {k n : Nat} {e : Int} (h0 : cerr S k = 0) (he : wrgO S k = e) (hne : e ≠ 0) (hk : k < n) : cerr S n = e := by
  have h1 := cerr_step h0
  rw [cerr_late (by rw [h1, he]; exact hne) hk, h1, he]
theorem cerr_zero {S : Nat → Ord} : ∀ n, cerr S n = 0 ↔ ∀ k, k < n → word (S k).code.data.toList ∧ rngO (S k) ∧ fresh S k
  | 0 => ⟨fun _ k h => absurd h (by omega), fun _ => rfl⟩
  | n + 1 => by
    have hw : wrgO S n = 0 ↔ word (S n).code.data.toList ∧ rngO (S n) ∧ fresh S n := by
      unfold wrgO
      by_cases h1 : word (S n).code.data.toList <;> by_cases h2 : rngO (S n) <;> by_cases h3 : fresh S n <;> simp [h1, h2, h3]
    constructor
    · intro h
      by_cases h0 : cerr S n = 0
      · rw [cerr_step h0] at h
        intro k hk
        rcases Nat.lt_or_ge k n with h1 | h1
        · exact (cerr_zero n).1 h0 k h1
        · obtain rfl : k = n := by omega
          exact hw.1 h
      · rw [cerr_late h0 (Nat.le_succ n)] at h
        exact absurd h h0
    · intro h
      have h0 := (cerr_zero n).2 (fun k hk => h k (by omega))
      rw [cerr_step h0]
      exact hw.2 (h n (by omega))
/-- The codes met. -/
def fm (S : Nat → Ord) : Nat → ByteArray → Option Bool
  | 0 => fun _ => none
  | k + 1 => upd (fm S k) (S k).code true
def nm (S : Nat → Ord) : Nat → Nat
  | 0 => 0
  | k + 1 => more (fm S k) (S k).code (nm S k)
theorem nm_le (S : Nat → Ord) : ∀ k, nm S k ≤ k
  | 0 => Nat.le_refl _
  | k + 1 => by have := nm_le S k; unfold nm more; split <;> omega
theorem fm_is (S : Nat → Ord) (t : ByteArray) : ∀ k, (fm S k t).getD false = decide (∃ i, i < k ∧ (S i).code = t)
  | 0 => by simp [fm]
  | k + 1 => by
    unfold fm upd
    by_cases h : t = (S k).code
    · rw [if_pos h]; exact (decide_eq_true ⟨k, by omega, h.symm⟩).symm
    · rw [if_neg h, fm_is S t k]
      congr 1
      apply propext
      constructor
      · rintro ⟨i, hi, e⟩; exact ⟨i, by omega, e⟩
      · rintro ⟨i, hi, e⟩
        rcases Nat.lt_or_ge i k with h1 | h1
        · exact ⟨i, h1, e⟩
        · obtain rfl : i = k := by omega
          exact absurd e.symm h
theorem fm_fresh {S : Nat → Ord} {k : Nat} (h : fresh S k) : (fm S k (S k).code).getD false = false := by
  rw [fm_is]; exact decide_eq_false (fun ⟨i, hi, e⟩ => h i hi e)
theorem fm_met {S : Nat → Ord} {k : Nat} (h : ¬ fresh S k) : (fm S k (S k).code).getD false = true := by
  rw [fm_is]
  refine decide_eq_true ?_
  by_cases c : ∃ i, i < k ∧ (S i).code = (S k).code
  · exact c
  · exact absurd (fun i hi e => c ⟨i, hi, e⟩) h

/-! ### What an order takes -/
abbrev Mp := ByteArray → Option Int
def was (g : Mp) (s : ByteArray) : Int := (g s).getD 0
/-- What is left of a total, of what was taken so far. -/
def leftP (w total : Int) : Int :=
  if total = 0 then 1125899906842624 else
    let t := if w < 0 then 0 else w
    if total < t then 0 else if 1125899906842624 < total - t then 1125899906842624 else total - t
def wants (net : Int) (x : Ord) : Int := if x.fixed ≠ 0 then x.fixed else rnd (if net < 0 then 0 else net) x.rate
def min2 (a b : Int) : Int := if b < a then b else a
/-- What an order takes, of what is left of a net. -/
def takes (net left w : Int) (x : Ord) : Int :=
  let c := min2 (min2 (wants net x) (leftP w x.total)) (left - x.prot)
  if c < 0 then 0 else c
/-- What is left behind k orders that are served. -/
def leftK (net : Int) (g : Mp) (O : Nat → Ord) : Nat → Int
  | 0 => net
  | k + 1 => leftK net g O k - takes net (leftK net g O k) (was g (O k).code) (O k)
def takeK (net : Int) (g : Mp) (O : Nat → Ord) (k : Nat) : Int := takes net (leftK net g O k) (was g (O k).code) (O k)
/-- The sums behind k orders. -/
def outK (net : Int) (g : Mp) (O : Nat → Ord) : Nat → Mp
  | 0 => g
  | k + 1 => upd (outK net g O k) (O k).code (was g (O k).code + takeK net g O k)
def noK (net : Int) (g : Mp) (O : Nat → Ord) (n0 : Nat) : Nat → Nat
  | 0 => n0
  | k + 1 => more (outK net g O k) (O k).code (noK net g O n0 k)
/-- The items. -/
def itemsK (net : Int) (g : Mp) (O : Nat → Ord) : Nat → List (ByteArray × Int)
  | 0 => []
  | k + 1 => if 0 < takeK net g O k then itemsK net g O k ++ [((O k).code, takeK net g O k)] else itemsK net g O k
/-- What is wrong with an order that is served, by what was taken so far. -/
def tbad (net : Int) (g : Mp) (O : Nat → Ord) (k : Nat) : Int := if ¬ amt (was g (O k).code) then 2 else if ¬ fit (was g (O k).code + takeK net g O k) then 9 else 0
def terr (net : Int) (g : Mp) (O : Nat → Ord) : Nat → Int
  | 0 => 0
  | k + 1 => if terr net g O k ≠ 0 then terr net g O k else tbad net g O k
theorem terr_stays {net : Int} {g : Mp} {O : Nat → Ord} {k : Nat} (h : terr net g O k ≠ 0) : ∀ m, terr net g O (k + m) = terr net g O k
  | 0 => rfl
  | m + 1 => by
    have e := terr_stays h m
    show (if terr net g O (k + m) ≠ 0 then terr net g O (k + m) else _) = _
    rw [if_pos (by rw [e]; exact h), e]
theorem terr_late {net : Int} {g : Mp} {O : Nat → Ord} {k n : Nat} (h : terr net g O k ≠ 0) (hk : k ≤ n) : terr net g O n = terr net g O k := by
  have := terr_stays h (n - k)
  rwa [show k + (n - k) = n by omega] at this
theorem terr_step {net : Int} {g : Mp} {O : Nat → Ord} {k : Nat} (h0 : terr net g O k = 0) : terr net g O (k + 1) = tbad net g O k := by
  show (if terr net g O k ≠ 0 then _ else _) = _
  rw [if_neg (by simpa using h0)]
theorem terr_bad {net : Int} {g : Mp} {O : Nat → Ord} {k n : Nat} {e : Int} (h0 : terr net g O k = 0) (he : tbad net g O k = e) (hne : e ≠ 0) (hk : k < n) : terr net g O n = e := by
  have h1 := terr_step h0
  rw [terr_late (by rw [h1, he]; exact hne) hk, h1, he]
theorem terr_zero {net : Int} {g : Mp} {O : Nat → Ord} : ∀ n, terr net g O n = 0 ↔ ∀ k, k < n → amt (was g (O k).code) ∧ fit (was g (O k).code + takeK net g O k)
  | 0 => ⟨fun _ k h => absurd h (by omega), fun _ => rfl⟩
  | n + 1 => by
    have hw : tbad net g O n = 0 ↔ amt (was g (O n).code) ∧ fit (was g (O n).code + takeK net g O n) := by
      unfold tbad
      by_cases h1 : amt (was g (O n).code) <;> by_cases h2 : fit (was g (O n).code + takeK net g O n) <;> simp [h1, h2]
    constructor
    · intro h
      by_cases h0 : terr net g O n = 0
      · rw [terr_step h0] at h
        intro k hk
        rcases Nat.lt_or_ge k n with h1 | h1
        · exact (terr_zero n).1 h0 k h1
        · obtain rfl : k = n := by omega
          exact hw.1 h
      · rw [terr_late h0 (Nat.le_succ n)] at h
        exact absurd h h0
    · intro h
      have h0 := (terr_zero n).2 (fun k hk => h k (by omega))
      rw [terr_step h0]
      exact hw.2 (h n (by omega))
theorem itemsK_len (net : Int) (g : Mp) (O : Nat → Ord) : ∀ k, (itemsK net g O k).length ≤ k
  | 0 => Nat.le_refl _
  | k + 1 => by have := itemsK_len net g O k; unfold itemsK; split <;> simp <;> omega
theorem noK_le (net : Int) (g : Mp) (O : Nat → Ord) (n0 : Nat) : ∀ k, noK net g O n0 k ≤ n0 + k
  | 0 => Nat.le_refl _
  | k + 1 => by have := noK_le net g O n0 k; unfold noK more; split <;> omega
/-- What Take answers: why there is nothing of it; 0: there is. -/
def takeErr (net : Int) (g : Mp) (S : Nat → Ord) (n : Nat) : Int := if ¬ fit net then 2 else if check S n ≠ 0 then check S n else terr net g (fun k => S (srv S n k)) n
end Go.Proofs.Ytjfcbflhnfjcfaa.S
