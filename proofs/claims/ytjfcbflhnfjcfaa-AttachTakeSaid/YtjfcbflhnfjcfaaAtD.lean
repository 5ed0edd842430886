/- The document's sort, order by order, serves as the program's does: in plain Lean. -/
import Derived.Test.YtjfcbflhnfjcfaaAtL
namespace Go.Proofs.Ytjfcbflhnfjcfaa.S
open Go.Proofs.Ytjfcbflhnfjcfaa.B Go.Proofs.Ytjfcbflhnfjcfaa.M Go.Sort
set_option linter.unusedVariables false

/-- How many at the head meet p. -/
def posOf (p : Nat → Bool) : List Nat → Nat
  | [] => 0
  | x :: r => if p x then posOf p r + 1 else 0
theorem posOf_le (p : Nat → Bool) : ∀ L, posOf p L ≤ L.length
  | [] => Nat.le_refl _
  | x :: r => by have := posOf_le p r; unfold posOf; split <;> simp; omega
theorem posOf_head (p : Nat → Bool) : ∀ L : List Nat, ∀ x ∈ L.take (posOf p L), p x = true
  | [], x, h => by simp [posOf] at h
  | y :: r, x, h => by
    unfold posOf at h
    by_cases c : p y = true
    · rw [if_pos c, List.take_succ_cons] at h
      rcases List.mem_cons.1 h with rfl | h
      · exact c
      · exact posOf_head p r x h
    · rw [if_neg c] at h; simp at h
theorem posOf_at (p : Nat → Bool) : ∀ (L : List Nat) (k : Nat), k < posOf p L → p (L.getD k 0) = true
  | [], k, h => by simp [posOf] at h
  | y :: r, k, h => by
    unfold posOf at h
    by_cases c : p y = true
    · rw [if_pos c] at h
      cases k with
      | zero => exact c
      | succ k => exact posOf_at p r k (by omega)
    · rw [if_neg c] at h; omega
theorem posOf_stop (p : Nat → Bool) : ∀ L : List Nat, posOf p L < L.length → p (L.getD (posOf p L) 0) = false
  | [], h => by simp [posOf] at h
  | y :: r, h => by
    unfold posOf at h ⊢
    by_cases c : p y = true
    · rw [if_pos c] at h ⊢
      exact posOf_stop p r (by simpa using h)
    · rw [if_neg c]; simpa using c
theorem posOf_is (p : Nat → Bool) (L : List Nat) (k : Nat) (hk : k ≤ L.length) (h1 : ∀ i, i < k → p (L.getD i 0) = true) (h2 : k < L.length → p (L.getD k 0) = false) : k = posOf p L := by
  have a := posOf_le p L
  rcases Nat.lt_trichotomy k (posOf p L) with c | c | c
  · have := posOf_at p L k c; rw [h2 (by omega)] at this; cases this
  · exact c
  · have := posOf_stop p L (by omega); rw [h1 _ c] at this; cases this

/-- The document's order in which they are served. -/
def dsrv (S : Nat → Ord) : Nat → List Nat
  | 0 => []
  | i + 1 => (dsrv S i).take (posOf (fun j => !aheadAt S i j) (dsrv S i)) ++ i :: (dsrv S i).drop (posOf (fun j => !aheadAt S i j) (dsrv S i))
theorem dsrv_perm (S : Nat → Ord) : ∀ n, (dsrv S n).Perm (List.range n)
  | 0 => List.Perm.refl _
  | n + 1 => by
    have ih := dsrv_perm S n
    show ((dsrv S n).take _ ++ n :: (dsrv S n).drop _).Perm _
    refine List.perm_middle.trans ?_
    rw [List.take_append_drop, List.range_succ]
    exact (List.Perm.cons n ih).trans (List.perm_append_singleton n (List.range n)).symm
theorem dsrv_sorted (S : Nat → Ord) : ∀ n, (dsrv S n).Pairwise (fun x y => Z.ltp (aheadAt S) y x = false)
  | 0 => List.Pairwise.nil
  | n + 1 => by
    have ih := dsrv_sorted S n
    have hS := aheadAt_swo S
    have hlt : ∀ x ∈ dsrv S n, x < n := fun x hx => by simpa using (dsrv_perm S n).mem_iff.1 hx
    show ((dsrv S n).take _ ++ n :: (dsrv S n).drop _).Pairwise _
    have h1 := posOf_head (fun j => !aheadAt S n j) (dsrv S n)
    have h2 := posOf_stop (fun j => !aheadAt S n j) (dsrv S n)
    have hle := posOf_le (fun j => !aheadAt S n j) (dsrv S n)
    generalize posOf (fun j => !aheadAt S n j) (dsrv S n) = k at *
    generalize dsrv S n = L at *
    have hsplit : L = L.take k ++ L.drop k := (List.take_append_drop k L).symm
    rw [hsplit] at ih
    obtain ⟨i1, i2, i3⟩ := List.pairwise_append.1 ih
    have hd : ∀ y ∈ L.drop k, aheadAt S n y = true := fun y hy => by
      by_cases hk : k < L.length
      · have h3 := h2 hk
        simp only [Bool.not_eq_false'] at h3
        have e : L.drop k = L.getD k 0 :: L.drop (k + 1) := by
          rw [List.drop_eq_getElem_cons hk]
          simp [List.getD_eq_getElem?_getD, hk]
        rw [e] at hy i2
        rcases List.mem_cons.1 hy with rfl | hy
        · exact h3
        · have h4 := (List.pairwise_cons.1 i2).1 y hy
          have h5 : aheadAt S y (L.getD k 0) = false := by
            unfold Z.ltp at h4; exact (Bool.or_eq_false_iff.1 h4).1
          cases c : aheadAt S n y with
          | true => rfl
          | false => have := hS.ntrans _ _ _ c h5; rw [h3] at this; cases this
      · rw [List.drop_eq_nil_of_le (by omega)] at hy; simp at hy
    refine List.pairwise_append.2 ⟨i1, List.pairwise_cons.2 ⟨fun y hy => ?_, i2⟩, fun x hx y hy => ?_⟩
    · have h3 := hd y hy
      unfold Z.ltp
      rw [hS.asymmA h3, h3]; rfl
    · rcases List.mem_cons.1 hy with rfl | hy
      · have h3 := h1 x hx
        simp only [Bool.not_eq_true'] at h3
        have h4 := hlt x (List.mem_of_mem_take hx)
        unfold Z.ltp
        rw [h3, decide_eq_false (show ¬ y < x by omega)]
        simp
      · exact i3 x hx y hy
theorem dsrv_is (S : Nat → Ord) (n : Nat) : dsrv S n = served S n := Z.sorted_is (aheadAt_swo S) n _ (dsrv_perm S n) (dsrv_sorted S n)

/-! ### Orders of one list and of another: served alike -/
/-- Two lists that have the same orders, each code once: served alike, order by order. -/
theorem served_alike {S T : Nat → Ord} {n : Nat} (hS : ∀ i j, i < n → j < n → (S i).code = (S j).code → i = j) (hST : ((List.range n).map S).Perm ((List.range n).map T)) :
    ∀ k, k < n → S (srv S n k) = T (srv T n k) := by
  have hA : ∀ (U : Nat → Ord), ((served U n).map U).Perm ((List.range n).map U) := fun U => (served_perm U n).map U
  have hP : ((served S n).map S).Perm ((served T n).map T) := (hA S).trans (hST.trans (hA T).symm)
  have hW : ∀ (U : Nat → Ord), ((served U n).map U).Pairwise (fun x y => ahead y x = false) := fun U => by
    rw [← dsrv_is]
    refine List.pairwise_map.2 ((dsrv_sorted U n).imp fun {a b} h => ?_)
    unfold Z.ltp at h; exact (Bool.or_eq_false_iff.1 h).1
  have hE : (served S n).map S = (served T n).map T := by
    refine hP.eq_of_pairwise (le := fun x y => ahead y x = false) (fun a b ha hb h1 h2 => ?_) (hW S) (hW T)
    -- neither is ahead: the ranks and the codes are the same
    have hc : a.code = b.code := by
      unfold ahead at h1 h2
      simp only [Bool.or_eq_false_iff, Bool.and_eq_false_iff, decide_eq_false_iff_not] at h1 h2
      have hr : a.rank = b.rank := by omega
      have e1 := h1.2.resolve_left (by omega)
      have e2 := h2.2.resolve_left (by omega)
      have := bl_total _ _ e2 e1
      rw [ByteArray.toList_eq, ByteArray.toList_eq] at this
      rcases a with ⟨⟨⟨a⟩⟩, _, _, _, _, _⟩; rcases b with ⟨⟨⟨b⟩⟩, _, _, _, _, _⟩
      simp at this
      rw [this]
    obtain ⟨i, hi, rfl⟩ := List.mem_map.1 ha
    have hb' := hP.mem_iff.2 hb
    obtain ⟨j, hj, rfl⟩ := List.mem_map.1 hb'
    have hi' : i < n := by simpa using (served_perm S n).mem_iff.1 hi
    have hj' : j < n := by simpa using (served_perm S n).mem_iff.1 hj
    rw [hS i j hi' hj' hc]
  intro k hk
  have h1 : k < (served S n).length := by rw [served_len]; exact hk
  have h2 : k < (served T n).length := by rw [served_len]; exact hk
  have := congrArg (fun l => l[k]?) hE
  simp only [List.getElem?_map, List.getElem?_eq_getElem h1, List.getElem?_eq_getElem h2, Option.map_some, Option.some.injEq] at this
  unfold srv
  rw [List.getD_eq_getElem?_getD, List.getElem?_eq_getElem h1, List.getD_eq_getElem?_getD, List.getElem?_eq_getElem h2]
  exact this
end Go.Proofs.Ytjfcbflhnfjcfaa.S
