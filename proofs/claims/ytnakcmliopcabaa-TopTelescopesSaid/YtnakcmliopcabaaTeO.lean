/- Plain facts: rows of encoded elements; the one sorted list of a table's lines. -/
import Derived.Test.YtnakcmliopcabaaTeI
import Derived.Lib.OwnBridge
namespace Go.Proofs.Ytnakcmliopcabaa.W
open Go.RowKit Go.Lib Go.Sort Go.Proofs Go.Shelf Go.Proofs.Ytnakcmliopcabaa.M Go.Proofs.Ytnakcmliopcabaa.S
set_option linter.unusedVariables false

theorem flat_len {α : Type} (enc : α → List Value) {k : Nat} (hk : ∀ x, (enc x).length = k) : ∀ xs : List α, (xs.flatMap enc).length = xs.length * k
  | [] => by simp
  | x :: r => by rw [List.flatMap_cons, List.length_append, hk, flat_len enc hk r, List.length_cons, Nat.succ_mul, Nat.add_comm]
theorem flat_at {α : Type} (enc : α → List Value) {k : Nat} (hk : ∀ x, (enc x).length = k) : ∀ (xs : List α) (j : Nat) (x : α), xs[j]? = some x → ∀ i u, (enc x)[i]? = some u → (xs.flatMap enc)[j * k + i]? = some u
  | [], j, x, h => by simp at h
  | y :: r, 0, x, h => fun i u hu => by
    simp at h; subst h
    rw [List.flatMap_cons, Nat.zero_mul, Nat.zero_add, List.getElem?_append_left (List.getElem?_eq_some_iff.1 hu).1]
    exact hu
  | y :: r, j + 1, x, h => fun i u hu => by
    rw [List.flatMap_cons, List.getElem?_append_right (by rw [hk, Nat.succ_mul]; omega), hk, show (j + 1) * k + i - k = j * k + i by rw [Nat.succ_mul]; omega]
    exact flat_at enc hk r j x (by simpa using h) i u hu
theorem holdsK_row {α : Type} [Inhabited α] (enc : α → List Value) {k : Nat} (hk : ∀ x, (enc x).length = k) (hk0 : 0 < k) {w : World} {base : Nat} {e : TypeId} {g cap n : Nat} {xs : List α} (hn : xs.length = n) (h : w.ownsRow base e k (.slice (some ⟨g, 0, none⟩) n cap) n (xs.flatMap enc)) : HoldsK enc k w g 0 xs.toArray := by
  intro t ht
  have ht' : t < xs.length * k := by rwa [size_flatK, List.size_toArray] at ht
  rw [Nat.zero_add]
  refine ⟨?_, h.frozenAt t⟩
  rw [h.cellAt t (by rw [← hn]; exact ht'), get_flatK _ _ _ _ (by rw [List.size_toArray]; exact ht')]
  have hq : t / k < xs.length := by rw [Nat.div_lt_iff_lt_mul hk0]; exact ht'
  have hr : t % k < k := Nat.mod_lt _ hk0
  have he : t / k * k + t % k = t := by rw [Nat.mul_comm]; exact Nat.div_add_mod t k
  have hlen : t % k < (enc xs[t / k]).length := by rw [hk]; exact hr
  have h3 := flat_at enc hk xs (t / k) _ (List.getElem?_eq_getElem hq) (t % k) _ (List.getElem?_eq_getElem hlen)
  rw [he] at h3
  rw [h3]
  have e1 : xs.toArray[t / k]! = xs[t / k] := by rw [getElem!_pos _ _ (by simpa using hq)]; simp
  rw [e1]
  exact congrArg some (getElem!_pos (enc xs[t / k]) (t % k) hlen).symm

theorem sorted_eq : ∀ {xs ys : List Nat}, xs.Pairwise (· < ·) → ys.Pairwise (· < ·) → (∀ i, i ∈ xs ↔ i ∈ ys) → xs = ys
  | [], [], _, _, _ => rfl
  | [], y :: r, _, _, h => absurd ((h y).2 (by simp)) (by simp)
  | x :: r, [], _, _, h => absurd ((h x).1 (by simp)) (by simp)
  | x :: r, y :: s, hx, hy, h => by
    rw [List.pairwise_cons] at hx hy
    have h1 := (h x).1 (by simp)
    have h2 := (h y).2 (by simp)
    rw [List.mem_cons] at h1 h2
    have e : x = y := by
      rcases h1 with h1 | h1
      · exact h1
      · rcases h2 with h2 | h2
        · exact h2.symm
        · have := hy.1 x h1
          have := hx.1 y h2
          omega
    subst e
    rw [sorted_eq hx.2 hy.2 (fun i => by
      have h3 := h i
      rw [List.mem_cons, List.mem_cons] at h3
      constructor
      · intro hi
        rcases h3.1 (.inr hi) with e | e
        · have := hx.1 i hi; omega
        · exact e
      · intro hi
        rcases h3.2 (.inr hi) with e | e
        · have := hy.1 i hi; omega
        · exact e)]
/-- The one rising order of what a table's lines are. -/
theorem lines_sorted {T : Nat → Int} {xs : List (Nat × Int)} {d' : Array (Nat × Int)} (hnd : (xs.map (·.1)).Nodup) (hx : ∀ x, x ∈ xs ↔ x.1 < 28 ∧ T x.1 ≠ 0 ∧ x.2 = T x.1)
    (hp : PermIn 0 xs.toArray.size xs.toArray d') (hs : SortedIn (fun x y : Nat × Int => decide (x.1 < y.1)) 0 xs.toArray.size d') : d'.toList = (idx T 28).map (fun i => (i, T i)) ∧ xs.length = ln T := by
  obtain ⟨hsz, _, hperm⟩ := hp
  have hsz' : d'.size = xs.length := by simpa using hsz
  have e1 : (xs.toArray.extract 0 xs.toArray.size).toList = xs := by simp
  have e2 : (d'.extract 0 xs.toArray.size).toList = d'.toList := by
    simp [← hsz']
  rw [e1, e2] at hperm
  have hnd' : (d'.toList.map (·.1)).Nodup := (hperm.map _).nodup_iff.2 hnd
  have hup : (d'.toList.map (·.1)).Pairwise (· < ·) := by
    rw [List.pairwise_iff_getElem]
    intro i j hi hj hij
    rw [List.length_map] at hi hj
    rw [Array.length_toList] at hi hj
    have h1 := hs i j (Nat.zero_le _) hij (by rw [← hsz]; exact hj)
    rw [getElem!_pos d' i hi, getElem!_pos d' j hj] at h1
    have h2 : ¬ d'[j].1 < d'[i].1 := of_decide_eq_false h1
    have h3 : (d'.toList.map (·.1))[i]'(by simpa using hi) ≠ (d'.toList.map (·.1))[j]'(by simpa using hj) := fun e => by
      have := (List.getElem_inj hnd').1 e
      omega
    simp only [List.getElem_map, Array.getElem_toList] at h3 ⊢
    omega
  have hmem : ∀ x, x ∈ d'.toList ↔ x.1 < 28 ∧ T x.1 ≠ 0 ∧ x.2 = T x.1 := fun x => by rw [hperm.mem_iff]; exact hx x
  have hfst : d'.toList.map (·.1) = idx T 28 := sorted_eq hup (idx_up T 28) (fun i => by
    rw [idx_mem, List.mem_map]
    constructor
    · rintro ⟨x, hx1, rfl⟩
      have := (hmem x).1 hx1
      exact ⟨this.1, this.2.1⟩
    · rintro ⟨h1, h2⟩
      exact ⟨(i, T i), (hmem (i, T i)).2 ⟨h1, h2, rfl⟩, rfl⟩)
  constructor
  · rw [← hfst, List.map_map]
    refine (List.map_id' d'.toList).symm.trans (List.map_congr_left fun x hx1 => ?_)
    have := (hmem x).1 hx1
    show x = (x.1, T x.1)
    rw [← this.2.2]
  · unfold ln
    rw [← hfst, List.length_map, Array.length_toList]
    exact hsz'.symm
end Go.Proofs.Ytnakcmliopcabaa.W
