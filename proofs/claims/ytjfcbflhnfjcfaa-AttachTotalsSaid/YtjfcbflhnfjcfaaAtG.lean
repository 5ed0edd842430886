/- The plain law of AttachTotals: net by net, what was taken so far is what was taken, and no more than a total. -/
import Derived.Test.YtjfcbflhnfjcfaaAtR
import Derived.Test.YtjfcbflhnfjcfaaRow
namespace Go.Proofs.Ytjfcbflhnfjcfaa.S
open Go.Proofs.Ytjfcbflhnfjcfaa.B Go.Proofs.Ytjfcbflhnfjcfaa.M
set_option linter.unusedVariables false

/-- What the first m of a list have of a code, together. -/
def isum (f : Nat → ByteArray × Int) (c : ByteArray) : Nat → Int
  | 0 => 0
  | m + 1 => isum f c m + if (f m).1 = c then (f m).2 else 0
theorem isum_congr {f f' : Nat → ByteArray × Int} {c : ByteArray} : ∀ m, (∀ j, j < m → f j = f' j) → isum f c m = isum f' c m
  | 0, _ => rfl
  | m + 1, h => by unfold isum; rw [isum_congr m (fun j hj => h j (by omega)), h m (by omega)]
theorem isum_mono {f : Nat → ByteArray × Int} {c : ByteArray} : ∀ m, (∀ j, j < m → 0 ≤ (f j).2) → ∀ k, k ≤ m → 0 ≤ isum f c k ∧ isum f c k ≤ isum f c m
  | 0, _, k, hk => by obtain rfl : k = 0 := by omega
                      exact ⟨Int.le_refl _, Int.le_refl _⟩
  | m + 1, h, k, hk => by
    have h1 := isum_mono (c := c) m (fun j hj => h j (by omega))
    have h2 := h m (by omega)
    have h3 := h1 m (Nat.le_refl _)
    have h4 : isum f c m ≤ isum f c (m + 1) := by
      show isum f c m ≤ isum f c m + if (f m).1 = c then (f m).2 else 0
      split <;> omega
    by_cases e : k = m + 1
    · subst e; exact ⟨by omega, Int.le_refl _⟩
    · have := h1 k (by omega)
      omega
abbrev itAt (net : Int) (g : Mp) (O : Nat → Ord) (n : Nat) : Nat → ByteArray × Int := fun j => (itemsK net g O n).getD j (cA, 0)
theorem items_pos {net : Int} {g : Mp} {O : Nat → Ord} : ∀ k, ∀ p ∈ itemsK net g O k, 0 < p.2
  | 0, p, h => by simp [itemsK] at h
  | k + 1, p, h => by
    rw [items_succ] at h
    by_cases c : 0 < takeK net g O k
    · rw [if_pos c] at h
      rcases List.mem_append.1 h with h | h
      · exact items_pos k p h
      · obtain rfl := List.mem_singleton.1 h
        exact c
    · rw [if_neg c] at h; exact items_pos k p h
theorem itAt_pos {net : Int} {g : Mp} {O : Nat → Ord} {n : Nat} (j : Nat) (hj : j < (itemsK net g O n).length) : 0 ≤ (itAt net g O n j).2 := by
  have h : itAt net g O n j ∈ itemsK net g O n := by
    show (itemsK net g O n).getD j (cA, 0) ∈ _
    rw [List.getD_eq_getElem?_getD, List.getElem?_eq_getElem hj]
    exact List.getElem_mem hj
  exact Int.le_of_lt (items_pos n _ h)
theorem isum_items {net : Int} {g : Mp} {O : Nat → Ord} {n : Nat} (hA : apart O n) {j : Nat} (hj : j < n) : ∀ k, k ≤ n → isum (itAt net g O k) (O j).code (itemsK net g O k).length = if j < k then takeK net g O j else 0
  | 0, _ => by simp [itemsK, isum]
  | k + 1, hk => by
    have ih := isum_items (net := net) (g := g) hA hj k (by omega)
    by_cases c : 0 < takeK net g O k
    · have e : itemsK net g O (k + 1) = itemsK net g O k ++ [((O k).code, takeK net g O k)] := by rw [items_succ, if_pos c]
      have hlen : (itemsK net g O (k + 1)).length = (itemsK net g O k).length + 1 := by rw [e]; simp
      rw [hlen]
      unfold isum
      have h1 : isum (itAt net g O (k + 1)) (O j).code (itemsK net g O k).length = isum (itAt net g O k) (O j).code (itemsK net g O k).length := isum_congr _ (fun q hq => by
        show (itemsK net g O (k + 1)).getD q (cA, 0) = (itemsK net g O k).getD q (cA, 0)
        rw [e, List.getD_eq_getElem?_getD, List.getD_eq_getElem?_getD, List.getElem?_append_left hq])
      have h2 : itAt net g O (k + 1) (itemsK net g O k).length = ((O k).code, takeK net g O k) := by
        show (itemsK net g O (k + 1)).getD _ (cA, 0) = _
        rw [e, List.getD_eq_getElem?_getD, List.getElem?_append_right (Nat.le_refl _), Nat.sub_self]; rfl
      rw [h1, h2, ih]
      simp only
      by_cases ek : j = k
      · subst ek; rw [if_neg (by omega), if_pos rfl, if_pos (by omega)]; omega
      · have hne : ¬ (O k).code = (O j).code := fun h => ek (hA j k hj (by omega) h.symm)
        rw [if_neg hne]
        by_cases hlt : j < k
        · rw [if_pos hlt, if_pos (by omega)]; omega
        · rw [if_neg hlt, if_neg (by omega)]; omega
    · have e : itemsK net g O (k + 1) = itemsK net g O k := by rw [items_succ, if_neg c]
      have h0 : takeK net g O k = 0 := by have := takeK_nonneg (net := net) (g := g) (O := O) k; omega
      show isum (fun q => (itemsK net g O (k + 1)).getD q (cA, 0)) _ _ = _
      rw [e, ih]
      by_cases ek : j = k
      · subst ek; rw [if_neg (by omega), if_pos (by omega), h0]
      · by_cases hlt : j < k
        · rw [if_pos hlt, if_pos (by omega)]
        · rw [if_neg hlt, if_neg (by omega)]
theorem outK_ok {net : Int} {g : Mp} {O : Nat → Ord} (s : ByteArray) : ∀ n, terr net g O n = 0 → I64 (was g s) → I64 (was (outK net g O n) s)
  | 0, _, h => h
  | n + 1, ht, h => by
    have h1 := (terr_zero (n + 1)).1 ht n (by omega)
    have h0 := outK_ok s n ((terr_zero n).2 (fun k hk => (terr_zero (n + 1)).1 ht k (by omega))) h
    unfold was outK upd
    by_cases e : s = (O n).code
    · rw [if_pos e]
      have := h1.2
      unfold fit at this
      show I64 _
      unfold I64
      simp only [Option.getD_some]
      omega
    · rw [if_neg e]; exact h0

/-- What was taken is within the totals. -/
def within (S : Nat → Ord) (n : Nat) (g : Mp) : Prop := (∀ s, I64 (was g s)) ∧ ∀ k, k < n → 0 < (S k).total → was g (S k).code ≤ (S k).total
theorem within_none (S : Nat → Ord) (n : Nat) (h : ∀ k, k < n → True) : within S n (fun _ => none) := ⟨fun s => by show I64 0; unfold I64; omega, fun k hk h => by show (0 : Int) ≤ _; omega⟩
/-- The sums behind a net: what was there, and what was taken; within the totals again. -/
theorem totals_next {net : Int} {g : Mp} {S : Nat → Ord} {n : Nat} (hc : check S n = 0) (ht : terr net g (srvO S n) n = 0) (hw : within S n g) :
    within S n (outK net g (srvO S n) n) ∧ ∀ i, i < n → (0 ≤ was g (S i).code ∧ was g (S i).code ≤ 1125899906842624) ∧ (0 ≤ outAt net g S n i ∧ outAt net g S n i ≤ 1125899906842624) ∧
      outAt net g S n i = was g (S i).code + isum (itAt net g (srvO S n) n) (S i).code (itemsK net g (srvO S n) n).length ∧ (0 < (S i).total → outAt net g S n i ≤ (S i).total ∧ leftP (outAt net g S n i) (S i).total = (S i).total - outAt net g S n i) := by
  obtain ⟨_, hA, hR, _⟩ := check_right hc
  have main : ∀ i, i < n → (0 ≤ was g (S i).code ∧ was g (S i).code ≤ 1125899906842624) ∧ (0 ≤ outAt net g S n i ∧ outAt net g S n i ≤ 1125899906842624) ∧
      outAt net g S n i = was g (S i).code + isum (itAt net g (srvO S n) n) (S i).code (itemsK net g (srvO S n) n).length ∧ (0 < (S i).total → outAt net g S n i ≤ (S i).total ∧ leftP (outAt net g S n i) (S i).total = (S i).total - outAt net g S n i) := fun i hi => by
    obtain ⟨k, hk, rfl, e⟩ := outAt_pos (net := net) (g := g) hA hi
    have h1 := (terr_zero n).1 ht k hk
    have h2 := isum_items (net := net) (g := g) (apart_srv hA) hk n (Nat.le_refl n)
    rw [if_pos hk] at h2
    have h3 := takeK_nonneg (net := net) (g := g) (O := srvO S n) k
    have h4 := takes_bd net (leftK net g (srvO S n) k) (was g (srvO S n k).code) (srvO S n k)
    have hr := (hR _ (srv_lt S hk)).2.2.2.2.2.2
    have hwk := hw.2 _ (srv_lt S hk)
    change (0 ≤ takeK net g (srvO S n) k) ∧ (0 < takeK net g (srvO S n) k → _ ∧ takeK net g (srvO S n) k ≤ leftP (was g (S (srv S n k)).code) (S (srv S n k)).total ∧ _) at h4
    change amt (was g (S (srv S n k)).code) ∧ fit (was g (S (srv S n k)).code + takeK net g (srvO S n) k) at h1
    change isum _ (S (srv S n k)).code _ = _ at h2
    unfold amt fit at h1
    unfold amt at hr
    refine ⟨h1.1, ⟨by omega, by omega⟩, by rw [e, h2], fun h0 => ?_⟩
    have h5 := hwk h0
    have h6 : outAt net g S n (srv S n k) ≤ (S (srv S n k)).total := by
      rw [e]
      by_cases c : 0 < takeK net g (srvO S n) k
      · have h7 := (h4.2 c).2.1
        have h8 : leftP (was g (S (srv S n k)).code) (S (srv S n k)).total ≤ (S (srv S n k)).total - was g (S (srv S n k)).code := by
          unfold leftP
          simp only
          repeat' split
          all_goals omega
        omega
      · omega
    refine ⟨h6, ?_⟩
    have h9 : 0 ≤ outAt net g S n (srv S n k) := by omega
    generalize outAt net g S n (srv S n k) = o at *
    unfold leftP
    simp only
    repeat' split
    all_goals omega
  exact ⟨⟨fun s => outK_ok s n ht (hw.1 s), fun k hk h0 => ((main k hk).2.2.2 h0).1⟩, main⟩
/-- The sums behind i nets. -/
def GK (net : Nat → Int) (S : Nat → Ord) (n : Nat) : Nat → Mp
  | 0 => fun _ => none
  | i + 1 => outK (net i) (GK net S n i) (srvO S n) n
end Go.Proofs.Ytjfcbflhnfjcfaa.S
