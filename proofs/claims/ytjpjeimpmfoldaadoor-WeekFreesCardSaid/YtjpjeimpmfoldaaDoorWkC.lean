/- The walk of the library's binary search, at days. -/
import Derived.Test.YtjpjeimpmfoldaaDoorWkB
import Derived.Deep.LoopGhost
namespace Go.Proofs.YtjpjeimpmfoldaaDoor.W
open Go.RowKit Go.Proofs.YtjpjeimpmfoldaaDoor.M Go.Proofs.YtjpjeimpmfoldaaDoor.WL

theorem nan_any (x : Int) (w : World) : Calls Tryd.prog 39 #[.int .i64 x] w fun e w' => e = .returned (.bool false) ∧ w = w' := by
  have h : (x != x) = false := by simp
  go_enter Tryd.func39, Tryd.ntmps39
  go_wp2
  go_ret
  exact ⟨rfl, rfl⟩
theorem snan_any (x : Int) (w : World) : Calls Tryd.prog 35 #[.int .i64 x] w fun e w' => e = .returned (.bool false) ∧ w = w' := by
  have h : (x != x) = false := by simp
  go_enter Tryd.func35, Tryd.ntmps35
  go_wp2
  go_ret
  exact ⟨rfl, rfl⟩
theorem ret_bool {a b : Bool} (h : a = b) : Ending.returned (.bool a) = .returned (.bool b) := by rw [h]
theorem less_yes (x y : Int) (w : World) (h : x < y) : Calls Tryd.prog 34 #[.int .i64 x, .int .i64 y] w fun e w' => e = .returned (.bool true) ∧ w = w' := by
  go_enter Tryd.func34, Tryd.ntmps34
  go_wp2_with (go_at_call 39; refine (nan_any _ _).mono ?_; rintro e w' ⟨rfl, rfl⟩)
  go_ret
  exact ⟨rfl, rfl⟩
theorem less_no (x y : Int) (w : World) (h : ¬ x < y) : Calls Tryd.prog 34 #[.int .i64 x, .int .i64 y] w fun e w' => e = .returned (.bool false) ∧ w = w' := by
  go_enter Tryd.func34, Tryd.ntmps34
  go_wp2_with (go_at_call 39; refine (nan_any _ _).mono ?_; rintro e w' ⟨rfl, rfl⟩)
  go_ret
  exact ⟨ret_bool (by simpa using h), rfl⟩

theorem sorted_at : ∀ {xs : List Int}, xs.Pairwise (· < ·) → ∀ a b, a < b → b < xs.length → xs.getD a 0 < xs.getD b 0
  | [], _, a, b, _, hb => absurd hb (by simp)
  | x :: r, h, 0, b + 1, _, hb => by
    have hb' : b < r.length := by simpa using hb
    have h2 : (x :: r).getD (b + 1) 0 = r[b] := by simp [List.getD_eq_getElem?_getD, hb']
    rw [h2]
    exact List.rel_of_pairwise_cons h (List.getElem_mem _)
  | x :: r, h, a + 1, b + 1, hab, hb => by
    have := sorted_at (List.Pairwise.of_cons h) a b (by omega) (by simpa using hb)
    simpa [List.getD_eq_getElem?_getD] using this
theorem mem_getD {xs : List Int} {x : Int} (h : x ∈ xs) : ∃ t, t < xs.length ∧ xs.getD t 0 = x := by
  obtain ⟨t, ht, e⟩ := List.getElem_of_mem h
  exact ⟨t, ht, by simp [List.getD_eq_getElem?_getD, ht, e]⟩
theorem getD_mem {xs : List Int} {t : Nat} (h : t < xs.length) : xs.getD t 0 ∈ xs := by
  have : xs.getD t 0 = xs[t] := by simp [List.getD_eq_getElem?_getD, h]
  rw [this]; exact List.getElem_mem _

def FoundAt (bb : Bool) (w : World) (e : Ending) (w' : World) : Prop := ∃ j : Nat, e = .returned (.tuple #[.int .i64 j, .bool bb]) ∧ w = w'

theorem search_any (a : Option Addr) (n cap : Nat) (xs : List Int) (x : Int) (w : World) (hx : Ints .i64 w a n cap xs) (hs : xs.Pairwise (· < ·)) (hn : n ≤ 4096) :
    Calls Tryd.prog 32 #[.slice a n cap, .int .i64 x] w (FoundAt (decide (x ∈ xs)) w) := by
  have hl := Lib.hid hx.len
  have S : Hid (∀ a b, a < b → b < xs.length → xs.getD a 0 < xs.getD b 0) := sorted_at hs
  clear hs
  go_enter Tryd.func32, Tryd.ntmps32
  go_wp2
  go_loop [7, 8] (fun s7 s8 => ∃ lo hi : Nat, s7 = .int .i64 lo ∧ s8 = .int .i64 hi ∧ lo ≤ hi ∧ hi ≤ n ∧ Hid ((∀ t, t < lo → xs.getD t 0 < x) ∧ (∀ t, hi ≤ t → t < n → x ≤ xs.getD t 0))) (fun s7 s8 => (intOf s8).toNat - (intOf s7).toNat)
  case atStart => exact ⟨0, n, rfl, rfl, Nat.zero_le _, Nat.le_refl _, ⟨fun t ht => absurd ht (Nat.not_lt_zero _), fun t h1 h2 => by omega⟩⟩
  case round =>
    obtain ⟨lo, hi, rfl, rfl, hlh, hin, I⟩ := hrel
    by_cases hlt : lo < hi
    · obtain ⟨b, off, rfl, hbl, cm⟩ := hx.at_ (j := (lo + hi) / 2) (by omega)
      generalize hy : xs.getD ((lo + hi) / 2) 0 = y at cm
      have Y : Hid (xs.getD ((lo + hi) / 2) 0 = y) := hy
      clear hy
      by_cases hyx : y < x
      · go_wp2_with (go_at_call 34; refine (less_yes _ _ _ hyx).mono ?_; rintro e w' ⟨rfl, rfl⟩)
        go_round
        case rel =>
          refine ⟨(lo + hi) / 2 + 1, hi, by rw [show ((lo : Int) + (hi : Int)) / 2 + 1 = (((lo + hi) / 2 + 1 : Nat) : Int) by omega], rfl, by omega, hin, ⟨fun t ht => ?_, I.out.2⟩⟩
          by_cases e : t = (lo + hi) / 2
          · subst e; rw [Y.out]; exact hyx
          · have := S.out t ((lo + hi) / 2) (by omega) (by rw [hl.out]; omega)
            rw [Y.out] at this; omega
        case measure => simp [intOf]; omega
      · go_wp2_with (go_at_call 34; refine (less_no _ _ _ hyx).mono ?_; rintro e w' ⟨rfl, rfl⟩)
        go_round
        case rel =>
          refine ⟨lo, (lo + hi) / 2, rfl, by rw [show ((lo : Int) + (hi : Int)) / 2 = (((lo + hi) / 2 : Nat) : Int) by omega], by omega, by omega, ⟨I.out.1, fun t ht htn => ?_⟩⟩
          by_cases e : t = (lo + hi) / 2
          · subst e; rw [Y.out]; omega
          · have := S.out ((lo + hi) / 2) t (by omega) (by rw [hl.out]; omega)
            rw [Y.out] at this; omega
        case measure => simp [intOf]; omega
    · obtain rfl : hi = lo := by omega
      by_cases hn' : hi < n
      · obtain ⟨b, off, rfl, hbl, cm⟩ := hx.at_ hn'
        generalize hy : xs.getD hi 0 = y at cm
        have Y : Hid (xs.getD hi 0 = y) := hy
        clear hy
        by_cases hyx : y = x
        · subst hyx
          have ey : (y == y) = true := by simp
          have D : Hid (decide (y ∈ xs) = true) := by
            show _ = _
            simp only [decide_eq_true_eq]
            have h := getD_mem (xs := xs) (t := hi) (by rw [hl.out]; exact hn')
            rw [Y.out] at h
            exact h
          go_wp2_with fail
          go_ret2
          exact ⟨hi, by rw [D.out]; rfl, rfl⟩
        · have ey : (y == x) = false := by simp [hyx]
          have D : Hid (decide (x ∈ xs) = false) := by
            show _ = _
            simp only [decide_eq_false_iff_not]
            intro h
            obtain ⟨t, ht, e⟩ := mem_getD h
            rw [hl.out] at ht
            rcases Nat.lt_trichotomy t hi with c | c | c
            · have := I.out.1 t c; omega
            · subst c; rw [Y.out] at e; exact hyx e
            · have h1 := I.out.2 hi (Nat.le_refl _) hn'
              rw [Y.out] at h1
              have := S.out hi t c (by rw [hl.out]; exact ht)
              rw [Y.out] at this
              omega
          go_wp2_with (go_at_call 35; refine (snan_any _ _).mono ?_; rintro e w' ⟨rfl, rfl⟩)
          go_ret2
          exact ⟨hi, by rw [D.out]; rfl, rfl⟩
      · have D : Hid (decide (x ∈ xs) = false) := by
          show _ = _
          simp only [decide_eq_false_iff_not]
          intro h
          obtain ⟨t, ht, e⟩ := mem_getD h
          rw [hl.out] at ht
          have := I.out.1 t (by omega)
          omega
        go_wp2_with fail
        go_ret2
        exact ⟨hi, by rw [D.out]; rfl, rfl⟩

end Go.Proofs.YtjpjeimpmfoldaaDoor.W
