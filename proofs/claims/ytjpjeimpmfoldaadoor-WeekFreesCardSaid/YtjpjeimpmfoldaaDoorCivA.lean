/- The walks of civil: leap years, months, years, days. -/
import Derived.Test.YtjpjeimpmfoldaaDoorMem
import Derived.Test.YtjpjeimpmfoldaaDoorCal
import Derived.Test.YtjpjeimpmfoldaaDoorProg
import Derived.WalkKit
import Derived.Outline
import Derived.BigQuiet
import Derived.WalkLawsBesides
import Derived.Deep.QuietTactic
import Derived.Deep.RegionWith
import Derived.Lib.Hide
namespace Go.Proofs.YtjpjeimpmfoldaaDoor.W
open Go.RowKit Go.Proofs.YtjpjeimpmfoldaaDoor.M

/-- The table of the months' lengths, as memory holds it. -/
def Tab (w : World) : Prop := 0 < w.heap.size ∧ ∀ j, j < 12 → w.cell? ⟨0, j, none⟩ = some (.int .i64 (Cal.lens.getD j 0))
theorem Tab.next {B : Nat} {w w' : World} (h : Tab w) (hb : Below B w w') (hB : w.heap.size ≤ B) : Tab w' :=
  ⟨Nat.lt_of_lt_of_le h.1 hb.size, fun j hj => bc hb (Nat.lt_of_lt_of_le h.1 hB) (h.2 j hj)⟩
theorem Tab.step {w w' : World} (h : Tab w) (hb : Below w.heap.size w w') : Tab w' := h.next hb (Nat.le_refl _)
theorem Tab.alloc {w : World} (h : Tab w) (o : Obj) : Tab (w.alloc o) := h.step (balloc (Below.refl _ _) o)
theorem Tab.drewN {w : World} (h : Tab w) (n : Nat) : Tab (w.drewN n) := h
theorem Tab.drew {w : World} (h : Tab w) : Tab w.drew := h

theorem leap_yes (y : Int) (w : World) (h0 : 1900 ≤ y) (_h1 : y ≤ 2199) (h : Cal.lp y = 1) :
    Calls Tryd.prog 40 #[.int .i64 y] w fun e w' => e = .returned (.bool true) ∧ w = w' := by
  have h' : y % 4 = 0 ∧ (y % 100 ≠ 0 ∨ y % 400 = 0) := by
    unfold Cal.lp at h; by_cases c : y % 4 = 0 ∧ (y % 100 ≠ 0 ∨ y % 400 = 0)
    · exact c
    · rw [if_neg c] at h; omega
  clear h
  obtain ⟨h4, h⟩ := h'
  have e4 : (y % 4 == 0) = true := beq_iff_eq.2 h4
  by_cases c : y % 100 = 0
  · have e1 : (y % 100 == 0) = true := beq_iff_eq.2 c
    have e1' : (y % 100 != 0) = false := by simp [c]
    have e2 : (y % 400 == 0) = true := beq_iff_eq.2 (by omega)
    clear h4 h c
    go_enter Tryd.func40, Tryd.ntmps40
    go_wp2
    go_ret
    exact ⟨rfl, rfl⟩
  · have e1 : (y % 100 == 0) = false := beq_eq_false_iff_ne.2 c
    have e1' : (y % 100 != 0) = true := by simp [c]
    clear h4 h c
    go_enter Tryd.func40, Tryd.ntmps40
    go_wp2
    go_ret
    exact ⟨rfl, rfl⟩

theorem leap_no (y : Int) (w : World) (h0 : 1900 ≤ y) (_h1 : y ≤ 2199) (h : Cal.lp y = 0) :
    Calls Tryd.prog 40 #[.int .i64 y] w fun e w' => e = .returned (.bool false) ∧ w = w' := by
  have h' : ¬ (y % 4 = 0 ∧ (y % 100 ≠ 0 ∨ y % 400 = 0)) := by
    intro c; unfold Cal.lp at h; rw [if_pos c] at h; omega
  clear h
  by_cases c4 : y % 4 = 0
  · have e4 : (y % 4 == 0) = true := beq_iff_eq.2 c4
    have e1 : (y % 100 == 0) = true := beq_iff_eq.2 (by omega)
    have e1' : (y % 100 != 0) = false := by simp; omega
    have e2 : (y % 400 == 0) = false := beq_eq_false_iff_ne.2 (by omega)
    clear h' c4
    go_enter Tryd.func40, Tryd.ntmps40
    go_wp2
    go_ret
    exact ⟨rfl, rfl⟩
  · have e4 : (y % 4 == 0) = false := beq_eq_false_iff_ne.2 c4
    have e2 : (y % 400 == 0) = false := beq_eq_false_iff_ne.2 (by omega)
    clear h' c4
    go_enter Tryd.func40, Tryd.ntmps40
    go_wp2
    go_ret
    exact ⟨rfl, rfl⟩

theorem start_any (y : Int) (w : World) (h0 : 1 ≤ y) (h1 : y ≤ 3000) :
    Calls Tryd.prog 37 #[.int .i64 y] w fun e w' => e = .returned (.int .i64 (Cal.st y)) ∧ w = w' := by
  go_enter Tryd.func37, Tryd.ntmps37
  go_wp2
  go_ret
  exact ⟨rfl, rfl⟩

theorem in_yes (d : Int) (w : World) (h0 : -25567 ≤ d) (h1 : d ≤ 84005) :
    Calls Tryd.prog 31 #[.int .i64 d] w fun e w' => e = .returned (.bool true) ∧ w = w' := by
  have h1' : d < 84006 := by omega
  go_enter Tryd.func31, Tryd.ntmps31
  go_wp2
  go_ret
  exact ⟨rfl, rfl⟩
theorem in_no (d : Int) (w : World) (h : d < -25567 ∨ 84005 < d) :
    Calls Tryd.prog 31 #[.int .i64 d] w fun e w' => e = .returned (.bool false) ∧ w = w' := by
  rcases h with h | h
  · have h' : ¬ -25567 ≤ d := by omega
    go_enter Tryd.func31, Tryd.ntmps31
    go_wp2
    go_ret
    exact ⟨rfl, rfl⟩
  · have h0 : -25567 ≤ d := by omega
    have h' : ¬ d < 84006 := by omega
    go_enter Tryd.func31, Tryd.ntmps31
    go_wp2
    go_ret
    exact ⟨rfl, rfl⟩

theorem weekday_yes (d : Int) (w : World) (h0 : -25567 ≤ d) (h1 : d ≤ 84005) :
    Calls Tryd.prog 26 #[.int .i64 d] w fun e w' => e = .returned (.int .i64 ((d + 25567) % 7)) ∧ w = w' := by
  have e : d - -25567 = d + 25567 := by omega
  go_enter Tryd.func26, Tryd.ntmps26
  go_wp2_with (go_at_call 31; refine (in_yes d _ h0 h1).mono ?_; rintro e w' ⟨rfl, rfl⟩)
  go_ret
  exact ⟨rfl, rfl⟩
theorem weekday_no (d : Int) (w : World) (h : d < -25567 ∨ 84005 < d) :
    Calls Tryd.prog 26 #[.int .i64 d] w fun e w' => e = .returned (.int .i64 (-1)) ∧ w = w' := by
  go_enter Tryd.func26, Tryd.ntmps26
  go_wp2_with (go_at_call 31; refine (in_no d _ h).mono ?_; rintro e w' ⟨rfl, rfl⟩)
  go_ret
  exact ⟨rfl, rfl⟩

theorem monthdays_any (y m : Int) (w : World) (ht : Tab w) (_hy : -9223372036854775808 ≤ y ∧ y ≤ 9223372036854775807) (_hm : -9223372036854775808 ≤ m ∧ m ≤ 9223372036854775807) :
    Calls Tryd.prog 36 #[.int .i64 y, .int .i64 m] w fun e w' => e = .returned (.int .i64 (Cal.MD y m)) ∧ w = w' := by
  by_cases g : y < 1900
  · have hr : Cal.MD y m = 0 := by unfold Cal.MD; rw [if_neg (by omega)]
    rw [hr]; clear hr
    go_enter Tryd.func36, Tryd.ntmps36
    go_wp2
    go_ret
    exact ⟨rfl, rfl⟩
  have g0 : ¬ y < 1900 := g
  clear g
  by_cases g : 2199 < y
  · have hr : Cal.MD y m = 0 := by unfold Cal.MD; rw [if_neg (by omega)]
    rw [hr]; clear hr
    go_enter Tryd.func36, Tryd.ntmps36
    go_wp2
    go_ret
    exact ⟨rfl, rfl⟩
  have g1 : ¬ 2199 < y := g
  clear g
  by_cases g : m < 1
  · have hr : Cal.MD y m = 0 := by unfold Cal.MD; rw [if_neg (by omega)]
    rw [hr]; clear hr
    go_enter Tryd.func36, Tryd.ntmps36
    go_wp2
    go_ret
    exact ⟨rfl, rfl⟩
  have g2 : ¬ m < 1 := g
  clear g
  by_cases g : 12 < m
  · have hr : Cal.MD y m = 0 := by unfold Cal.MD; rw [if_neg (by omega)]
    rw [hr]; clear hr
    go_enter Tryd.func36, Tryd.ntmps36
    go_wp2
    go_ret
    exact ⟨rfl, rfl⟩
  have hr : Cal.MD y m = Cal.len y m := by unfold Cal.MD; rw [if_pos (by omega)]
  rw [hr]; clear hr
  have hm : m = 1 ∨ m = 2 ∨ m = 3 ∨ m = 4 ∨ m = 5 ∨ m = 6 ∨ m = 7 ∨ m = 8 ∨ m = 9 ∨ m = 10 ∨ m = 11 ∨ m = 12 := by omega
  clear g g2 _hm
  have y0 : 1900 ≤ y := by omega
  have y1 : y ≤ 2199 := by omega
  rcases hm with rfl | rfl | rfl | rfl | rfl | rfl | rfl | rfl | rfl | rfl | rfl | rfl
  · have hr : Cal.len y 1 = 31 := by unfold Cal.len; rw [if_neg (by decide), if_neg (by decide)]
    rw [hr]; clear hr
    have hc' : w.cell? ⟨0, 0, none⟩ = some (.int .i64 31) := ht.2 0 (by decide)
    clear ht
    go_enter Tryd.func36, Tryd.ntmps36
    go_wp2
    go_ret
    exact ⟨rfl, rfl⟩
  · rcases (show Cal.lp y = 1 ∨ Cal.lp y = 0 by have := Cal.lp_01 y; omega) with hl | hl
    · have hr : Cal.len y 2 = 29 := by unfold Cal.len; rw [if_pos rfl, hl]; rfl
      rw [hr]; clear hr
      go_enter Tryd.func36, Tryd.ntmps36
      go_wp2_with (go_at_call 40; refine (leap_yes y _ y0 y1 hl).mono ?_; rintro e w' ⟨rfl, rfl⟩)
      go_ret
      exact ⟨rfl, rfl⟩
    · have hr : Cal.len y 2 = 28 := by unfold Cal.len; rw [if_pos rfl, hl]; rfl
      rw [hr]; clear hr
      have hc := ht.2 1 (by decide)
      have hc' : w.cell? ⟨0, 1, none⟩ = some (.int .i64 28) := hc
      clear hc ht
      go_enter Tryd.func36, Tryd.ntmps36
      go_wp2_with (go_at_call 40; refine (leap_no y _ y0 y1 hl).mono ?_; rintro e w' ⟨rfl, rfl⟩)
      go_ret
      exact ⟨rfl, rfl⟩
  · have hr : Cal.len y 3 = 31 := by unfold Cal.len; rw [if_neg (by decide), if_neg (by decide)]
    rw [hr]; clear hr
    have hc' : w.cell? ⟨0, 2, none⟩ = some (.int .i64 31) := ht.2 2 (by decide)
    clear ht
    go_enter Tryd.func36, Tryd.ntmps36
    go_wp2
    go_ret
    exact ⟨rfl, rfl⟩
  · have hr : Cal.len y 4 = 30 := by unfold Cal.len; rw [if_neg (by decide), if_pos (by decide)]
    rw [hr]; clear hr
    have hc' : w.cell? ⟨0, 3, none⟩ = some (.int .i64 30) := ht.2 3 (by decide)
    clear ht
    go_enter Tryd.func36, Tryd.ntmps36
    go_wp2
    go_ret
    exact ⟨rfl, rfl⟩
  · have hr : Cal.len y 5 = 31 := by unfold Cal.len; rw [if_neg (by decide), if_neg (by decide)]
    rw [hr]; clear hr
    have hc' : w.cell? ⟨0, 4, none⟩ = some (.int .i64 31) := ht.2 4 (by decide)
    clear ht
    go_enter Tryd.func36, Tryd.ntmps36
    go_wp2
    go_ret
    exact ⟨rfl, rfl⟩
  · have hr : Cal.len y 6 = 30 := by unfold Cal.len; rw [if_neg (by decide), if_pos (by decide)]
    rw [hr]; clear hr
    have hc' : w.cell? ⟨0, 5, none⟩ = some (.int .i64 30) := ht.2 5 (by decide)
    clear ht
    go_enter Tryd.func36, Tryd.ntmps36
    go_wp2
    go_ret
    exact ⟨rfl, rfl⟩
  · have hr : Cal.len y 7 = 31 := by unfold Cal.len; rw [if_neg (by decide), if_neg (by decide)]
    rw [hr]; clear hr
    have hc' : w.cell? ⟨0, 6, none⟩ = some (.int .i64 31) := ht.2 6 (by decide)
    clear ht
    go_enter Tryd.func36, Tryd.ntmps36
    go_wp2
    go_ret
    exact ⟨rfl, rfl⟩
  · have hr : Cal.len y 8 = 31 := by unfold Cal.len; rw [if_neg (by decide), if_neg (by decide)]
    rw [hr]; clear hr
    have hc' : w.cell? ⟨0, 7, none⟩ = some (.int .i64 31) := ht.2 7 (by decide)
    clear ht
    go_enter Tryd.func36, Tryd.ntmps36
    go_wp2
    go_ret
    exact ⟨rfl, rfl⟩
  · have hr : Cal.len y 9 = 30 := by unfold Cal.len; rw [if_neg (by decide), if_pos (by decide)]
    rw [hr]; clear hr
    have hc' : w.cell? ⟨0, 8, none⟩ = some (.int .i64 30) := ht.2 8 (by decide)
    clear ht
    go_enter Tryd.func36, Tryd.ntmps36
    go_wp2
    go_ret
    exact ⟨rfl, rfl⟩
  · have hr : Cal.len y 10 = 31 := by unfold Cal.len; rw [if_neg (by decide), if_neg (by decide)]
    rw [hr]; clear hr
    have hc' : w.cell? ⟨0, 9, none⟩ = some (.int .i64 31) := ht.2 9 (by decide)
    clear ht
    go_enter Tryd.func36, Tryd.ntmps36
    go_wp2
    go_ret
    exact ⟨rfl, rfl⟩
  · have hr : Cal.len y 11 = 30 := by unfold Cal.len; rw [if_neg (by decide), if_pos (by decide)]
    rw [hr]; clear hr
    have hc' : w.cell? ⟨0, 10, none⟩ = some (.int .i64 30) := ht.2 10 (by decide)
    clear ht
    go_enter Tryd.func36, Tryd.ntmps36
    go_wp2
    go_ret
    exact ⟨rfl, rfl⟩
  · have hr : Cal.len y 12 = 31 := by unfold Cal.len; rw [if_neg (by decide), if_neg (by decide)]
    rw [hr]; clear hr
    have hc' : w.cell? ⟨0, 11, none⟩ = some (.int .i64 31) := ht.2 11 (by decide)
    clear ht
    go_enter Tryd.func36, Tryd.ntmps36
    go_wp2
    go_ret
    exact ⟨rfl, rfl⟩

theorem monthdays_len (y m : Int) (w : World) (ht : Tab w) (h0 : 1900 ≤ y) (h1 : y ≤ 2199) (h2 : 1 ≤ m) (h3 : m ≤ 12) :
    Calls Tryd.prog 36 #[.int .i64 y, .int .i64 m] w fun e w' => e = .returned (.int .i64 (Cal.len y m)) ∧ w = w' := by
  have h := monthdays_any y m w ht (by omega) (by omega)
  have hr : Cal.MD y m = Cal.len y m := by unfold Cal.MD; rw [if_pos (by omega)]
  rw [hr] at h
  exact h
end Go.Proofs.YtjpjeimpmfoldaaDoor.W
