/- The calendar, in plain arithmetic: years and months, the day of a date. -/
namespace Go.Proofs.YtjpjeimpmfoldaaDoor.Cal

/-- A leap year's day more. -/
def lp (y : Int) : Int := if y % 4 = 0 ∧ (y % 100 ≠ 0 ∨ y % 400 = 0) then 1 else 0
/-- How many days lie ahead of a year. -/
def st (y : Int) : Int := 365 * (y - 1900) + (y - 1) / 4 - (y - 1) / 100 + (y - 1) / 400 - 460
/-- How many days a month has. -/
def len (y m : Int) : Int := if m = 2 then 28 + lp y else if m = 4 ∨ m = 6 ∨ m = 9 ∨ m = 11 then 30 else 31
/-- .. 0 outside the calendar. -/
def MD (y m : Int) : Int := if 1900 ≤ y ∧ y ≤ 2199 ∧ 1 ≤ m ∧ m ≤ 12 then len y m else 0
/-- How many days of the year lie ahead of a month. -/
def cum (y m : Int) : Int :=
  if m ≤ 1 then 0 else if m = 2 then 31 else
  (if m = 3 then 59 else if m = 4 then 90 else if m = 5 then 120 else if m = 6 then 151 else if m = 7 then 181 else if m = 8 then 212 else if m = 9 then 243 else if m = 10 then 273 else if m = 11 then 304 else if m = 12 then 334 else 365) + lp y
/-- The day of a date. -/
def day (y m d : Int) : Int := st y + cum y m + d - 1 - 25567
/-- Is there such a date? -/
def Valid (y m d : Int) : Prop := 1900 ≤ y ∧ y ≤ 2199 ∧ 1 ≤ m ∧ m ≤ 12 ∧ 1 ≤ d ∧ d ≤ len y m

theorem lp_01 (y : Int) : 0 ≤ lp y ∧ lp y ≤ 1 := by unfold lp; split <;> omega
theorem st_succ (y : Int) : st (y + 1) = st y + 365 + lp y := by unfold st lp; split <;> omega
theorem st_first : st 1900 = 0 := by decide
theorem st_last : st 2200 = 109573 := by decide
theorem st_guess (n : Int) (h0 : 0 ≤ n) : st (1900 + n / 366) ≤ n := by unfold st; omega
theorem st_mono (a b : Int) (h : a ≤ b) : st a + 365 * (b - a) ≤ st b := by unfold st; omega
theorem st_bd (y : Int) (h0 : 1 ≤ y) (h1 : y ≤ 3000) : -1000000 ≤ st y ∧ st y ≤ 1000000 := by unfold st; omega
theorem len_bd (y m : Int) : 28 ≤ len y m ∧ len y m ≤ 31 := by
  have := lp_01 y
  unfold len; split
  · omega
  · split <;> omega
theorem cum_one (y : Int) : cum y 1 = 0 := rfl
theorem cum_succ (y m : Int) (h0 : 1 ≤ m) (h1 : m ≤ 12) : cum y (m + 1) = cum y m + len y m := by
  have hm : m = 1 ∨ m = 2 ∨ m = 3 ∨ m = 4 ∨ m = 5 ∨ m = 6 ∨ m = 7 ∨ m = 8 ∨ m = 9 ∨ m = 10 ∨ m = 11 ∨ m = 12 := by omega
  rcases hm with rfl | rfl | rfl | rfl | rfl | rfl | rfl | rfl | rfl | rfl | rfl | rfl <;> simp [cum, len] <;> omega
theorem cum_end (y : Int) : cum y 13 = 365 + lp y := by simp [cum]
theorem cum_bd (y m : Int) (h0 : 1 ≤ m) (h1 : m ≤ 13) : 0 ≤ cum y m ∧ cum y m ≤ 366 := by
  have := lp_01 y
  have hm : m = 1 ∨ m = 2 ∨ m = 3 ∨ m = 4 ∨ m = 5 ∨ m = 6 ∨ m = 7 ∨ m = 8 ∨ m = 9 ∨ m = 10 ∨ m = 11 ∨ m = 12 ∨ m = 13 := by omega
  rcases hm with rfl | rfl | rfl | rfl | rfl | rfl | rfl | rfl | rfl | rfl | rfl | rfl | rfl <;> simp [cum] <;> omega
theorem cum_mono (y a b : Int) (h0 : 1 ≤ a) (h1 : b ≤ 13) (h : a < b) : cum y a + len y a ≤ cum y b := by
  have hl := lp_01 y
  have ha : a = 1 ∨ a = 2 ∨ a = 3 ∨ a = 4 ∨ a = 5 ∨ a = 6 ∨ a = 7 ∨ a = 8 ∨ a = 9 ∨ a = 10 ∨ a = 11 ∨ a = 12 := by omega
  have hs := cum_succ y a h0 (by omega)
  by_cases e : b = a + 1
  · rw [e]; omega
  have hb : b = 3 ∨ b = 4 ∨ b = 5 ∨ b = 6 ∨ b = 7 ∨ b = 8 ∨ b = 9 ∨ b = 10 ∨ b = 11 ∨ b = 12 ∨ b = 13 := by omega
  rw [← hs]
  rcases hb with rfl | rfl | rfl | rfl | rfl | rfl | rfl | rfl | rfl | rfl | rfl <;>
    rcases ha with rfl | rfl | rfl | rfl | rfl | rfl | rfl | rfl | rfl | rfl | rfl | rfl <;> first | (exfalso; omega) | (simp [cum] <;> omega)

/-- A valid date's day is in the calendar. -/
theorem day_in (y m d : Int) (h : Valid y m d) : -25567 ≤ day y m d ∧ day y m d ≤ 84005 := by
  obtain ⟨h0, h1, h2, h3, h4, h5⟩ := h
  have a := st_mono 1900 y h0
  have b := st_mono (y + 1) 2200 (by omega)
  have c := st_succ y
  have e := cum_bd y m h2 (by omega)
  have f := cum_mono y m 13 h2 (by omega) (by omega)
  rw [cum_end] at f
  rw [st_first] at a
  rw [st_last] at b
  unfold day; omega

theorem valid_inj (y m d y' m' d' : Int) (h : Valid y m d) (h' : Valid y' m' d') (e : day y m d = day y' m' d') : y = y' ∧ m = m' ∧ d = d' := by
  obtain ⟨h0, h1, h2, h3, h4, h5⟩ := h
  obtain ⟨k0, k1, k2, k3, k4, k5⟩ := h'
  unfold day at e
  have f := cum_mono y m 13 h2 (by omega) (by omega)
  have f' := cum_mono y' m' 13 k2 (by omega) (by omega)
  rw [cum_end] at f f'
  have g := cum_bd y m h2 (by omega)
  have g' := cum_bd y' m' k2 (by omega)
  have hy : y = y' := by
    rcases Int.lt_trichotomy y y' with hlt | heq | hgt
    · have a := st_mono (y + 1) y' (by omega)
      have c := st_succ y
      omega
    · exact heq
    · have a := st_mono (y' + 1) y (by omega)
      have c := st_succ y'
      omega
  subst hy
  have hm : m = m' := by
    rcases Int.lt_trichotomy m m' with hlt | heq | hgt
    · have a := cum_mono y m m' h2 (by omega) hlt
      omega
    · exact heq
    · have a := cum_mono y m' m k2 (by omega) hgt
      omega
  subst hm
  exact ⟨rfl, rfl, by omega⟩

/-- Each day of the calendar has its date. -/
theorem has_date (d : Int) (h0 : -25567 ≤ d) (h1 : d ≤ 84005) : ∃ y m k, Valid y m k ∧ day y m k = d := by
  have hy : ∀ j : Nat, j ≤ 300 → d + 25567 < st (1900 + j) → ∃ y, 1900 ≤ y ∧ y ≤ 2199 ∧ st y ≤ d + 25567 ∧ d + 25567 < st (y + 1) := by
    intro j
    induction j with
    | zero => intro _ h; rw [show (1900 + ((0 : Nat) : Int)) = 1900 from rfl, st_first] at h; omega
    | succ j ih =>
      intro hj h
      by_cases c : d + 25567 < st (1900 + (j : Int))
      · exact ih (by omega) c
      · exact ⟨1900 + j, by omega, by omega, by omega, by rw [show (1900 + (j : Int) + 1) = 1900 + ((j + 1 : Nat) : Int) from by omega]; exact h⟩
  obtain ⟨y, y0, y1, y2, y3⟩ := hy 300 (by omega) (by rw [show (1900 + ((300 : Nat) : Int)) = 2200 from rfl, st_last]; omega)
  rw [st_succ, ] at y3
  have hm : ∀ j : Nat, 1 ≤ j → j ≤ 13 → d + 25567 - st y < cum y j → ∃ m, 1 ≤ m ∧ m ≤ 12 ∧ cum y m ≤ d + 25567 - st y ∧ d + 25567 - st y < cum y m + len y m := by
    intro j
    induction j with
    | zero => intro h; omega
    | succ j ih =>
      intro _ hj h
      by_cases j0 : j = 0
      · subst j0; rw [show (((0 + 1 : Nat)) : Int) = 1 from rfl, cum_one] at h; omega
      by_cases c : d + 25567 - st y < cum y j
      · exact ih (by omega) (by omega) c
      · rw [show ((j + 1 : Nat) : Int) = (j : Int) + 1 from by omega, cum_succ y j (by omega) (by omega)] at h
        exact ⟨j, by omega, by omega, by omega, h⟩
  obtain ⟨m, m0, m1, m2, m3⟩ := hm 13 (by omega) (by omega) (by rw [show ((13 : Nat) : Int) = 13 from rfl, cum_end]; omega)
  exact ⟨y, m, d + 25567 - st y - cum y m + 1, ⟨y0, y1, m0, m1, by omega, by omega⟩, by unfold day; omega⟩

/-- A table's entries: the months of a year that is no leap year. -/
def lens : List Int := [31, 28, 31, 30, 31, 30, 31, 31, 30, 31, 30, 31]
end Go.Proofs.YtjpjeimpmfoldaaDoor.Cal
