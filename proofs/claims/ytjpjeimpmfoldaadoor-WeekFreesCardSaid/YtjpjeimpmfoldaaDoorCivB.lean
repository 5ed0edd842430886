/- The walks of civil: a day's date, a date's day. -/
import Derived.Test.YtjpjeimpmfoldaaDoorCivA
namespace Go.Proofs.YtjpjeimpmfoldaaDoor.W
open Go.RowKit Go.Proofs.YtjpjeimpmfoldaaDoor.M

def dateV (y m k : Int) : Value := .agg #[.int .i64 y, .int .i64 m, .int .i64 k]

theorem to_no (d : Int) (w : World) (h : d < -25567 ∨ 84005 < d) :
    Calls Tryd.prog 38 #[.int .i64 d] w fun e w' => e = .returned (.agg #[.int .i64 0, .int .i64 0, .int .i64 0]) ∧ Below w.heap.size w w' := by
  go_enter Tryd.func38, Tryd.ntmps38
  go_wp2_with (go_at_call 31; refine (in_no d _ h).mono ?_; rintro e w' ⟨rfl, rfl⟩)
  refine bodyPost_ret (v := .agg #[.int .i64 0, .int .i64 0, .int .i64 0]) (by simp [results, Tryd.results38, go_sem]) rfl ⟨rfl, balloc (Below.refl _ _) _⟩

theorem to_yes (d y m k : Int) (w : World) (ht : Tab w) (hv : Cal.Valid y m k) (hd : Cal.day y m k = d) :
    Calls Tryd.prog 38 #[.int .i64 d] w fun e w' => e = .returned (.agg #[.int .i64 y, .int .i64 m, .int .i64 k]) ∧ Below w.heap.size w w' := by
  have hin := Cal.day_in y m k hv
  rw [hd] at hin
  obtain ⟨hin0, hin1⟩ := hin
  obtain ⟨y0, y1, m0, m1, k0, k1⟩ := hv
  have hD : d + 25567 = Cal.st y + Cal.cum y m + k - 1 := by unfold Cal.day at hd; omega
  have HD := Lib.hid hD
  clear hD hd
  have g0 := Cal.st_guess (d + 25567) (by omega)
  have e0 : d - -25567 = d + 25567 := by omega
  have hcb := Cal.cum_bd y m m0 (by omega)
  have hce := Cal.cum_mono y m 13 m0 (by omega) (by omega)
  rw [Cal.cum_end] at hce
  have hss := Cal.st_succ y
  have HS : Hid (Cal.st y ≤ d + 25567 ∧ d + 25567 < Cal.st (y + 1)) := by
    show _ ∧ _
    have := HD.out
    omega
  clear hss hce
  have ht' := ht.alloc (.cells #[.int .i64 0, .int .i64 0, .int .i64 0] 66)
  go_enter Tryd.func38, Tryd.ntmps38
  go_wp2_with (go_at_call 31; refine (in_yes d _ hin0 hin1).mono ?_; rintro e w' ⟨rfl, rfl⟩)
  go_loop [4] (fun t => ∃ a : Int, 1900 ≤ a ∧ a ≤ y ∧ t = .int .i64 a) (fun t => (2199 - intOf t).toNat)
  case atStart =>
    refine ⟨_, by omega, ?_, rfl⟩
    by_cases c : 1900 + (d + 25567) / 366 ≤ y
    · exact c
    · exfalso
      have h1 := Cal.st_mono (y + 1) (1900 + (d + 25567) / 366) (by omega)
      have := HS.out
      omega
  case round =>
    obtain ⟨a, a0, a1, rfl⟩ := hrel
    by_cases c : a < y
    · have hle : Cal.st (a + 1) ≤ d + 25567 := by
        have h1 := Cal.st_mono (a + 1) y (by omega)
        have := HS.out
        omega
      go_wp2_with (go_at_call 37; refine (start_any _ _ (by omega) (by omega)).mono ?_; rintro e w' ⟨rfl, rfl⟩)
      go_round
      case rel => exact ⟨a + 1, by omega, by omega, rfl⟩
      case measure => simp [intOf]; omega
    · obtain rfl : a = y := by omega
      have hgt : ¬ Cal.st (a + 1) ≤ d + 25567 := by have := HS.out; omega
      have hsb := Cal.st_bd a (by omega) (by omega)
      clear c g0
      go_wp2_with (go_at_call 37; refine (start_any _ _ (by omega) (by omega)).mono ?_; rintro e w' ⟨rfl, rfl⟩)
      go_loop [3, 5] (fun r t => ∃ b : Int, 1 ≤ b ∧ b ≤ m ∧ t = .int .i64 b ∧ r = .int .i64 (d + 25567 - Cal.st a - Cal.cum a b)) (fun _ t => (12 - intOf t).toNat)
      case atStart => exact ⟨1, by omega, by omega, rfl, by rw [Cal.cum_one]; simp⟩
      case round =>
        obtain ⟨b, b0, b1, rfl, rfl⟩ := hrel
        have hMD : Cal.MD a b = Cal.len a b := by unfold Cal.MD; rw [if_pos (by omega)]
        have hlb := Cal.len_bd a b
        have hbb := Cal.cum_bd a b b0 (by omega)
        by_cases c : b < m
        · have h1 := Cal.cum_mono a b m b0 (by omega) c
          have hge : Cal.len a b ≤ d + 25567 - Cal.st a - Cal.cum a b := by have := HD.out; omega
          have hlow : 0 ≤ d + 25567 - Cal.st a - Cal.cum a b := by omega
          have hhi : d + 25567 - Cal.st a - Cal.cum a b ≤ 2000000 := by omega
          have hcs := Lib.hid (Cal.cum_succ a b b0 (by omega))
          go_wp2_with (go_at_call 36; refine (monthdays_any _ _ _ ht' (by omega) (by omega)).mono ?_; rw [hMD]; rintro e w' ⟨rfl, rfl⟩)
          go_round
          case rel => exact ⟨b + 1, by omega, by omega, rfl, by rw [hcs.out]; congr 1; omega⟩
          case measure => simp [intOf]; omega
        · obtain rfl : b = m := by omega
          have hlt : ¬ Cal.len a b ≤ d + 25567 - Cal.st a - Cal.cum a b := by have := HD.out; omega
          have hlow : 0 ≤ d + 25567 - Cal.st a - Cal.cum a b := by have := HD.out; omega
          have hhi : d + 25567 - Cal.st a - Cal.cum a b ≤ 2000000 := by omega
          clear c
          go_wp2_with (go_at_call 36; refine (monthdays_any _ _ _ ht' (by omega) (by omega)).mono ?_; rw [hMD]; rintro e w' ⟨rfl, rfl⟩)
          have hk : d + 25567 - Cal.st a - Cal.cum a b + 1 = k := by have := HD.out; omega
          refine bodyPost_ret (v := .agg #[.int .i64 a, .int .i64 b, .int .i64 k]) (by rw [← hk]; simp [results, Tryd.results38, go_sem]) rfl ⟨rfl, balloc (Below.refl _ _) _⟩
end Go.Proofs.YtjpjeimpmfoldaaDoor.W
