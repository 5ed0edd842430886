/- The walks of the reference's calendar. -/
import Derived.Test.YtncekfogdpkgmaaDoorCivA
namespace Go.Proofs.YtncekfogdpkgmaaDoor.W
open Go.RowKit Go.Proofs.YtncekfogdpkgmaaDoor.M

theorem rleap_yes (y : Int) (w : World) (h0 : 1900 ≤ y) (_h1 : y ≤ 2199) (h : Cal.lp y = 1) :
    Calls Tryd.prog 31 #[.int .i64 y] w fun e w' => e = .returned (.bool true) ∧ w = w' := by
  have h' : y % 4 = 0 ∧ (y % 100 ≠ 0 ∨ y % 400 = 0) := by
    unfold Cal.lp at h; by_cases c : y % 4 = 0 ∧ (y % 100 ≠ 0 ∨ y % 400 = 0)
    · exact c
    · rw [if_neg c] at h; omega
  clear h
  obtain ⟨h4, h⟩ := h'
  have e4 : (y % 4 == 0) = true := beq_iff_eq.2 h4
  by_cases c : y % 100 = 0
  · have e1 : (y % 100 == 0) = true := beq_iff_eq.2 c
    have e1' : (y % 100 != 0) = false := by simp [c]
    have e2 : (y % 400 == 0) = true := beq_iff_eq.2 (by omega)
    clear h4 h c
    go_enter Tryd.func31, Tryd.ntmps31
    go_wp2
    go_ret
    exact ⟨rfl, rfl⟩
  · have e1 : (y % 100 == 0) = false := beq_eq_false_iff_ne.2 c
    have e1' : (y % 100 != 0) = true := by simp [c]
    clear h4 h c
    go_enter Tryd.func31, Tryd.ntmps31
    go_wp2
    go_ret
    exact ⟨rfl, rfl⟩

theorem rleap_no (y : Int) (w : World) (h0 : 1900 ≤ y) (_h1 : y ≤ 2199) (h : Cal.lp y = 0) :
    Calls Tryd.prog 31 #[.int .i64 y] w fun e w' => e = .returned (.bool false) ∧ w = w' := by
  have h' : ¬ (y % 4 = 0 ∧ (y % 100 ≠ 0 ∨ y % 400 = 0)) := by
    intro c; unfold Cal.lp at h; rw [if_pos c] at h; omega
  clear h
  by_cases c4 : y % 4 = 0
  · have e4 : (y % 4 == 0) = true := beq_iff_eq.2 c4
    have e1 : (y % 100 == 0) = true := beq_iff_eq.2 (by omega)
    have e1' : (y % 100 != 0) = false := by simp; omega
    have e2 : (y % 400 == 0) = false := beq_eq_false_iff_ne.2 (by omega)
    clear h' c4
    go_enter Tryd.func31, Tryd.ntmps31
    go_wp2
    go_ret
    exact ⟨rfl, rfl⟩
  · have e4 : (y % 4 == 0) = false := beq_eq_false_iff_ne.2 c4
    have e2 : (y % 400 == 0) = false := beq_eq_false_iff_ne.2 (by omega)
    clear h' c4
    go_enter Tryd.func31, Tryd.ntmps31
    go_wp2
    go_ret
    exact ⟨rfl, rfl⟩

theorem ryear_any (y : Int) (w : World) (h0 : 1900 ≤ y) (h1 : y ≤ 2199) :
    Calls Tryd.prog 29 #[.int .i64 y] w fun e w' => e = .returned (.int .i64 (365 + Cal.lp y)) ∧ w = w' := by
  rcases (show Cal.lp y = 1 ∨ Cal.lp y = 0 by have := Cal.lp_01 y; omega) with hl | hl
  · rw [hl]
    have H := Lib.hid hl; clear hl
    go_enter Tryd.func29, Tryd.ntmps29
    go_wp2_with (go_at_call 31; refine (rleap_yes y _ h0 h1 H.out).mono ?_; rintro e w' ⟨rfl, rfl⟩)
    go_ret
    exact ⟨rfl, rfl⟩
  · rw [hl]
    have H := Lib.hid hl; clear hl
    go_enter Tryd.func29, Tryd.ntmps29
    go_wp2_with (go_at_call 31; refine (rleap_no y _ h0 h1 H.out).mono ?_; rintro e w' ⟨rfl, rfl⟩)
    go_ret
    exact ⟨rfl, rfl⟩

theorem rin_yes (d : Int) (w : World) (h0 : -25567 ≤ d) (h1 : d ≤ 84005) :
    Calls Tryd.prog 19 #[.int .i64 d] w fun e w' => e = .returned (.bool true) ∧ w = w' := by
  go_enter Tryd.func19, Tryd.ntmps19
  go_wp2
  go_ret
  exact ⟨rfl, rfl⟩
theorem rin_no (d : Int) (w : World) (h : d < -25567 ∨ 84005 < d) :
    Calls Tryd.prog 19 #[.int .i64 d] w fun e w' => e = .returned (.bool false) ∧ w = w' := by
  rcases h with h | h
  · have h' : ¬ -25567 ≤ d := by omega
    go_enter Tryd.func19, Tryd.ntmps19
    go_wp2
    go_ret
    exact ⟨rfl, rfl⟩
  · have h0 : -25567 ≤ d := by omega
    have h' : ¬ d ≤ 84005 := by omega
    go_enter Tryd.func19, Tryd.ntmps19
    go_wp2
    go_ret
    exact ⟨rfl, rfl⟩

theorem rweekday (d : Int) (w : World) (h0 : -25567 ≤ d) (h1 : d ≤ 84005) :
    Calls Tryd.prog 22 #[.int .i64 d] w fun e w' => e = .returned (.int .i64 ((d + 25567) % 7)) ∧ w = w' := by
  have e : d - -25567 = d + 25567 := by omega
  go_enter Tryd.func22, Tryd.ntmps22
  go_wp2
  go_ret
  exact ⟨rfl, rfl⟩

set_option maxHeartbeats 2000000 in
theorem rmonth_any (y m : Int) (w : World) (_hy : -9223372036854775808 ≤ y ∧ y ≤ 9223372036854775807) (_hm : -9223372036854775808 ≤ m ∧ m ≤ 9223372036854775807) :
    Calls Tryd.prog 15 #[.int .i64 y, .int .i64 m] w fun e w' => e = .returned (.int .i64 (Cal.MD y m)) ∧ Below w.heap.size w w' := by
  by_cases g : y < 1900
  · have hr : Cal.MD y m = 0 := by unfold Cal.MD; rw [if_neg (by omega)]
    rw [hr]; clear hr
    go_enter Tryd.func15, Tryd.ntmps15
    go_wp2
    go_ret
    exact ⟨rfl, Below.refl _ _⟩
  have g0 : ¬ y < 1900 := g
  clear g
  by_cases g : 2199 < y
  · have hr : Cal.MD y m = 0 := by unfold Cal.MD; rw [if_neg (by omega)]
    rw [hr]; clear hr
    go_enter Tryd.func15, Tryd.ntmps15
    go_wp2
    go_ret
    exact ⟨rfl, Below.refl _ _⟩
  have g1 : ¬ 2199 < y := g
  clear g
  by_cases g : m < 1
  · have hr : Cal.MD y m = 0 := by unfold Cal.MD; rw [if_neg (by omega)]
    rw [hr]; clear hr
    go_enter Tryd.func15, Tryd.ntmps15
    go_wp2
    go_ret
    exact ⟨rfl, Below.refl _ _⟩
  have g2 : ¬ m < 1 := g
  clear g
  by_cases g : 12 < m
  · have hr : Cal.MD y m = 0 := by unfold Cal.MD; rw [if_neg (by omega)]
    rw [hr]; clear hr
    go_enter Tryd.func15, Tryd.ntmps15
    go_wp2
    go_ret
    exact ⟨rfl, Below.refl _ _⟩
  have hr : Cal.MD y m = Cal.len y m := by unfold Cal.MD; rw [if_pos (by omega)]
  rw [hr]; clear hr
  have hm : m = 1 ∨ m = 2 ∨ m = 3 ∨ m = 4 ∨ m = 5 ∨ m = 6 ∨ m = 7 ∨ m = 8 ∨ m = 9 ∨ m = 10 ∨ m = 11 ∨ m = 12 := by omega
  clear g g2 _hm
  have y0 : 1900 ≤ y := by omega
  have y1 : y ≤ 2199 := by omega
  rcases hm with rfl | rfl | rfl | rfl | rfl | rfl | rfl | rfl | rfl | rfl | rfl | rfl
  · have hr : Cal.len y 1 = 31 := by unfold Cal.len; rw [if_neg (by decide), if_neg (by decide)]
    rw [hr]; clear hr
    go_enter Tryd.func15, Tryd.ntmps15
    go_wp2
    go_ret
    exact ⟨rfl, balloc (Below.refl _ _) _⟩
  · rcases (show Cal.lp y = 1 ∨ Cal.lp y = 0 by have := Cal.lp_01 y; omega) with hl | hl
    · have hr : Cal.len y 2 = 29 := by unfold Cal.len; rw [if_pos rfl, hl]; rfl
      rw [hr]; clear hr
      go_enter Tryd.func15, Tryd.ntmps15
      go_wp2_with (go_at_call 31; refine (rleap_yes y _ y0 y1 hl).mono ?_; rintro e w' ⟨rfl, rfl⟩)
      go_ret
      exact ⟨rfl, Below.refl _ _⟩
    · have hr : Cal.len y 2 = 28 := by unfold Cal.len; rw [if_pos rfl, hl]; rfl
      rw [hr]; clear hr
      go_enter Tryd.func15, Tryd.ntmps15
      go_wp2_with (go_at_call 31; refine (rleap_no y _ y0 y1 hl).mono ?_; rintro e w' ⟨rfl, rfl⟩)
      go_ret
      exact ⟨rfl, balloc (Below.refl _ _) _⟩
  · have hr : Cal.len y 3 = 31 := by unfold Cal.len; rw [if_neg (by decide), if_neg (by decide)]
    rw [hr]; clear hr
    go_enter Tryd.func15, Tryd.ntmps15
    go_wp2
    go_ret
    exact ⟨rfl, balloc (Below.refl _ _) _⟩
  · have hr : Cal.len y 4 = 30 := by unfold Cal.len; rw [if_neg (by decide), if_pos (by decide)]
    rw [hr]; clear hr
    go_enter Tryd.func15, Tryd.ntmps15
    go_wp2
    go_ret
    exact ⟨rfl, balloc (Below.refl _ _) _⟩
  · have hr : Cal.len y 5 = 31 := by unfold Cal.len; rw [if_neg (by decide), if_neg (by decide)]
    rw [hr]; clear hr
    go_enter Tryd.func15, Tryd.ntmps15
    go_wp2
    go_ret
    exact ⟨rfl, balloc (Below.refl _ _) _⟩
  · have hr : Cal.len y 6 = 30 := by unfold Cal.len; rw [if_neg (by decide), if_pos (by decide)]
    rw [hr]; clear hr
    go_enter Tryd.func15, Tryd.ntmps15
    go_wp2
    go_ret
    exact ⟨rfl, balloc (Below.refl _ _) _⟩
  · have hr : Cal.len y 7 = 31 := by unfold Cal.len; rw [if_neg (by decide), if_neg (by decide)]
    rw [hr]; clear hr
    go_enter Tryd.func15, Tryd.ntmps15
    go_wp2
    go_ret
    exact ⟨rfl, balloc (Below.refl _ _) _⟩
  · have hr : Cal.len y 8 = 31 := by unfold Cal.len; rw [if_neg (by decide), if_neg (by decide)]
    rw [hr]; clear hr
    go_enter Tryd.func15, Tryd.ntmps15
    go_wp2
    go_ret
    exact ⟨rfl, balloc (Below.refl _ _) _⟩
  · have hr : Cal.len y 9 = 30 := by unfold Cal.len; rw [if_neg (by decide), if_pos (by decide)]
    rw [hr]; clear hr
    go_enter Tryd.func15, Tryd.ntmps15
    go_wp2
    go_ret
    exact ⟨rfl, balloc (Below.refl _ _) _⟩
  · have hr : Cal.len y 10 = 31 := by unfold Cal.len; rw [if_neg (by decide), if_neg (by decide)]
    rw [hr]; clear hr
    go_enter Tryd.func15, Tryd.ntmps15
    go_wp2
    go_ret
    exact ⟨rfl, balloc (Below.refl _ _) _⟩
  · have hr : Cal.len y 11 = 30 := by unfold Cal.len; rw [if_neg (by decide), if_pos (by decide)]
    rw [hr]; clear hr
    go_enter Tryd.func15, Tryd.ntmps15
    go_wp2
    go_ret
    exact ⟨rfl, balloc (Below.refl _ _) _⟩
  · have hr : Cal.len y 12 = 31 := by unfold Cal.len; rw [if_neg (by decide), if_neg (by decide)]
    rw [hr]; clear hr
    go_enter Tryd.func15, Tryd.ntmps15
    go_wp2
    go_ret
    exact ⟨rfl, balloc (Below.refl _ _) _⟩

theorem rmonth_len (y m : Int) (w : World) (h0 : 1900 ≤ y) (h1 : y ≤ 2199) (h2 : 1 ≤ m) (h3 : m ≤ 12) :
    Calls Tryd.prog 15 #[.int .i64 y, .int .i64 m] w fun e w' => e = .returned (.int .i64 (Cal.len y m)) ∧ Below w.heap.size w w' := by
  have h := rmonth_any y m w (by omega) (by omega)
  have hr : Cal.MD y m = Cal.len y m := by unfold Cal.MD; rw [if_pos (by omega)]
  rw [hr] at h
  exact h

theorem rto (d y m k : Int) (w : World) (hv : Cal.Valid y m k) (hd : Cal.day y m k = d) :
    Calls Tryd.prog 21 #[.int .i64 d] w fun e w' => e = .returned (.agg #[.int .i64 y, .int .i64 m, .int .i64 k]) ∧ Below w.heap.size w w' := by
  have hin := Cal.day_in y m k hv
  rw [hd] at hin
  obtain ⟨hin0, hin1⟩ := hin
  obtain ⟨y0, y1, m0, m1, k0, k1⟩ := hv
  have hD : d + 25567 = Cal.st y + Cal.cum y m + k - 1 := by unfold Cal.day at hd; omega
  have HD := Lib.hid hD
  clear hD hd
  have e0 : d - -25567 = d + 25567 := by omega
  have hcb := Cal.cum_bd y m m0 (by omega)
  have hce := Cal.cum_mono y m 13 m0 (by omega) (by omega)
  rw [Cal.cum_end] at hce
  have hss := Cal.st_succ y
  have HS : Hid (Cal.st y ≤ d + 25567 ∧ d + 25567 < Cal.st (y + 1)) := by
    show _ ∧ _
    have := HD.out
    omega
  clear hss hce
  go_enter Tryd.func21, Tryd.ntmps21
  go_wp2_with fail
  go_loop [3, 4] (fun r t => ∃ a : Int, 1900 ≤ a ∧ a ≤ y ∧ t = .int .i64 a ∧ r = .int .i64 (d + 25567 - Cal.st a)) (fun _ t => (2199 - intOf t).toNat)
  case atStart => exact ⟨1900, by omega, by omega, rfl, by rw [Cal.st_first]; simp⟩
  case round =>
    obtain ⟨a, a0, a1, rfl, rfl⟩ := hrel
    have hl := Cal.lp_01 a
    have hsb := Cal.st_bd a (by omega) (by omega)
    have hss := Lib.hid (Cal.st_succ a)
    by_cases c : a < y
    · have hge : 365 + Cal.lp a ≤ d + 25567 - Cal.st a := by
        have h1 := Cal.st_mono (a + 1) y (by omega)
        have := HS.out
        have := hss.out
        omega
      go_wp2_with (go_at_call 29; refine (ryear_any _ _ (by omega) (by omega)).mono ?_; rintro e w' ⟨rfl, rfl⟩)
      go_round
      case rel => exact ⟨a + 1, by omega, by omega, rfl, by rw [hss.out]; congr 1; omega⟩
      case measure => simp [intOf]; omega
    · obtain rfl : a = y := by omega
      have hlt : ¬ 365 + Cal.lp a ≤ d + 25567 - Cal.st a := by have := HS.out; have := hss.out; omega
      clear c
      go_wp2_with (go_at_call 29; refine (ryear_any _ _ (by omega) (by omega)).mono ?_; rintro e w' ⟨rfl, rfl⟩)
      go_loopw [3, 5] (fun r t wr => ∃ b : Int, 1 ≤ b ∧ b ≤ m ∧ t = .int .i64 b ∧ r = .int .i64 (d + 25567 - Cal.st a - Cal.cum a b) ∧ Below (w.alloc (.cells #[.int .i64 0, .int .i64 0, .int .i64 0] 30)).heap.size (w.alloc (.cells #[.int .i64 0, .int .i64 0, .int .i64 0] 30)) wr) (fun _ t _ => (12 - intOf t).toNat)
      case atStart => exact ⟨1, by omega, by omega, rfl, by rw [Cal.cum_one]; simp, Below.refl _ _⟩
      case round =>
        obtain ⟨b, b0, b1, rfl, rfl, hbel⟩ := hrel
        have hlb := Cal.len_bd a b
        have hbb := Cal.cum_bd a b b0 (by omega)
        by_cases c : b < m
        · have h1 := Cal.cum_mono a b m b0 (by omega) c
          have hge : Cal.len a b ≤ d + 25567 - Cal.st a - Cal.cum a b := by have := HD.out; omega
          have hlow : 0 ≤ d + 25567 - Cal.st a - Cal.cum a b := by omega
          have hhi : d + 25567 - Cal.st a - Cal.cum a b ≤ 2000000 := by omega
          have hcs := Lib.hid (Cal.cum_succ a b b0 (by omega))
          go_wp2_with fail
          refine (rmonth_len _ _ _ (by omega) (by omega) b0 (by omega)).mono ?_
          rintro e w1 ⟨rfl, hb1⟩
          go_wp2_with fail
          refine (rmonth_len _ _ _ (by omega) (by omega) b0 (by omega)).mono ?_
          rintro e w2 ⟨rfl, hb2⟩
          go_wp2_with fail
          go_roundw
          case rel => exact ⟨b + 1, by omega, by omega, rfl, by rw [hcs.out]; congr 1; omega, bstep (bstep hbel hb1) hb2⟩
          case measure => simp [intOf]; omega
        · obtain rfl : b = m := by omega
          have hlt : ¬ Cal.len a b ≤ d + 25567 - Cal.st a - Cal.cum a b := by have := HD.out; omega
          have hlow : 0 ≤ d + 25567 - Cal.st a - Cal.cum a b := by have := HD.out; omega
          have hhi : d + 25567 - Cal.st a - Cal.cum a b ≤ 2000000 := by omega
          clear c
          go_wp2_with fail
          refine (rmonth_len _ _ _ (by omega) (by omega) b0 (by omega)).mono ?_
          rintro e w1 ⟨rfl, hb1⟩
          have hbel1 := bstep hbel hb1
          obtain ⟨hc1, hf1⟩ := bcell hbel1
          go_wp2_with fail
          have hk : d + 25567 - Cal.st a - Cal.cum a b + 1 = k := by have := HD.out; omega
          have c0 : w1.cell? ⟨w.heap.size, 0, none⟩ = some (.int .i64 0) := by rw [hc1 _ _ (by simp)]; simp
          have c1 : w1.cell? ⟨w.heap.size, 1, none⟩ = some (.int .i64 0) := by rw [hc1 _ _ (by simp)]; simp
          have c2 : w1.cell? ⟨w.heap.size, 2, none⟩ = some (.int .i64 0) := by rw [hc1 _ _ (by simp)]; simp
          clear hc1 hf1
          refine bodyPost_ret (v := .agg #[.int .i64 a, .int .i64 b, .int .i64 k]) (by rw [← hk]; simp [results, Tryd.results21, go_sem, c0, c1, c2]) rfl ⟨rfl, ?_⟩
          exact bset (bset (bset (bstep (balloc (Below.refl _ _) _) hbel1) (Nat.le_refl _) _) (Nat.le_refl _) _) (Nat.le_refl _) _
end Go.Proofs.YtncekfogdpkgmaaDoor.W
