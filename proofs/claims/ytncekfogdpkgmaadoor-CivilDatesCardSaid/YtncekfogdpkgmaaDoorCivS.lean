/- The walk of the reference's Of. -/
import Derived.Test.YtncekfogdpkgmaaDoorCivR
import Derived.Test.YtncekfogdpkgmaaDoorCivC
import Derived.Deep.RegionHeld3
namespace Go.Proofs.YtncekfogdpkgmaaDoor.W
open Go.RowKit Go.Proofs.YtncekfogdpkgmaaDoor.M

theorem rof_no (y m k : Int) (w : World) (_hy : -9223372036854775808 ≤ y ∧ y ≤ 9223372036854775807) (_hm : -9223372036854775808 ≤ m ∧ m ≤ 9223372036854775807) (h : k < 1 ∨ Cal.MD y m < k) :
    Calls Tryd.prog 13 #[.agg #[.int .i64 y, .int .i64 m, .int .i64 k]] w fun e w' => e = .returned (.tuple #[.int .i64 0, .bool false]) ∧ Below w.heap.size w w' := by
  by_cases c : k < 1
  · clear h
    go_enter Tryd.func13, Tryd.ntmps13
    go_wp2
    go_quiet (fail)
    go_wp2
    go_ret2
    exact ⟨rfl, below_drewN (balloc (Below.refl _ _) _) _⟩
  have h1 : Cal.MD y m < k := by omega
  have c' : decide (k < 1) = false := by simpa using c
  clear h
  have c0 : (w.alloc (.cells #[.int .i64 y, .int .i64 m, .int .i64 k] 30)).cell? ⟨w.heap.size, 0, none⟩ = some (.int .i64 y) := by simp
  have c1 : (w.alloc (.cells #[.int .i64 y, .int .i64 m, .int .i64 k] 30)).cell? ⟨w.heap.size, 1, none⟩ = some (.int .i64 m) := by simp
  have c2 : (w.alloc (.cells #[.int .i64 y, .int .i64 m, .int .i64 k] 30)).cell? ⟨w.heap.size, 2, none⟩ = some (.int .i64 k) := by simp
  have hz : w.heap.size < (w.alloc (.cells #[.int .i64 y, .int .i64 m, .int .i64 k] 30)).heap.size := by simp
  have hbW : Below w.heap.size w (w.alloc (.cells #[.int .i64 y, .int .i64 m, .int .i64 k] 30)) := balloc (Below.refl _ _) _
  go_enter Tryd.func13, Tryd.ntmps13
  go_wp2
  generalize w.alloc (.cells #[.int .i64 y, .int .i64 m, .int .i64 k] 30) = W at *
  generalize hB : w.heap.size = B at *
  have HB := Lib.hid hB; clear hB
  go_region_held3 (fun w' => w'.cell? ⟨B, 0, none⟩ = some (.int .i64 y) ∧ w'.cell? ⟨B, 1, none⟩ = some (.int .i64 m) ∧ w'.cell? ⟨B, 2, none⟩ = some (.int .i64 k))
    (first | go_keep | exact ⟨bc hb1 hz c0, bc hb1 hz c1, bc hb1 hz c2⟩)
    (first | (go_at_call 15; refine (rmonth_any _ _ _ _hy _hm).mono ?_; rintro e w1 ⟨rfl, hb1⟩))
  go_wp2
  go_ret2
  exact ⟨rfl, by rw [HB.out]; exact hbW.trans ((below_drew' hb1).mono (Nat.le_of_lt hz))⟩

theorem rof_yes (y m k : Int) (w : World) (hv : Cal.Valid y m k) :
    Calls Tryd.prog 13 #[.agg #[.int .i64 y, .int .i64 m, .int .i64 k]] w fun e w' => e = .returned (.tuple #[.int .i64 (Cal.day y m k), .bool true]) ∧ Below w.heap.size w w' := by
  obtain ⟨y0, y1, m0, m1, k0, k1⟩ := hv
  have c' : decide (k < 1) = false := by simp; omega
  have hlb := Cal.len_bd y m
  have h1 : ¬ Cal.len y m < k := by omega
  have hsb := Cal.st_bd y (by omega) (by omega)
  have h2 : Hid (Cal.st y + -25567 + Cal.cum y m + k - 1 = Cal.day y m k) := by show _ = _; unfold Cal.day; omega
  have c0 : (w.alloc (.cells #[.int .i64 y, .int .i64 m, .int .i64 k] 30)).cell? ⟨w.heap.size, 0, none⟩ = some (.int .i64 y) := by simp
  have c1 : (w.alloc (.cells #[.int .i64 y, .int .i64 m, .int .i64 k] 30)).cell? ⟨w.heap.size, 1, none⟩ = some (.int .i64 m) := by simp
  have c2 : (w.alloc (.cells #[.int .i64 y, .int .i64 m, .int .i64 k] 30)).cell? ⟨w.heap.size, 2, none⟩ = some (.int .i64 k) := by simp
  have hz : w.heap.size < (w.alloc (.cells #[.int .i64 y, .int .i64 m, .int .i64 k] 30)).heap.size := by simp
  have hbW : Below w.heap.size w (w.alloc (.cells #[.int .i64 y, .int .i64 m, .int .i64 k] 30)) := balloc (Below.refl _ _) _
  go_enter Tryd.func13, Tryd.ntmps13
  go_wp2
  generalize w.alloc (.cells #[.int .i64 y, .int .i64 m, .int .i64 k] 30) = W at *
  generalize hB : w.heap.size = B at *
  have HB := Lib.hid hB; clear hB
  go_region_held3 (fun w' => w'.cell? ⟨B, 0, none⟩ = some (.int .i64 y) ∧ w'.cell? ⟨B, 1, none⟩ = some (.int .i64 m) ∧ w'.cell? ⟨B, 2, none⟩ = some (.int .i64 k))
    (first | go_keep | exact ⟨bc hb1 hz c0, bc hb1 hz c1, bc hb1 hz c2⟩)
    (first | (go_at_call 15; refine (rmonth_len _ _ _ y0 y1 m0 m1).mono ?_; rintro e w1 ⟨rfl, hb1⟩))
  have hbW1 : Below B w w1 := hbW.trans ((below_drew' hb1).mono (Nat.le_of_lt hz))
  have hz1 : B < w1.heap.size := Nat.lt_of_lt_of_le hz hb1.size
  have d0 := bc (below_drew' hb1) hz c0
  have d1 := bc (below_drew' hb1) hz c1
  have d2 := bc (below_drew' hb1) hz c2
  clear c0 c1 c2 hb1 hz hbW
  go_wp2_with fail
  go_loop [4, 5] (fun r t => ∃ a : Int, 1900 ≤ a ∧ a ≤ y ∧ t = .int .i64 a ∧ r = .int .i64 (Cal.st a + -25567)) (fun _ t => (2199 - intOf t).toNat)
  case atStart => exact ⟨1900, by omega, by omega, rfl, by rw [Cal.st_first]; rfl⟩
  case round =>
    obtain ⟨a, a0, a1, rfl, rfl⟩ := hrel
    have hl := Cal.lp_01 a
    have hsb' := Cal.st_bd a (by omega) (by omega)
    have hss := Lib.hid (Cal.st_succ a)
    by_cases c : a < y
    · go_wp2_with (go_at_call 29; refine (ryear_any _ _ (by omega) (by omega)).mono ?_; rintro e w' ⟨rfl, rfl⟩)
      go_round
      case rel => exact ⟨a + 1, by omega, by omega, rfl, by rw [hss.out]; congr 1; omega⟩
      case measure => simp [intOf]; omega
    · obtain rfl : a = y := by omega
      go_wp2_with fail
      go_loopw [4, 6] (fun r t wr => ∃ b : Int, 1 ≤ b ∧ b ≤ m ∧ t = .int .i64 b ∧ r = .int .i64 (Cal.st a + -25567 + Cal.cum a b) ∧ Below w1.heap.size w1 wr) (fun _ t _ => (12 - intOf t).toNat)
      case atStart => exact ⟨1, by omega, by omega, rfl, by rw [Cal.cum_one]; simp, Below.refl _ _⟩
      case round =>
        obtain ⟨b, b0, b1, rfl, rfl, hbel⟩ := hrel
        have hlb' := Cal.len_bd a b
        have hbb := Cal.cum_bd a b b0 (by omega)
        have f0 := bc hbel hz1 d0
        have f1 := bc hbel hz1 d1
        have f2 := bc hbel hz1 d2
        by_cases c : b < m
        · have hcs := Lib.hid (Cal.cum_succ a b b0 (by omega))
          go_wp2_with fail
          refine (rmonth_len _ _ _ (by omega) (by omega) b0 (by omega)).mono ?_
          rintro e w2 ⟨rfl, hb2⟩
          go_wp2_with fail
          go_roundw
          case rel => exact ⟨b + 1, by omega, by omega, rfl, by rw [hcs.out]; congr 1; omega, bstep hbel hb2⟩
          case measure => simp [intOf]; omega
        · obtain rfl : b = m := by omega
          go_wp2_with fail
          go_ret2
          exact ⟨by have h := h2.out; rw [← h]; rfl, by rw [HB.out]; exact hbW1.trans (hbel.mono (Nat.le_of_lt hz1))⟩
end Go.Proofs.YtncekfogdpkgmaaDoor.W
