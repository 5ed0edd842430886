/- The walks of civil's months. -/
import Derived.Test.YtncekfogdpkgmaaDoorCivT
import Derived.Deep.RegionHeld3
namespace Go.Proofs.YtncekfogdpkgmaaDoor.W
open Go.RowKit Go.Proofs.YtncekfogdpkgmaaDoor.M

/-- Months later, of a date: its day. -/
def addm (y m k n : Int) : Int :=
  let t := 12 * (y - 1900) + m - 1
  if n < -t then -25567 else if 3600 - t ≤ n then 84005 else
  Cal.day (1900 + (t + n) / 12) ((t + n) % 12 + 1) (if Cal.len (1900 + (t + n) / 12) ((t + n) % 12 + 1) < k then Cal.len (1900 + (t + n) / 12) ((t + n) % 12 + 1) else k)

theorem add_no (d n : Int) (w : World) (h : d < -25567 ∨ 84005 < d) :
    Calls Tryd.prog 23 #[.int .i64 d, .int .i64 n] w fun e w' => e = .returned (.int .i64 d) ∧ w = w' := by
  go_enter Tryd.func23, Tryd.ntmps23
  go_wp2_with (go_at_call 32; refine (in_no d _ h).mono ?_; rintro e w' ⟨rfl, rfl⟩)
  go_ret
  exact ⟨rfl, rfl⟩

theorem add_yes (d n y m k : Int) (w : World) (ht : Tab w) (hv : Cal.Valid y m k) (hd : Cal.day y m k = d) (_hn : -9223372036854775808 ≤ n ∧ n ≤ 9223372036854775807) :
    Calls Tryd.prog 23 #[.int .i64 d, .int .i64 n] w fun e w' => e = .returned (.int .i64 (addm y m k n)) ∧ Below w.heap.size w w' := by
  have hin := Cal.day_in y m k hv
  rw [hd] at hin
  have hto := Lib.hid (to_yes d y m k w ht hv hd)
  obtain ⟨y0, y1, m0, m1, k0, k1⟩ := hv
  have HD := Lib.hid hd
  clear hd
  by_cases g1 : n < -(12 * (y - 1900) + m - 1)
  · have hr : addm y m k n = -25567 := by unfold addm; simp only; rw [if_pos g1]
    rw [hr]; clear hr
    go_enter Tryd.func23, Tryd.ntmps23
    go_wp2_with (go_at_call 32; refine (in_yes d _ hin.1 hin.2).mono ?_; rintro e w' ⟨rfl, rfl⟩)
    refine hto.out.mono ?_
    rintro e w1 ⟨rfl, hb1⟩
    go_wp2_with fail
    go_ret
    exact ⟨rfl, balloc hb1 _⟩
  by_cases g2 : 3600 - (12 * (y - 1900) + m - 1) ≤ n
  · have hr : addm y m k n = 84005 := by unfold addm; simp only; rw [if_neg g1, if_pos g2]
    rw [hr]; clear hr
    go_enter Tryd.func23, Tryd.ntmps23
    go_wp2_with (go_at_call 32; refine (in_yes d _ hin.1 hin.2).mono ?_; rintro e w' ⟨rfl, rfl⟩)
    refine hto.out.mono ?_
    rintro e w1 ⟨rfl, hb1⟩
    go_wp2_with fail
    go_ret
    exact ⟨rfl, balloc hb1 _⟩
  obtain ⟨t, hT⟩ : ∃ t, 12 * (y - 1900) + m - 1 + n = t := ⟨_, rfl⟩
  have hr : addm y m k n = Cal.day (1900 + t / 12) (t % 12 + 1) (if Cal.len (1900 + t / 12) (t % 12 + 1) < k then Cal.len (1900 + t / 12) (t % 12 + 1) else k) := by unfold addm; simp only; rw [if_neg g1, if_neg g2, hT]
  have HT := Lib.hid hT
  clear hT
  have t0 : 0 ≤ t := by have := HT.out; omega
  have t1 : t ≤ 3599 := by have := HT.out; omega
  have hlb := Cal.len_bd (1900 + t / 12) (t % 12 + 1)
  have hV : Cal.Valid (1900 + t / 12) (t % 12 + 1) (if Cal.len (1900 + t / 12) (t % 12 + 1) < k then Cal.len (1900 + t / 12) (t % 12 + 1) else k) := ⟨by omega, by omega, by omega, by omega, by split <;> omega, by split <;> omega⟩
  by_cases cm : Cal.len (1900 + t / 12) (t % 12 + 1) < k
  all_goals
    first
      | rw [if_pos cm] at hV hr
      | rw [if_neg cm] at hV hr
    rw [hr]; clear hr
    first
      | have cm' : (Cal.len (1900 + t / 12) (t % 12 + 1) < k) = True := eq_true cm
      | have cm' : (Cal.len (1900 + t / 12) (t % 12 + 1) < k) = False := eq_false cm
    go_enter Tryd.func23, Tryd.ntmps23
    go_wp2_with (go_at_call 32; refine (in_yes d _ hin.1 hin.2).mono ?_; rintro e w' ⟨rfl, rfl⟩)
    refine hto.out.mono ?_
    rintro e w1 ⟨rfl, hb1⟩
    have ht1 := (ht.step hb1).alloc (.cells #[.int .i64 y, .int .i64 m, .int .i64 k] 23)
    have z : 12 * (y - 1900) + m - 1 + n = t := HT.out
    go_wp2_with fail
    clear z
    have c2 : (w1.alloc (.cells #[.int .i64 y, .int .i64 m, .int .i64 k] 23)).cell? ⟨w1.heap.size, 2, none⟩ = some (.int .i64 k) := by simp
    have hbW : Below w.heap.size w (w1.alloc (.cells #[.int .i64 y, .int .i64 m, .int .i64 k] 23)) := balloc hb1 _
    have hzW : w1.heap.size < (w1.alloc (.cells #[.int .i64 y, .int .i64 m, .int .i64 k] 23)).heap.size := by simp
    have r0 : 1900 ≤ 1900 + t / 12 := by omega
    have r1 : 1900 + t / 12 ≤ 2199 := by omega
    have r2 : 1 ≤ t % 12 + 1 := by omega
    have r3 : t % 12 + 1 ≤ 12 := by omega
    generalize hY : 1900 + t / 12 = Y at *
    generalize hM : t % 12 + 1 = M at *
    have HY := Lib.hid hY; clear hY
    have HM := Lib.hid hM; clear hM
    generalize w1.alloc (.cells #[.int .i64 y, .int .i64 m, .int .i64 k] 23) = W at *
    clear hlb hb1
    have hlb := Cal.len_bd Y M
    go_region_held3 (fun w' => w'.cell? ⟨w1.heap.size, 2, none⟩ = some (.int .i64 k) ∧ Tab w')
      (first | exact ⟨c2, ht1⟩ | exact ⟨c2, ht1.drew⟩ | exact ⟨bc (below_drew' hb2) hzW c2, ht1.next (below_drew' hb2) (Nat.le_refl _)⟩)
      (first | (go_at_call 14; refine (monthdays_len _ _ _ ht1.drew r0 r1 r2 r3).mono ?_; rintro e w2 ⟨rfl, rfl⟩) | (go_at_call 12; refine (of_yes _ _ _ _ ht1.drew hV).mono ?_; rintro e w2 ⟨rfl, hb2⟩))
    go_wp2
    go_ret
    exact ⟨ret_int (by rw [HY.out, HM.out]), hbW.trans ((below_drew' hb2).mono hbW.size)⟩
end Go.Proofs.YtncekfogdpkgmaaDoor.W
