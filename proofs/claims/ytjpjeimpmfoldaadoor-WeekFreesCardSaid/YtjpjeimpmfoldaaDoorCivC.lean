/- The walks of civil: a date's day. -/
import Derived.Test.YtjpjeimpmfoldaaDoorCivB
import Derived.Deep.RegionHeld3
namespace Go.Proofs.YtjpjeimpmfoldaaDoor.W
open Go.RowKit Go.Proofs.YtjpjeimpmfoldaaDoor.M

theorem of_no (y m k : Int) (w : World) (ht : Tab w) (_hy : -9223372036854775808 ≤ y ∧ y ≤ 9223372036854775807) (_hm : -9223372036854775808 ≤ m ∧ m ≤ 9223372036854775807) (h : k < 1 ∨ Cal.MD y m < k) :
    Calls Tryd.prog 33 #[.agg #[.int .i64 y, .int .i64 m, .int .i64 k]] w fun e w' => e = .returned (.tuple #[.int .i64 0, .int .i64 15]) ∧ Below w.heap.size w w' := by
  have ht' := ht.alloc (.cells #[.int .i64 y, .int .i64 m, .int .i64 k] 66)
  by_cases c : k < 1
  · clear h
    go_enter Tryd.func33, Tryd.ntmps33
    go_wp2
    go_quiet (fail)
    go_wp2
    go_ret2
    exact ⟨rfl, below_drewN (balloc (Below.refl _ _) _) _⟩
  · have h1 : Cal.MD y m < k := by omega
    have c' : decide (k < 1) = false := by simpa using c
    clear h
    go_enter Tryd.func33, Tryd.ntmps33
    go_wp2
    go_quiet ((go_at_call 36; exact quiet_left (monthdays_any _ _ _ (ht'.drewN _) _hy _hm)))
    go_wp2
    go_ret2
    exact ⟨rfl, below_drewN (balloc (Below.refl _ _) _) _⟩

theorem of_yes (y m k : Int) (w : World) (ht : Tab w) (hv : Cal.Valid y m k) :
    Calls Tryd.prog 33 #[.agg #[.int .i64 y, .int .i64 m, .int .i64 k]] w fun e w' => e = .returned (.tuple #[.int .i64 (Cal.day y m k), .int .i64 0]) ∧ Below w.heap.size w w' := by
  have ht' := ht.alloc (.cells #[.int .i64 y, .int .i64 m, .int .i64 k] 66)
  have hto := fun n => to_yes (Cal.day y m k) y m k _ (ht'.drewN n) hv rfl
  have hv' := Lib.hid hv
  obtain ⟨y0, y1, m0, m1, k0, k1⟩ := hv
  have c' : decide (k < 1) = false := by simp; omega
  have hMD : Cal.MD y m = Cal.len y m := by unfold Cal.MD; rw [if_pos (by omega)]
  have hlb := Cal.len_bd y m
  have h1 : ¬ Cal.len y m < k := by omega
  have hsb := Cal.st_bd y (by omega) (by omega)
  have h2 : Hid (Cal.st y + k - 1 + Cal.cum y m + -25567 = Cal.day y m k) := by show _ = _; unfold Cal.day; omega
  go_enter Tryd.func33, Tryd.ntmps33
  go_wp2
  go_quiet ((go_at_call 36; exact quiet_left (monthdays_len _ _ _ (ht'.drewN _) y0 y1 m0 m1)))
  go_wp2
  have s1 : IntKind.i64.wrap (Cal.st y + k) = Cal.st y + k := IntWalk.i64_in _ (by omega)
  have s2 : IntKind.i64.wrap (Cal.st y + k - 1) = Cal.st y + k - 1 := IntWalk.i64_in _ (by omega)
  go_quiet ((go_at_call 37; exact quiet_add_left (start_any _ _ (by omega) (by omega))))
  clear s1 s2
  go_wp2
  rw [World.drewN_drewN]
  go_loop [4, 5] (fun r t => ∃ b : Int, 1 ≤ b ∧ b ≤ m ∧ t = .int .i64 b ∧ r = .int .i64 (Cal.st y + k - 1 + Cal.cum y b)) (fun _ t => (12 - intOf t).toNat)
  case atStart => exact ⟨1, by omega, by omega, rfl, by rw [Cal.cum_one]; simp⟩
  case round =>
    obtain ⟨b, b0, b1, rfl, rfl⟩ := hrel
    have hbb := Cal.cum_bd y b b0 (by omega)
    have hlb' := Cal.len_bd y b
    by_cases c : b < m
    · have hcs := Lib.hid (Cal.cum_succ y b b0 (by omega))
      go_wp2_with (go_at_call 36; refine (monthdays_len _ _ _ (ht'.drewN _) y0 y1 b0 (by omega)).mono ?_; rintro e w' ⟨rfl, rfl⟩)
      go_round
      case rel => exact ⟨b + 1, by omega, by omega, rfl, by rw [hcs.out]; congr 1; omega⟩
      case measure => simp [intOf]; omega
    · obtain rfl : b = m := by omega
      have h3 : Cal.st y + k - 1 + Cal.cum y b + -25567 = Cal.day y b k := h2.out
      have hsb2 := Cal.day_in y b k hv'.out
      go_wp2
      clear h3
      go_region_with (go_at_call 38; refine (hto _).mono ?_; rintro e w1 ⟨rfl, hb1⟩; obtain ⟨hc1, hf1⟩ := bcell hb1)
      all_goals go_wp2
      all_goals go_ret2
      all_goals exact ⟨rfl, bstep (below_drewN (balloc (Below.refl _ _) _) _) hb1⟩
end Go.Proofs.YtjpjeimpmfoldaaDoor.W
