/- The walks of the laws of civil: the next day, months forth and back, years. -/
import Derived.Test.YtncekfogdpkgmaaDoorCivW
namespace Go.Proofs.YtncekfogdpkgmaaDoor.W
open Go.RowKit Go.Proofs.YtncekfogdpkgmaaDoor.M

theorem next_day (y m k : Int) (h : Cal.Valid y m k) (hl : Cal.day y m k + 1 ≤ 84005) :
    (k < Cal.len y m ∧ Cal.Valid y m (k + 1) ∧ Cal.day y m (k + 1) = Cal.day y m k + 1) ∨
    (k = Cal.len y m ∧ m < 12 ∧ Cal.Valid y (m + 1) 1 ∧ Cal.day y (m + 1) 1 = Cal.day y m k + 1) ∨
    (k = Cal.len y m ∧ m = 12 ∧ Cal.Valid (y + 1) 1 1 ∧ Cal.day (y + 1) 1 1 = Cal.day y m k + 1) := by
  obtain ⟨y0, y1, m0, m1, k0, k1⟩ := h
  by_cases c : k < Cal.len y m
  · exact .inl ⟨c, ⟨y0, y1, m0, m1, by omega, by omega⟩, by unfold Cal.day; omega⟩
  have ck : k = Cal.len y m := by omega
  have hs := Cal.cum_succ y m m0 m1
  by_cases c2 : m < 12
  · have hb := Cal.len_bd y (m + 1)
    exact .inr (.inl ⟨ck, c2, ⟨y0, y1, by omega, by omega, by omega, by omega⟩, by unfold Cal.day; omega⟩)
  · obtain rfl : m = 12 := by omega
    have he := Cal.cum_end y
    have hss := Cal.st_succ y
    have h1 := Cal.cum_one (y + 1)
    rw [show (12 : Int) + 1 = 13 from rfl, he] at hs
    have hd : Cal.day (y + 1) 1 1 = Cal.day y 12 k + 1 := by unfold Cal.day; omega
    have hy : y + 1 ≤ 2199 := by
      by_cases g : y = 2199
      · subst g
        rw [← hd, Cal.day, h1, show (2199 : Int) + 1 = 2200 from rfl, Cal.st_last] at hl
        omega
      · omega
    have hb := Cal.len_bd (y + 1) 1
    exact .inr (.inr ⟨ck, rfl, ⟨by omega, hy, by omega, by omega, by omega, by omega⟩, hd⟩)

theorem follows (n : Int) (w : World) (ht : Tab w) (hn : 0 ≤ n ∧ n ≤ 4294967295) :
    Calls Tryd.prog 6 #[.int .u32 n] w fun e w' => e = .returned (.bool true) ∧ Below w.heap.size w w' := by
  obtain ⟨y, m, k, hv, hd⟩ := Cal.has_date (-25567 + n % 109572) (by omega) (by omega)
  obtain ⟨i0, i1⟩ := Cal.day_in y m k hv
  have hl : Cal.day y m k + 1 ≤ 84005 := by omega
  have hd' : -25567 + n % 109572 = Cal.day y m k := hd.symm
  have hvv := hv
  have hlb := Cal.len_bd y m
  have hV := Lib.hid hv
  obtain ⟨y0, y1, m0, m1, k0, k1⟩ := hvv
  obtain ⟨y2, m2, k2, hv2, hd2, hcase⟩ : ∃ y2 m2 k2, Cal.Valid y2 m2 k2 ∧ Cal.day y2 m2 k2 = Cal.day y m k + 1 ∧
      Hid ((k < Cal.len y m ∧ y2 = y ∧ m2 = m ∧ k2 = k + 1) ∨ (k = Cal.len y m ∧ m < 12 ∧ y2 = y ∧ m2 = m + 1 ∧ k2 = 1) ∨ (k = Cal.len y m ∧ m = 12 ∧ y2 = y + 1 ∧ m2 = 1 ∧ k2 = 1)) := by
    rcases next_day y m k hv hl with ⟨a, b, c⟩ | ⟨a, a2, b, c⟩ | ⟨a, a2, b, c⟩
    · exact ⟨_, _, _, b, c, .inl ⟨a, rfl, rfl, rfl⟩⟩
    · exact ⟨_, _, _, b, c, .inr (.inl ⟨a, a2, rfl, rfl, rfl⟩)⟩
    · exact ⟨_, _, _, b, c, .inr (.inr ⟨a, a2, rfl, rfl, rfl⟩)⟩
  have Hto2 := Lib.hid (fun W (h : Tab W) => to_yes (Cal.day y m k + 1) y2 m2 k2 W h hv2 hd2)
  have Hto := Lib.hid (fun W (h : Tab W) => to_yes (Cal.day y m k) y m k W h hv rfl)
  clear hd hv hv2 hd2
  generalize Cal.day y m k = d at *
  have e7 : ((d + 1 + 25567) % 7 != ((d + 25567) % 7 + 1) % 7) = false := by rw [bne_eq_false_iff_eq]; omega
  go_enter Tryd.func6, Tryd.ntmps6
  go_wp2_with fail
  clear hd'
  refine (Hto.out _ ht).mono ?_
  rintro e w1 ⟨rfl, hb1⟩
  have ht1 := ht.step hb1
  go_wp2_with fail
  refine (Hto2.out _ ht1).mono ?_
  rintro e w2 ⟨rfl, hb2⟩
  have ht2 := ((ht1.step hb2).alloc (.cells #[.int .i64 y, .int .i64 m, .int .i64 k] 23)).alloc (.cells #[.int .i64 y2, .int .i64 m2, .int .i64 k2] 23)
  have hbb := Lib.hid (balloc (balloc (bstep hb1 hb2) (.cells #[.int .i64 y, .int .i64 m, .int .i64 k] 23)) (.cells #[.int .i64 y2, .int .i64 m2, .int .i64 k2] 23))
  go_wp2_with fail
  refine (weekday_yes _ _ (by omega) (by omega)).mono ?_
  rintro e w3 ⟨rfl, rfl⟩
  go_wp2_with fail
  refine (weekday_yes _ _ (by omega) (by omega)).mono ?_
  rintro e w3 ⟨rfl, rfl⟩
  go_wp2_with fail
  go_quiet ((go_at_call 14; exact quiet_left (monthdays_len _ _ _ (ht2.drewN _) y0 y1 m0 m1)))
  rcases hcase.out with ⟨c, rfl, rfl, rfl⟩ | ⟨c, c2, rfl, rfl, rfl⟩ | ⟨c, c2, rfl, rfl, rfl⟩
  · go_wp2_with fail
    refine (awake_any _ (ht2.drewN _)).mono ?_
    rintro e w4 ⟨rfl, hb4⟩
    go_wp2_with fail
    go_ret
    exact ⟨rfl, bstep (below_drewN hbb.out _) hb4⟩
  · have c' : ¬ k < Cal.len y2 m := by omega
    clear c
    go_wp2_with fail
    refine (awake_any _ (ht2.drewN _)).mono ?_
    rintro e w4 ⟨rfl, hb4⟩
    go_wp2_with fail
    go_ret
    exact ⟨rfl, bstep (below_drewN hbb.out _) hb4⟩
  · have c' : ¬ k < Cal.len y m := by omega
    have c2' : ¬ m < 12 := by omega
    clear c c2
    go_wp2_with fail
    refine (awake_any _ (ht2.drewN _)).mono ?_
    rintro e w4 ⟨rfl, hb4⟩
    go_wp2_with fail
    go_ret
    exact ⟨rfl, bstep (below_drewN hbb.out _) hb4⟩
end Go.Proofs.YtncekfogdpkgmaaDoor.W
