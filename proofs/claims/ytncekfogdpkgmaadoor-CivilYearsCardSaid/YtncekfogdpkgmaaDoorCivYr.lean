/- The walk of the law of civil on years. -/
import Derived.Test.YtncekfogdpkgmaaDoorCivZ
namespace Go.Proofs.YtncekfogdpkgmaaDoor.W
open Go.RowKit Go.Proofs.YtncekfogdpkgmaaDoor.M

theorem lp_next (y : Int) (h : Cal.lp y = 1) : Cal.lp (y + 1) = 0 := by
  unfold Cal.lp at h ⊢
  by_cases c : y % 4 = 0 ∧ (y % 100 ≠ 0 ∨ y % 400 = 0)
  · rw [if_neg (by omega)]
  · rw [if_neg c] at h; omega

theorem addm_year (y m k : Int) (h : Cal.Valid y m k) (hy : y ≤ 2198) :
    ∃ K, addm y m k 12 = Cal.day (y + 1) m K ∧ Cal.Valid (y + 1) m K ∧ ((m = 2 ∧ k = 29 ∧ K = 28) ∨ (m = 2 ∧ k ≠ 29 ∧ K = k) ∨ (m ≠ 2 ∧ K = k)) := by
  have h' := h
  obtain ⟨y0, y1, m0, m1, k0, k1⟩ := h'
  obtain ⟨Y, M, K, ha, hv, hT, hK⟩ := addm_mid' y m k 12 h (by omega) (by omega)
  have hvc := hv
  obtain ⟨Y0, Y1, M0, M1, K0, K1⟩ := hvc
  have hY : Y = y + 1 := by omega
  subst hY
  have hM : M = m := by omega
  subst hM
  refine ⟨K, ha, hv, ?_⟩
  by_cases c : M = 2
  · subst c
    have e1 : Cal.len y 2 = 28 + Cal.lp y := by unfold Cal.len; rw [if_pos rfl]
    have e2 : Cal.len (y + 1) 2 = 28 + Cal.lp (y + 1) := by unfold Cal.len; rw [if_pos rfl]
    have l1 := Cal.lp_01 y
    have l2 := Cal.lp_01 (y + 1)
    by_cases c2 : k = 29
    · left
      have := lp_next y (by omega)
      refine ⟨rfl, c2, ?_⟩
      rw [hK, if_pos (by omega)]; omega
    · right; left
      refine ⟨rfl, c2, ?_⟩
      rw [hK, if_neg (by omega)]
  · right; right
    refine ⟨c, ?_⟩
    have e : Cal.len (y + 1) M = Cal.len y M := by unfold Cal.len; rw [if_neg c, if_neg c]
    rw [hK, e, if_neg (by omega)]

theorem years (n : Int) (w : World) (ht : Tab w) (hn : 0 ≤ n ∧ n ≤ 4294967295) :
    Calls Tryd.prog 9 #[.int .u32 n] w fun e w' => e = .returned (.bool true) ∧ Below w.heap.size w w' := by
  obtain ⟨y, m, k, hv, hd⟩ := Cal.has_date (-25567 + n % 109200) (by omega) (by omega)
  have hd' : -25567 + n % 109200 = Cal.day y m k := hd.symm
  have hy : y ≤ 2198 := by
    obtain ⟨y0, y1, m0, m1, k0, k1⟩ := hv
    by_cases g : y = 2199
    · subst g
      have h1 := Cal.cum_bd 2199 m m0 (by omega)
      have h2 : Cal.st 2199 = 109208 := by decide
      unfold Cal.day at hd; omega
    · omega
  obtain ⟨K, ha, hv2, hcase⟩ := addm_year y m k hv hy
  have hadd := fun W (h : Tab W) => add_yes (Cal.day y m k) 12 y m k W h hv rfl (by omega)
  rw [ha] at hadd
  have Hadd := Lib.hid hadd
  have Hto := Lib.hid (fun W (h : Tab W) => to_yes (Cal.day y m k) y m k W h hv rfl)
  have Hto2 := Lib.hid (fun W (h : Tab W) => to_yes (Cal.day (y + 1) m K) (y + 1) m K W h hv2 rfl)
  have Hcase := Lib.hid hcase
  have y0 := hv.1
  clear hadd ha hcase hv hv2 hd
  generalize Cal.day y m k = D at *
  generalize Cal.day (y + 1) m K = D2 at *
  go_enter Tryd.func9, Tryd.ntmps9
  go_wp2_with fail
  clear hd'
  refine (Hto.out _ ht).mono ?_
  rintro e w1 ⟨rfl, hb1⟩
  have ht1 := ht.step hb1
  go_wp2_with fail
  refine (Hadd.out _ ht1).mono ?_
  rintro e w2 ⟨rfl, hb2⟩
  have ht2 := ht1.step hb2
  go_wp2_with fail
  refine (Hto2.out _ ht2).mono ?_
  rintro e w3 ⟨rfl, hb3⟩
  have hb123 := Lib.hid (bstep (bstep hb1 hb2) hb3)
  have ht3 := ht2.step hb3
  have hgz := ht3.1
  rcases Hcase.out with ⟨rfl, rfl, rfl⟩ | ⟨rfl, c, rfl⟩ | ⟨c, rfl⟩
  · go_wp2_with fail
    have ht4 := (ht3.alloc (.cells #[.int .i64 y, .int .i64 2, .int .i64 28] 23)).alloc (.cells #[.int .i64 (y + 1), .int .i64 2, .int .i64 28] 23)
    refine (awake_any _ ht4).mono ?_
    rintro e w5 ⟨rfl, hb5⟩
    go_wp2_with fail
    go_ret
    exact ⟨rfl, bstep (balloc (balloc hb123.out _) _) hb5⟩
  · have e3 : (K == 29) = false := beq_eq_false_iff_ne.2 c
    clear c
    go_wp2_with fail
    have ht4 := (ht3.alloc (.cells #[.int .i64 y, .int .i64 2, .int .i64 K] 23)).alloc (.cells #[.int .i64 (y + 1), .int .i64 2, .int .i64 K] 23)
    refine (awake_any _ ht4).mono ?_
    rintro e w5 ⟨rfl, hb5⟩
    go_wp2_with fail
    go_ret
    exact ⟨rfl, bstep (balloc (balloc hb123.out _) _) hb5⟩
  · have e3 : (m == 2) = false := beq_eq_false_iff_ne.2 c
    clear c
    go_wp2_with fail
    have ht4 := (ht3.alloc (.cells #[.int .i64 y, .int .i64 m, .int .i64 K] 23)).alloc (.cells #[.int .i64 (y + 1), .int .i64 m, .int .i64 K] 23)
    refine (awake_any _ ht4).mono ?_
    rintro e w5 ⟨rfl, hb5⟩
    go_wp2_with fail
    go_ret
    exact ⟨rfl, bstep (balloc (balloc hb123.out _) _) hb5⟩
end Go.Proofs.YtncekfogdpkgmaaDoor.W
