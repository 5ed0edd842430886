/- The walks of the laws of civil: months forth and back, years. -/
import Derived.Test.YtncekfogdpkgmaaDoorCivU
import Derived.Test.YtncekfogdpkgmaaDoorCivW
namespace Go.Proofs.YtncekfogdpkgmaaDoor.W
open Go.RowKit Go.Proofs.YtncekfogdpkgmaaDoor.M

theorem addm_mid' (y m k n : Int) (h : Cal.Valid y m k) (c0 : -(12 * (y - 1900) + m - 1) ≤ n) (c1 : n < 3600 - (12 * (y - 1900) + m - 1)) :
    ∃ Y M K, addm y m k n = Cal.day Y M K ∧ Cal.Valid Y M K ∧ 12 * (Y - 1900) + M - 1 = 12 * (y - 1900) + m - 1 + n ∧ K = (if Cal.len Y M < k then Cal.len Y M else k) := by
  obtain ⟨y0, y1, m0, m1, k0, k1⟩ := h
  have hlb := Cal.len_bd (1900 + (12 * (y - 1900) + m - 1 + n) / 12) ((12 * (y - 1900) + m - 1 + n) % 12 + 1)
  refine ⟨1900 + (12 * (y - 1900) + m - 1 + n) / 12, (12 * (y - 1900) + m - 1 + n) % 12 + 1, _, ?_, ?_, by omega, rfl⟩
  · unfold addm; simp only; rw [if_neg (by omega), if_neg (by omega)]
  · exact ⟨by omega, by omega, by omega, by omega, by split <;> omega, by split <;> omega⟩

theorem addm_back (y m k n : Int) (h : Cal.Valid y m k) (c0 : -(12 * (y - 1900) + m - 1) ≤ n) (c1 : n < 3600 - (12 * (y - 1900) + m - 1)) :
    ∃ Y M K, addm y m k n = Cal.day Y M K ∧ Cal.Valid Y M K ∧ addm Y M K (-n) = Cal.day y m K ∧ Cal.Valid y m K ∧ (K = k ∨ (28 < k ∧ K < k ∧ 28 ≤ K)) := by
  obtain ⟨Y, M, K, ha, hv, hT, hK⟩ := addm_mid' y m k n h c0 c1
  have h' := h
  obtain ⟨y0, y1, m0, m1, k0, k1⟩ := h'
  have hlb := Cal.len_bd Y M
  have hvc := hv
  obtain ⟨Y0, Y1, M0, M1, K0, K1⟩ := hvc
  obtain ⟨Y', M', K', ha', hv', hT', hK'⟩ := addm_mid' Y M K (-n) hv (by omega) (by omega)
  obtain ⟨Y0', Y1', M0', M1', K0', K1'⟩ := hv'
  have hY : Y' = y := by omega
  subst hY
  have hM : M' = m := by omega
  subst hM
  have hKk : K ≤ k := by rw [hK]; split <;> omega
  have hKK : K' = K := by rw [hK', if_neg (by omega)]
  subst hKK
  refine ⟨Y, M, K', ha, hv, ha', ⟨y0, y1, m0, m1, K0', K1'⟩, ?_⟩
  rw [hK]
  by_cases g : Cal.len Y M < k
  · rw [if_pos g]; right; omega
  · rw [if_neg g]; left; rfl

theorem tmod_bd (q : Int) : -1200 < q.tmod 1200 ∧ q.tmod 1200 < 1200 := by
  by_cases h : 0 ≤ q
  · rw [Int.tmod_eq_emod_of_nonneg h]; omega
  · have h1 : q.tmod 1200 = -((-q).tmod 1200) := by rw [Int.neg_tmod, Int.neg_neg]
    rw [h1, Int.tmod_eq_emod_of_nonneg (by omega)]; omega
theorem forth (n q : Int) (w : World) (ht : Tab w) (hn : 0 ≤ n ∧ n ≤ 4294967295) (_hq : -32768 ≤ q ∧ q ≤ 32767) :
    Calls Tryd.prog 7 #[.int .u32 n, .int .i16 q] w fun e w' => e = .returned (.bool true) ∧ Below w.heap.size w w' := by
  obtain ⟨y, m, k, hv, hd⟩ := Cal.has_date (-25567 + n % 109573) (by omega) (by omega)
  obtain ⟨i0, i1⟩ := Cal.day_in y m k hv
  have hd' : -25567 + n % 109573 = Cal.day y m k := hd.symm
  have hK0 := tmod_bd q
  obtain ⟨K, hK⟩ : ∃ K, q.tmod 1200 = K := ⟨_, rfl⟩
  rw [hK] at hK0
  have hadd := add_yes (Cal.day y m k) K y m k w ht hv rfl (by omega)
  clear hd
  by_cases g : addm y m k K = -25567 ∨ addm y m k K = 84005
  · generalize addm y m k K = A at *
    have Hadd := Lib.hid hadd; clear hadd hv
    have hbool : (A == -25567) = true ∨ ((A == -25567) = false ∧ (A == 84005) = true) := by
      rcases g with rfl | rfl
      · left; rfl
      · right; exact ⟨rfl, rfl⟩
    clear g
    go_enter Tryd.func7, Tryd.ntmps7
    go_wp2_with fail
    refine Hadd.out.mono ?_
    rintro e w1 ⟨rfl, hb1⟩
    have ht1 := ht.step hb1
    rcases hbool with e1 | ⟨e1, e2⟩
    all_goals
      go_wp2_with fail
      refine (awake_any _ ht1).mono ?_
      rintro e w2 ⟨rfl, hb2⟩
      go_wp2_with fail
      go_ret
      exact ⟨rfl, bstep hb1 hb2⟩
  · have c0 : -(12 * (y - 1900) + m - 1) ≤ K := by
      by_cases c : K < -(12 * (y - 1900) + m - 1)
      · exfalso; apply g; left; unfold addm; simp only; rw [if_pos c]
      · omega
    have c1 : K < 3600 - (12 * (y - 1900) + m - 1) := by
      by_cases c : 3600 - (12 * (y - 1900) + m - 1) ≤ K
      · exfalso; apply g; right; unfold addm; simp only; rw [if_neg (by omega), if_pos c]
      · omega
    obtain ⟨Y, M, k2, ha, hv2, hback, hv3, hcase⟩ := addm_back y m k K hv c0 c1
    rw [ha] at hadd g
    have e1 : (Cal.day Y M k2 == -25567) = false := beq_eq_false_iff_ne.2 (fun h => g (.inl h))
    have e2 : (Cal.day Y M k2 == 84005) = false := beq_eq_false_iff_ne.2 (fun h => g (.inr h))
    have Hadd := Lib.hid hadd
    have Hto := Lib.hid (fun W (h : Tab W) => to_yes (Cal.day y m k) y m k W h hv rfl)
    have hadd2 := fun W (h : Tab W) => add_yes (Cal.day Y M k2) (-K) Y M k2 W h hv2 rfl (by omega)
    rw [hback] at hadd2
    have Hadd2 := Lib.hid hadd2
    have Hto2 := Lib.hid (fun W (h : Tab W) => to_yes (Cal.day y m k2) y m k2 W h hv3 rfl)
    clear hadd hadd2 hback ha g c0 c1
    have Hcase := Lib.hid hcase
    clear hv hv2 hv3 hcase
    generalize Cal.day y m k = D at *
    generalize Cal.day y m k2 = D2 at *
    generalize Cal.day Y M k2 = D3 at *
    go_enter Tryd.func7, Tryd.ntmps7
    go_wp2_with fail
    refine Hadd.out.mono ?_
    rintro e w1 ⟨rfl, hb1⟩
    have ht1 := ht.step hb1
    go_wp2_with fail
    clear hd' hK
    refine (Hto.out _ ht1).mono ?_
    rintro e w2 ⟨rfl, hb2⟩
    have ht2 := ht1.step hb2
    go_wp2_with fail
    refine (Hadd2.out _ ht2).mono ?_
    rintro e w3 ⟨rfl, hb3⟩
    have ht3 := ht2.step hb3
    go_wp2_with fail
    refine (Hto2.out _ ht3).mono ?_
    rintro e w4 ⟨rfl, hb4⟩
    have ht4 := ((ht3.step hb4).alloc (.cells #[.int .i64 y, .int .i64 m, .int .i64 k] 23)).alloc (.cells #[.int .i64 y, .int .i64 m, .int .i64 k2] 23)
    rcases Hcase.out with rfl | ⟨x1, x2, x3⟩
    · go_wp2_with fail
      refine (awake_any _ ht4).mono ?_
      rintro e w5 ⟨rfl, hb5⟩
      go_wp2_with fail
      go_ret
      exact ⟨rfl, bstep (balloc (balloc (bstep (bstep (bstep hb1 hb2) hb3) hb4) _) _) hb5⟩
    · have e3 : (k == k2) = false := beq_eq_false_iff_ne.2 (by omega)
      go_wp2_with fail
      refine (awake_any _ ht4).mono ?_
      rintro e w5 ⟨rfl, hb5⟩
      go_wp2_with fail
      go_ret
      exact ⟨rfl, bstep (balloc (balloc (bstep (bstep (bstep hb1 hb2) hb3) hb4) _) _) hb5⟩
end Go.Proofs.YtncekfogdpkgmaaDoor.W
