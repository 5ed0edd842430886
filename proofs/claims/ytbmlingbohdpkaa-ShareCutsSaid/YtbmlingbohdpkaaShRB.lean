/- ShareCuts: the walk. -/
import Derived.Test.YtbmlingbohdpkaaShR
namespace Go.Proofs.Ytbmlingbohdpkaa.W
open Go.RowKit Go.Proofs.Ytbmlingbohdpkaa.M Go.Proofs.Ytbmlingbohdpkaa.B Go.Proofs.Ytbmlingbohdpkaa.H
set_option linter.unusedVariables false

theorem up0 (c s : Int) : uperr c 0 s = wherr c s := by
  unfold uperr
  split
  · rename_i h
    have := wherr_ok h
    rw [if_neg (by omega), h]
  · rfl
theorem up_at {c w s : Int} (h : wherr c s = 0) : uperr c w s = if w < 0 ∨ s < w then 2 else 0 := by unfold uperr; rw [if_pos h]
theorem bt1 {c w v s k : Int} (h : uperr c 0 s = k) (hk : k ≠ 0) : bterr c w v s = k := by
  rw [up0] at h
  unfold bterr; rw [h, if_neg hk]
theorem bt2 {c w v s k : Int} (h : uperr c 0 s = 0) (h1 : uperr c w s = k) (hk : k ≠ 0) : bterr c w v s = k := by
  rw [up0] at h
  rw [up_at h] at h1
  unfold bterr; rw [if_pos h]
  split at h1
  · rw [if_pos (by omega), h1]
  · omega
theorem bt3 {c w v s k : Int} (h : uperr c 0 s = 0) (h1 : uperr c w s = 0) (h2 : uperr c v s = k) (hk : k ≠ 0) : bterr c w v s = k := by
  rw [up0] at h
  rw [up_at h] at h1 h2
  unfold bterr; rw [if_pos h]
  split at h2
  · rw [if_pos (by omega), h2]
  · omega
theorem bt4 {c w v s : Int} (h : uperr c 0 s = 0) (h1 : uperr c w s = 0) (h2 : uperr c v s = 0) : bterr c w v s = if v < w then 8 else 0 := by
  rw [up0] at h
  rw [up_at h] at h1 h2
  unfold bterr; rw [if_pos h]
  split at h1
  · omega
  split at h2
  · omega
  rw [if_neg (by omega)]
theorem refBetween_is (c w v s : Int) (W : World) (hc : -9223372036854775808 ≤ c ∧ c ≤ 9223372036854775807) (hw : -9223372036854775808 ≤ w ∧ w ≤ 9223372036854775807) (hv : -9223372036854775808 ≤ v ∧ v ≤ 9223372036854775807) (hs : -9223372036854775808 ≤ s ∧ s ≤ 9223372036854775807) :
    Calls Try.prog 17 #[.int .i64 c, .int .i64 w, .int .i64 v, .int .i64 s] W fun e w' => e = .returned (.tuple #[.int .i64 (btr c w v s), .int .i64 (bterr c w v s)]) ∧ W = w' := by
  have g0 := refUpTo_is c 0 s
  have g1 := refUpTo_is c w s
  have g2 := refUpTo_is c v s
  obtain ⟨k0, hk0⟩ : ∃ k, uperr c 0 s = k := ⟨_, rfl⟩
  obtain ⟨k1, hk1⟩ : ∃ k, uperr c w s = k := ⟨_, rfl⟩
  obtain ⟨k2, hk2⟩ : ∃ k, uperr c v s = k := ⟨_, rfl⟩
  obtain ⟨x0, hx0⟩ : ∃ k, upr c 0 s = k := ⟨_, rfl⟩
  obtain ⟨x1, hx1⟩ : ∃ k, upr c w s = k := ⟨_, rfl⟩
  obtain ⟨x2, hx2⟩ : ∃ k, upr c v s = k := ⟨_, rfl⟩
  rw [hk0, hx0] at g0
  rw [hk1, hx1] at g1
  rw [hk2, hx2] at g2
  have G0 := Lib.hid fun W => g0 W hc (by omega) hs
  have G1 := Lib.hid fun W => g1 W hc hw hs
  have G2 := Lib.hid fun W => g2 W hc hv hs
  clear g0 g1 g2
  by_cases z0 : k0 = 0
  · subst z0
    by_cases z1 : k1 = 0
    · subst z1
      by_cases z2 : k2 = 0
      · subst z2
        have c1 := wherr_ok (up0 c s ▸ hk0)
        have r1 := upr_range (c := c) (w := w) (s := s) c1.1 c1.2.1
        have r2 := upr_range (c := c) (w := v) (s := s) c1.1 c1.2.1
        rw [hx1] at r1
        rw [hx2] at r2
        have hb := bt4 hk0 hk1 hk2
        by_cases d : v < w
        · rw [if_pos d] at hb
          have HB := Lib.hid hb
          clear hb hk0 hk1 hk2 hx0 hx1 hx2
          go_enter Try.func17, Try.ntmps17
          go_wp2_with fail
          refine (G0.out _).mono ?_
          rintro e w1 ⟨rfl, rfl⟩
          go_wp2_with fail
          refine (G1.out _).mono ?_
          rintro e w1 ⟨rfl, rfl⟩
          go_wp2_with fail
          refine (G2.out _).mono ?_
          rintro e w1 ⟨rfl, rfl⟩
          go_wp2_with fail
          go_ret2
          exact ⟨ret_ii (btr_bad HB.out (by omega)).symm HB.out.symm, rfl⟩
        · rw [if_neg d] at hb
          have HB := Lib.hid hb
          have hV : btr c w v s = x2 - x1 := by rw [btr_ok hb, ← hx1, ← hx2, upr_ok hk1, upr_ok hk2]
          have HV := Lib.hid hV
          clear hb hk0 hk1 hk2 hx0 hx1 hx2 hV
          go_enter Try.func17, Try.ntmps17
          go_wp2_with fail
          refine (G0.out _).mono ?_
          rintro e w1 ⟨rfl, rfl⟩
          go_wp2_with fail
          refine (G1.out _).mono ?_
          rintro e w1 ⟨rfl, rfl⟩
          go_wp2_with fail
          refine (G2.out _).mono ?_
          rintro e w1 ⟨rfl, rfl⟩
          go_wp2_with fail
          go_ret2
          exact ⟨ret_ii HV.out.symm HB.out.symm, rfl⟩
      · have hb := bt3 hk0 hk1 hk2 z2
        have z2' : (k2 == 0) = false := beq_eq_false_iff_ne.2 z2
        have HB := Lib.hid hb
        have HZ := Lib.hid z2
        clear hb hk0 hk1 hk2 hx0 hx1 hx2 z2
        go_enter Try.func17, Try.ntmps17
        go_wp2_with fail
        refine (G0.out _).mono ?_
        rintro e w1 ⟨rfl, rfl⟩
        go_wp2_with fail
        refine (G1.out _).mono ?_
        rintro e w1 ⟨rfl, rfl⟩
        go_wp2_with fail
        refine (G2.out _).mono ?_
        rintro e w1 ⟨rfl, rfl⟩
        go_wp2_with fail
        go_ret2
        exact ⟨ret_ii (btr_bad HB.out HZ.out).symm HB.out.symm, rfl⟩
    · have hb := bt2 (v := v) hk0 hk1 z1
      have z1' : (k1 == 0) = false := beq_eq_false_iff_ne.2 z1
      have HB := Lib.hid hb
      have HZ := Lib.hid z1
      clear hb hk0 hk1 hk2 hx0 hx1 hx2 z1
      go_enter Try.func17, Try.ntmps17
      go_wp2_with fail
      refine (G0.out _).mono ?_
      rintro e w1 ⟨rfl, rfl⟩
      go_wp2_with fail
      refine (G1.out _).mono ?_
      rintro e w1 ⟨rfl, rfl⟩
      go_wp2_with fail
      go_ret2
      exact ⟨ret_ii (btr_bad HB.out HZ.out).symm HB.out.symm, rfl⟩
  · have hb := bt1 (w := w) (v := v) hk0 z0
    have z0' : (k0 == 0) = false := beq_eq_false_iff_ne.2 z0
    have HB := Lib.hid hb
    have HZ := Lib.hid z0
    clear hb hk0 hk1 hk2 hx0 hx1 hx2 z0
    go_enter Try.func17, Try.ntmps17
    go_wp2_with fail
    refine (G0.out _).mono ?_
    rintro e w1 ⟨rfl, rfl⟩
    go_wp2_with fail
    go_ret2
    exact ⟨ret_ii (btr_bad HB.out HZ.out).symm HB.out.symm, rfl⟩

theorem shareCuts (c w v s : Int) (W : World) (hc : -9223372036854775808 ≤ c ∧ c ≤ 9223372036854775807) (hw : -9223372036854775808 ≤ w ∧ w ≤ 9223372036854775807) (hv : -9223372036854775808 ≤ v ∧ v ≤ 9223372036854775807) (hs : -9223372036854775808 ≤ s ∧ s ≤ 9223372036854775807) :
    Calls Try.prog 7 #[.int .i64 c, .int .i64 w, .int .i64 v, .int .i64 s] W fun e w' => e = .returned (.bool true) ∧ Below W.heap.size W w' := by
  have g0 := Lib.hid fun W => UpTo_is c w s W hc hw hs
  have g1 := Lib.hid fun W => refUpTo_is c w s W hc hw hs
  have g2 := Lib.hid fun W => Between_is c w v s W hc hw hv hs
  have g3 := Lib.hid fun W => refBetween_is c w v s W hc hw hv hs
  unfold UpOut at g0
  unfold BtOut at g2
  generalize uperr c w s = k0 at *
  generalize upr c w s = x0 at *
  generalize bterr c w v s = k1 at *
  generalize btr c w v s = x1 at *
  go_enter Try.func7, Try.ntmps7
  go_wp2_with fail
  refine (g0.out _).mono ?_
  rintro e w1 ⟨rfl, hb1⟩
  go_wp2_with fail
  refine (g1.out _).mono ?_
  rintro e w2 ⟨rfl, rfl⟩
  go_wp2_with fail
  refine (g2.out _).mono ?_
  rintro e w3 ⟨rfl, hb3⟩
  go_wp2_with fail
  refine (g3.out _).mono ?_
  rintro e w4 ⟨rfl, rfl⟩
  go_wp2_with (go_at_call 10; refine (awake_is _).mono ?_; rintro e w5 ⟨rfl, hb5⟩)
  go_ret
  exact ⟨rfl, bstep (bstep hb1 hb3) hb5⟩
end Go.Proofs.Ytbmlingbohdpkaa.W
