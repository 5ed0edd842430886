/- The walks of layer rate: a rate's part of an amount, to the nearest cent. -/
import Derived.Test.YtjfcbflhnfjcfaaDivM
namespace Go.Proofs.Ytjfcbflhnfjcfaa.B
open Go.RowKit Go.Proofs.Ytjfcbflhnfjcfaa.M
set_option linter.unusedVariables false

/-- An amount's part by a rate, to the nearest cent. -/
def rnd (c r : Int) : Int := (2 * (c * r) + 1000000) / 2000000
theorem rnd_nat (N q l : Nat) (hq : N / 1000000 = q) (hl : N % 1000000 = l) : (2 * (N : Int) + 1000000) / 2000000 = if 1000000 - l ≤ l then (q : Int) + 1 else (q : Int) := by
  split <;> omega

theorem amount_yes (c : Int) (w : World) (h0 : -1125899906842624 ≤ c) (h1 : c ≤ 1125899906842624) :
    Calls Try.prog 50 #[.int .i64 c] w fun e w' => e = .returned (.bool true) ∧ w = w' := by
  go_enter Try.func50, Try.ntmps50
  go_wp2
  go_ret
  exact ⟨rfl, rfl⟩
theorem rate_yes (r : Int) (w : World) (h0 : -1000000000 ≤ r) (h1 : r ≤ 1000000000) :
    Calls Try.prog 51 #[.int .i64 r] w fun e w' => e = .returned (.bool true) ∧ w = w' := by
  go_enter Try.func51, Try.ntmps51
  go_wp2
  go_ret
  exact ⟨rfl, rfl⟩
theorem size_pos (n : Nat) (w : World) (h : n < 9223372036854775808) :
    Calls Try.prog 62 #[.int .i64 (n : Int)] w fun e w' => e = .returned (.int .u64 (n : Int)) ∧ w = w' := by
  have h0 : ¬ (n : Int) < 0 := by omega
  have h1 : (n : Int) < 9223372036854775808 := by omega
  clear h
  go_enter Try.func62, Try.ntmps62
  go_wp2
  go_ret
  exact ⟨rfl, rfl⟩
theorem up_half (q l : Nat) (b : Bool) (hb : Hid (decide (1000000 - l ≤ l) = b)) (hl : l < 1000000) (w : World) :
    Calls Try.prog 64 #[.bool false, .int .u64 (q : Int), .int .u64 (l : Int), .int .u64 1000000, .int .i64 1] w fun e w' => e = .returned (.bool b) ∧ w = w' := by
  have hd : decide (1000000 - (l : Int) ≤ (l : Int)) = b := by
    rw [← hb.out]; congr 1; apply propext; omega
  have l0 : (l : Int) < 1000000 := by omega
  clear hl hb
  go_enter Try.func64, Try.ntmps64
  go_wp2
  go_ret
  exact ⟨rfl, rfl⟩
theorem mul_var (x y hi lo : Nat) (hx : x < 18446744073709551616) (hy : y < 18446744073709551616) (hh : Hid (x * y / 18446744073709551616 = hi)) (hl : Hid (x * y % 18446744073709551616 = lo)) (w : World) :
    Calls Try.prog 61 #[.int .u64 (x : Int), .int .u64 (y : Int)] w fun e w' => e = .returned (.tuple #[.int .u64 (hi : Int), .int .u64 (lo : Int)]) ∧ w = w' := by
  have h := mul64 x y hx hy w
  rw [hh.out, hl.out] at h
  exact h

def QuoOut (v : Int) (w : World) (e : Ending) (w' : World) : Prop := e = .returned (.tuple #[.int .i64 v, .bool true]) ∧ ∃ n, w' = w.drewN n
def OfOut (v : Int) (w : World) (e : Ending) (w' : World) : Prop := e = .returned (.tuple #[.int .i64 v, .int .i64 0]) ∧ ∃ n, w' = w.drewN n

theorem quot_half (c r : Nat) (hc : c ≤ 1125899906842624) (hr : r ≤ 1000000) (v : Int) (hv : Hid (rnd c r = v)) (w : World) :
    Calls Try.prog 58 #[.int .i64 (c : Int), .int .i64 (r : Int), .int .u64 1000000, .int .u64 1125899906842624, .int .i64 1] w (QuoOut v w) := by
  have hN : c * r ≤ 1125899906842624 * 1000000 := Nat.mul_le_mul hc hr
  obtain ⟨N, hN'⟩ : ∃ N, c * r = N := ⟨_, rfl⟩
  rw [hN'] at hN
  obtain ⟨hi, hhi⟩ : ∃ hi, c * r / 18446744073709551616 = hi := ⟨_, rfl⟩
  obtain ⟨lo, hlo⟩ : ∃ lo, c * r % 18446744073709551616 = lo := ⟨_, rfl⟩
  obtain ⟨q, hq⟩ : ∃ q, N / 1000000 = q := ⟨_, rfl⟩
  obtain ⟨l, hl⟩ : ∃ l, N % 1000000 = l := ⟨_, rfl⟩
  have hNN : hi * 18446744073709551616 + lo = N := by rw [← hN', ← hhi, ← hlo]; omega
  have hm := fun W => mul_var c r hi lo (by omega) (by omega) hhi hlo W
  have hd := fun W => div_mil hi lo q l (by omega) (by omega) (by show _ = _; rw [hNN]; exact hq) (by show _ = _; rw [hNN]; exact hl) W
  have hV : Hid (v = if 1000000 - l ≤ l then (q : Int) + 1 else (q : Int)) := by
    show _ = _
    rw [← hv.out, ← rnd_nat N q l hq hl]; unfold rnd; rw [← hN']; congr 2
  have HM := Lib.hid hm
  have HD := Lib.hid hd
  have hs1 := fun W => size_pos c W (by omega)
  have hs2 := fun W => size_pos r W (by omega)
  have HS1 := Lib.hid hs1
  have HS2 := Lib.hid hs2
  have t1 : decide (1000000 ≤ (hi : Int)) = false := by simp; omega
  have t2 : decide (1125899906842624 < (q : Int)) = false := by simp; omega
  have hlt : l < 1000000 := by omega
  have n0 : ¬ (c : Int) < 0 := by omega
  have n1 : ¬ (r : Int) < 0 := by omega
  by_cases hup : 1000000 - l ≤ l
  · have hv2 : Hid ((q : Int) + 1 = v) := by show _ = _; rw [hV.out, if_pos hup]
    have hu := Lib.hid (fun W => up_half q l true (by show _ = _; simp [hup]) hlt W)
    have q1 : (q : Int) + 1 ≤ 1125899906842624 := by omega
    have t3 : decide (1125899906842624 < (q : Int) + 1) = false := by simp; omega
    clear hm hd hs1 hs2 hN hN' hhi hlo hq hl hNN hup hlt hc hr hv hV
    go_enter Try.func58, Try.ntmps58
    go_wp2_with fail
    refine (HS1.out _).mono ?_
    rintro e w1 ⟨rfl, rfl⟩
    go_wp2_with fail
    refine (HS2.out _).mono ?_
    rintro e w1 ⟨rfl, rfl⟩
    go_wp2_with fail
    refine (HM.out _).mono ?_
    rintro e w1 ⟨rfl, rfl⟩
    go_wp2_with fail
    refine (HD.out _).mono ?_
    rintro e w1 ⟨rfl, n, rfl⟩
    go_wp2_with fail
    refine (hu.out _).mono ?_
    rintro e w1 ⟨rfl, rfl⟩
    go_wp2_with fail
    go_ret2
    exact ⟨by rw [← hv2.out]; rfl, n, rfl⟩
  · have hv2 : Hid ((q : Int) = v) := by show _ = _; rw [hV.out, if_neg hup]
    have hu := Lib.hid (fun W => up_half q l false (by show _ = _; simp; omega) hlt W)
    have q1 : (q : Int) ≤ 1125899906842624 := by omega
    clear hm hd hs1 hs2 hN hN' hhi hlo hq hl hNN hup hlt hc hr hv hV
    go_enter Try.func58, Try.ntmps58
    go_wp2_with fail
    refine (HS1.out _).mono ?_
    rintro e w1 ⟨rfl, rfl⟩
    go_wp2_with fail
    refine (HS2.out _).mono ?_
    rintro e w1 ⟨rfl, rfl⟩
    go_wp2_with fail
    refine (HM.out _).mono ?_
    rintro e w1 ⟨rfl, rfl⟩
    go_wp2_with fail
    refine (HD.out _).mono ?_
    rintro e w1 ⟨rfl, n, rfl⟩
    go_wp2_with fail
    refine (hu.out _).mono ?_
    rintro e w1 ⟨rfl, rfl⟩
    go_wp2_with fail
    go_ret2
    exact ⟨by rw [← hv2.out]; rfl, n, rfl⟩

theorem rnd_bd (c r : Int) (c0 : 0 ≤ c) (c1 : c ≤ 1125899906842624) (r0 : 0 ≤ r) (r1 : r ≤ 1000000) : 0 ≤ rnd c r ∧ rnd c r ≤ c := by
  have h1 : c * r ≤ c * 1000000 := Int.mul_le_mul_of_nonneg_left r1 c0
  have h2 : 0 ≤ c * r := Int.mul_nonneg c0 r0
  unfold rnd; omega

theorem part_half (c r : Nat) (hc : c ≤ 1125899906842624) (hr : r ≤ 1000000) (v : Int) (hv : Hid (rnd c r = v)) (w : World) :
    Calls Try.prog 52 #[.int .i64 (c : Int), .int .i64 (r : Int), .int .i64 1000000, .int .i64 1] w (OfOut v w) := by
  have hq := Lib.hid (fun W => quot_half c r hc hr v hv W)
  have c0 : (c : Int) ≤ 1125899906842624 := by omega
  have c1 : -1125899906842624 ≤ (c : Int) := by omega
  go_enter Try.func52, Try.ntmps52
  go_wp2_with (go_at_call 50; refine (amount_yes _ _ c1 c0).mono ?_; rintro e w' ⟨rfl, rfl⟩)
  refine (hq.out _).mono ?_
  rintro e w1 ⟨rfl, n, rfl⟩
  go_wp2_with fail
  go_ret2
  exact ⟨rfl, n, rfl⟩

theorem of_nat (c r : Nat) (hc : c ≤ 1125899906842624) (hr : r ≤ 1000000) (v : Int) (hv : Hid (rnd c r = v)) (w : World) :
    Calls Try.prog 43 #[.int .i64 (c : Int), .int .i64 (r : Int), .int .i64 1] w (OfOut v w) := by
  have hp := Lib.hid (fun W => part_half c r hc hr v hv W)
  have c0 : (c : Int) ≤ 1125899906842624 := by omega
  have c1 : -1125899906842624 ≤ (c : Int) := by omega
  have r0 : (r : Int) ≤ 1000000000 := by omega
  have r1 : -1000000000 ≤ (r : Int) := by omega
  go_enter Try.func43, Try.ntmps43
  go_wp2_with (first | (go_at_call 50; refine (amount_yes _ _ c1 c0).mono ?_; rintro e w' ⟨rfl, rfl⟩) | (go_at_call 51; refine (rate_yes _ _ r1 r0).mono ?_; rintro e w' ⟨rfl, rfl⟩))
  refine (hp.out _).mono ?_
  rintro e w1 ⟨rfl, n, rfl⟩
  go_wp2_with fail
  go_ret2
  exact ⟨rfl, n, rfl⟩
theorem of_half (c r : Int) (c0 : 0 ≤ c) (c1 : c ≤ 1125899906842624) (r0 : 0 ≤ r) (r1 : r ≤ 1000000) (v : Int) (hv : Hid (rnd c r = v)) (w : World) :
    Calls Try.prog 43 #[.int .i64 c, .int .i64 r, .int .i64 1] w (OfOut v w) := by
  obtain ⟨m, rfl⟩ := Int.eq_ofNat_of_zero_le c0
  obtain ⟨n, rfl⟩ := Int.eq_ofNat_of_zero_le r0
  exact of_nat m n (by omega) (by omega) v hv w
end Go.Proofs.Ytjfcbflhnfjcfaa.B
