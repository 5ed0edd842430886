/- The document's answer for a rate of an amount below 0. -/
import Derived.Test.YtjfcbflhnfjcfaaRef02
namespace Go.Proofs.Ytjfcbflhnfjcfaa.W
open Go.RowKit Go.Proofs.Ytjfcbflhnfjcfaa.M Go.Proofs.Ytjfcbflhnfjcfaa.B
set_option linter.unusedVariables false

set_option maxRecDepth 100000 in
theorem rounded_neg (q l d : Nat) (hl : l < d) (hd : d < 9223372036854775808) (hq : q < 1152921504606846976) (v : Nat) (hv : Hid ((if d - l ≤ l then q + 1 else q) = v)) (W : World) :
    Calls Try.prog 55 #[.int .u64 (q : Int), .int .u64 (l : Int), .int .u64 (d : Int), .bool true, .int .i64 1] W fun e w' => e = .returned (.int .u64 (v : Int)) ∧ W = w' := by
  have h := hv.out
  clear hv
  by_cases c : d - l ≤ l
  · rw [if_pos c] at h
    have c' : (d : Int) - (l : Int) ≤ (l : Int) := by omega
    have HV := Lib.hid h
    clear h c
    go_enter Try.func55, Try.ntmps55
    go_wp2_with fail
    go_ret
    exact ⟨ret_u (by rw [← HV.out]; omega), rfl⟩
  · rw [if_neg c] at h
    have c' : ¬ (d : Int) - (l : Int) ≤ (l : Int) := by omega
    have HV := Lib.hid h
    clear h c
    go_enter Try.func55, Try.ntmps55
    go_wp2_with fail
    go_ret
    exact ⟨ret_u (by rw [← HV.out]), rfl⟩
set_option maxRecDepth 100000 in
theorem abs_neg (n : Nat) (h0 : 0 < n) (hn : n < 9223372036854775808) (W : World) : Calls Try.prog 54 #[.int .i64 (-(n : Int))] W fun e w' => e = .returned (.int .u64 (n : Int)) ∧ W = w' := by
  have d0 : -(n : Int) < 0 := by omega
  have w1 : IntKind.u64.wrap (-(n : Int)) = 18446744073709551616 - n := by rw [IntKind.wrap_u64]; omega
  have w2 : IntKind.u64.wrap (-(18446744073709551616 - (n : Int))) = n := by rw [IntKind.wrap_u64]; omega
  go_enter Try.func54, Try.ntmps54
  go_wp2_with fail
  go_ret
  exact ⟨ret_u (by omega), rfl⟩
set_option maxRecDepth 100000 in
set_option maxHeartbeats 2000000 in
theorem part_neg (c r v : Nat) (h0 : 0 < c) (hc : c ≤ 1125899906842624) (hr : r ≤ 1000000) (hv : Hid (rnd c r = v)) (W : World) :
    Calls Try.prog 45 #[.int .i64 (-(c : Int)), .int .i64 (r : Int), .int .i64 1000000, .int .i64 1] W (IntOut (-(v : Int)) 0 W) := by
  obtain ⟨N, hN⟩ : ∃ N, c * r = N := ⟨_, rfl⟩
  obtain ⟨q, hq⟩ : ∃ q, N / 1000000 = q := ⟨_, rfl⟩
  obtain ⟨l, hl⟩ : ∃ l, N % 1000000 = l := ⟨_, rfl⟩
  have hle : N ≤ c * 1000000 := by rw [← hN]; exact Nat.mul_le_mul_left _ hr
  obtain ⟨z, hz⟩ : ∃ z : Int, -(c : Int) = z := ⟨_, rfl⟩
  have hfit := Lib.hid fun W => ref_fits (-(c : Int)) true (by show _ = _; exact decide_eq_true (by omega)) W
  have hdiv : Hid (∀ W : World, Calls Try.prog 53 #[.int .u64 (c : Int), .int .u64 (r : Int), .int .u64 1000000] W fun e w' => e = .returned (.tuple #[.int .u64 (q : Int), .int .u64 (l : Int), .bool true]) ∧ Below W.heap.size W w') := fun W => divided_is c r 1000000 q l (by omega) (by omega) (by omega) (by omega) (by rw [hN]; omega) (by show _ = _; rw [hN]; exact hq) (by show _ = _; rw [hN]; exact hl) W
  have hV : (if 1000000 - l ≤ l then q + 1 else q) = v := by
    have h1 := rnd_nat N q l hq hl
    have h2 := hv.out
    unfold rnd at h2
    rw [show (c : Int) * (r : Int) = (N : Int) by rw [← hN]; norm_cast] at h2
    rw [h1] at h2
    split at h2 <;> rename_i h
    · rw [if_pos h]; omega
    · rw [if_neg h]; omega
  have hvc : v ≤ 1125899906842624 := by rw [← hV]; split <;> omega
  have hrd : Hid (∀ W : World, Calls Try.prog 55 #[.int .u64 (q : Int), .int .u64 (l : Int), .int .u64 1000000, .bool true, .int .i64 1] W fun e w' => e = .returned (.int .u64 (v : Int)) ∧ W = w') := fun W => rounded_neg q l 1000000 (by omega) (by omega) (by omega) v hV W
  have ha1 := Lib.hid fun W => abs_neg c h0 (by omega) W
  have ha2 := Lib.hid fun W => abs_nat r (by omega) W
  rw [hz] at hfit ha1 ⊢
  have d1 : decide (z < 0) = true := decide_eq_true (by omega)
  have d2 : decide ((r : Int) < 0) = false := decide_eq_false (by omega)
  have d3 : decide (1125899906842624 < (v : Int)) = false := decide_eq_false (by omega)
  have d4 : (v : Int) ≤ 1125899906842624 := by omega
  have wv : IntKind.i64.wrap (-(v : Int)) = -(v : Int) := IntWalk.i64_in _ (by omega)
  clear hV hN hq hl hle hv hz
  go_enter Try.func45, Try.ntmps45
  go_wp2_with (first | (go_at_call 28; refine (hfit.out _).mono ?_; rintro e w1 ⟨rfl, rfl⟩) | (go_at_call_of 54 (Value.int IntKind.i64 z); refine (ha1.out _).mono ?_; rintro e w1 ⟨rfl, rfl⟩) | (go_at_call_of 54 (Value.int IntKind.i64 (r : Int)); refine (ha2.out _).mono ?_; rintro e w1 ⟨rfl, rfl⟩))
  refine (hdiv.out _).mono ?_
  rintro e w1 ⟨rfl, hb1⟩
  go_wp2_with (go_at_call 55; refine (hrd.out _).mono ?_; rintro e w1 ⟨rfl, rfl⟩)
  go_ret2
  exact ⟨rfl, hb1⟩
theorem of_neg (c r v : Nat) (h0 : 0 < c) (hc : c ≤ 1125899906842624) (hr : r ≤ 1000000) (hv : Hid (rnd c r = v)) (W : World) :
    Calls Try.prog 30 #[.int .i64 (-(c : Int)), .int .i64 (r : Int), .int .i64 1] W (IntOut (-(v : Int)) 0 W) := by
  have hfit := Lib.hid fun W => ref_fits (-(c : Int)) true (by show _ = _; exact decide_eq_true (by omega)) W
  have hpt := Lib.hid fun W => part_neg c r v h0 hc hr hv W
  unfold IntOut at hpt
  clear hv
  have hrt : Hid (∀ W : World, Calls Try.prog 44 #[.int .i64 (r : Int)] W fun e w' => e = .returned (.bool true) ∧ W = w') := fun W => by
    clear hfit hpt
    have h : decide ((r : Int) ≤ 1000000000) = true := decide_eq_true (by omega)
    go_enter Try.func44, Try.ntmps44
    go_wp2
    go_ret
    exact ⟨rfl, rfl⟩
  generalize -(c : Int) = z at *
  go_enter Try.func30, Try.ntmps30
  go_wp2_with (first | (go_at_call 28; refine (hfit.out _).mono ?_; rintro e w1 ⟨rfl, rfl⟩) | (go_at_call 44; refine (hrt.out _).mono ?_; rintro e w1 ⟨rfl, rfl⟩))
  refine (hpt.out _).mono ?_
  rintro e w1 ⟨rfl, hb1⟩
  go_wp2_with fail
  go_ret2
  exact ⟨rfl, hb1⟩
end Go.Proofs.Ytjfcbflhnfjcfaa.W
