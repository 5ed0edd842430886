/- The walk of math/bits.Div64, by a million. -/
import Derived.Test.YtjfcbflhnfjcfaaBits
namespace Go.Proofs.Ytjfcbflhnfjcfaa.B
open Go.RowKit Go.Proofs.Ytjfcbflhnfjcfaa.M
set_option linter.unusedVariables false

theorem len_mil (w : World) : Calls Try.prog 68 #[.int .u64 1000000] w fun e w' => e = .returned (.int .i64 20) ∧ w = w' := by
  go_enter Try.func68, Try.ntmps68
  go_wp2
  go_ret
  exact ⟨ret_int (by rw [show Lib.len8 15 = 4 from by decide +kernel, IntWalk.wrap64_in 4 (by omega), IntWalk.wrap64_in _ (by omega)]; rfl), rfl⟩
theorem lead_mil (w : World) : Calls Try.prog 67 #[.int .u64 1000000] w fun e w' => e = .returned (.int .i64 44) ∧ w = w' := by
  go_enter Try.func67, Try.ntmps67
  go_wp2_with (go_at_call 68; refine (len_mil _).mono ?_; rintro e w' ⟨rfl, rfl⟩)
  go_ret
  exact ⟨rfl, rfl⟩
theorem lead_var (y : Nat) (hy : Hid (y = 1000000)) (w : World) : Calls Try.prog 67 #[.int .u64 (y : Int)] w fun e w' => e = .returned (.int .i64 44) ∧ w = w' := by
  have h := hy.out
  subst h
  exact lead_mil w

set_option maxRecDepth 100000 in
set_option maxHeartbeats 4000000 in
theorem div_var (hi lo y q r : Nat) (hy : Hid (y = 1000000)) (h0 : 0 < hi) (h1 : hi < 1000000) (h2 : lo < 18446744073709551616) (hq : Hid ((hi * 18446744073709551616 + lo) / 1000000 = q)) (hr : Hid ((hi * 18446744073709551616 + lo) % 1000000 = r)) (w : World) :
    Calls Try.prog 63 #[.int .u64 hi, .int .u64 lo, .int .u64 (y : Int)] w fun e w' => e = .returned (.tuple #[.int .u64 (q : Int), .int .u64 (r : Int)]) ∧ w = w' := by
  have HH := Lib.hid (And.intro h1 h2)
  have b1 : (y : Int) = 1000000 := by have := hy.out; omega
  have e0 : ((hi : Int) == 0) = false := beq_eq_false_iff_ne.2 (by omega)
  have e1 : ¬ (y : Int) ≤ (hi : Int) := by omega
  have e2 : ((y : Int) == 0) = false := beq_eq_false_iff_ne.2 (by omega)
  obtain ⟨Y, hY⟩ : ∃ Y : Nat, Y = 17592186044416000000 := ⟨_, rfl⟩
  obtain ⟨W, hW⟩ : ∃ W : Nat, W = 4096000000 := ⟨_, rfl⟩
  obtain ⟨U, hU⟩ : ∃ U : Nat, U = hi * 17592186044416 + lo / 1048576 := ⟨_, rfl⟩
  obtain ⟨X, hX⟩ : ∃ X : Nat, X = hi * 17592186044416 := ⟨_, rfl⟩
  obtain ⟨V, hV⟩ : ∃ V : Nat, V = lo % 1048576 * 17592186044416 := ⟨_, rfl⟩
  obtain ⟨Q, hQ⟩ : ∃ Q : Nat, Q = U / 4096000000 := ⟨_, rfl⟩
  obtain ⟨R, hR⟩ : ∃ R : Nat, R = U % 4096000000 := ⟨_, rfl⟩
  obtain ⟨T, hT⟩ : ∃ T : Nat, T = Q * 4096000000 := ⟨_, rfl⟩
  obtain ⟨Z, hZ⟩ : ∃ Z : Nat, Z = V / 4294967296 := ⟨_, rfl⟩
  obtain ⟨A, hA⟩ : ∃ A : Nat, A = U * 4294967296 % 18446744073709551616 := ⟨_, rfl⟩
  obtain ⟨B, hB⟩ : ∃ B : Nat, B = (A + Z) % 18446744073709551616 := ⟨_, rfl⟩
  obtain ⟨C, hC⟩ : ∃ C : Nat, C = Q * 17592186044416000000 % 18446744073709551616 := ⟨_, rfl⟩
  obtain ⟨S, hS⟩ : ∃ S : Nat, S = R * 4294967296 + Z := ⟨_, rfl⟩
  obtain ⟨D, hD⟩ : ∃ D : Nat, D = S / 4096000000 := ⟨_, rfl⟩
  obtain ⟨E, hE⟩ : ∃ E : Nat, E = S % 4096000000 := ⟨_, rfl⟩
  obtain ⟨F, hF⟩ : ∃ F : Nat, F = D * 4096000000 := ⟨_, rfl⟩
  obtain ⟨G, hG⟩ : ∃ G : Nat, G = S * 4294967296 % 18446744073709551616 := ⟨_, rfl⟩
  obtain ⟨J, hJ⟩ : ∃ J : Nat, J = D * 17592186044416000000 % 18446744073709551616 := ⟨_, rfl⟩
  obtain ⟨K, hK⟩ : ∃ K : Nat, K = E * 4294967296 := ⟨_, rfl⟩
  have r1 : IntKind.u64.wrap ((y : Int) * 17592186044416) = (Y : Int) := by rw [IntKind.wrap_u64]; omega
  have r2 : (Y : Int) / 4294967296 = (W : Int) := by omega
  have r3 : bits .and .u64 (Y : Int) 4294967295 = 0 := by rw [maskN Y (by omega)]; omega
  have r4 : IntKind.u64.wrap ((hi : Int) * 17592186044416) = (X : Int) := by rw [IntKind.wrap_u64]; omega
  have r5 : bits .or .u64 (X : Int) ((lo : Int) / 1048576) = (U : Int) := by
    have h := bits_or_u64_nat X (lo / 1048576) (by omega) (by omega)
    have e : X ||| lo / 1048576 = U := by
      have h3 := Nat.two_pow_add_eq_or_of_lt (i := 44) (b := lo / 1048576) (show lo / 1048576 < 2 ^ 44 by omega) hi
      rw [show 2 ^ 44 * hi = X by omega] at h3
      rw [← h3]; omega
    rw [e] at h
    rw [← h]; congr 1
  have r6 : IntKind.u64.wrap ((lo : Int) * 17592186044416) = (V : Int) := by rw [IntKind.wrap_u64]; omega
  have r7 : (V : Int) / 4294967296 = (Z : Int) := by omega
  have r8 : bits .and .u64 (V : Int) 4294967295 = 0 := by rw [maskN V (by omega)]; omega
  have r9 : (U : Int) / (W : Int) = (Q : Int) := by rw [hW, hQ]; omega
  have r10 : IntKind.u64.wrap ((Q : Int) * (W : Int)) = (T : Int) := by rw [IntKind.wrap_u64, hW]; omega
  have r11 : (U : Int) - (T : Int) = (R : Int) := by omega
  have r12 : IntKind.u64.wrap ((U : Int) * 4294967296) = (A : Int) := by rw [IntKind.wrap_u64]; omega
  have r13 : IntKind.u64.wrap ((A : Int) + (Z : Int)) = (B : Int) := by rw [IntKind.wrap_u64]; omega
  have r14 : IntKind.u64.wrap ((Q : Int) * (Y : Int)) = (C : Int) := by rw [IntKind.wrap_u64, hY]; omega
  have r15 : IntKind.u64.wrap ((B : Int) - (C : Int)) = (S : Int) := by rw [IntKind.wrap_u64]; omega
  have r16 : (S : Int) / (W : Int) = (D : Int) := by rw [hW, hD]; omega
  have r17 : IntKind.u64.wrap ((D : Int) * (W : Int)) = (F : Int) := by rw [IntKind.wrap_u64, hW]; omega
  have r18 : (S : Int) - (F : Int) = (E : Int) := by omega
  have r19 : IntKind.u64.wrap ((S : Int) * 4294967296) = (G : Int) := by rw [IntKind.wrap_u64]; omega
  have r20 : IntKind.u64.wrap ((D : Int) * (Y : Int)) = (J : Int) := by rw [IntKind.wrap_u64, hY]; omega
  have r21 : IntKind.u64.wrap ((G : Int) - (J : Int)) = (K : Int) := by rw [IntKind.wrap_u64]; omega
  have r22 : IntKind.u64.wrap (G : Int) = (G : Int) := by rw [IntKind.wrap_u64]; omega
  have q1 : Hid ((Q : Int) * 4294967296 + (D : Int) = (q : Int)) := by show _ = _; have := hq.out; omega
  have q2 : Hid ((K : Int) / 17592186044416 = (r : Int)) := by show _ = _; have := hr.out; omega
  have bQ : (Q : Int) < 4294967296 := by omega
  have bR : (R : Int) < 4096000000 := by omega
  have bZ : (Z : Int) < 4294967296 := by omega
  have bD : (D : Int) < 4294967296 := by omega
  have bE : (E : Int) < 4096000000 := by omega
  have bW : 1 ≤ (W : Int) := by omega
  have bT : (T : Int) ≤ (U : Int) := by omega
  have bF : (F : Int) ≤ (S : Int) := by omega
  have t1 : decide (4294967296 ≤ (Q : Int)) = false := by simp; omega
  have t2 : decide (4294967296 * (R : Int) + (Z : Int) < 0) = false := by simp; omega
  have t3 : decide (4294967296 ≤ (D : Int)) = false := by simp; omega
  have t4 : decide (4294967296 * (E : Int) < 0) = false := by simp; omega
  clear hY hW hU hX hV hQ hR hT hZ hA hB hC hS hD hE hF hG hJ hK b1 h0 h1 h2 HH
  go_enter Try.func63, Try.ntmps63
  go_wp2_with fail
  refine (lead_var y hy _).mono ?_
  rintro e w' ⟨rfl, rfl⟩
  go_wp2_with fail
  go_loop [15, 16] (fun s15 s16 => s15 = .int .u64 (Q : Int) ∧ s16 = .int .u64 (R : Int)) (fun _ _ => 0)
  case atStart => exact ⟨rfl, rfl⟩
  case round =>
    obtain ⟨rfl, rfl⟩ := hrel
    go_wp2_with fail
    go_loop [18, 16] (fun s18 s16 => s18 = .int .u64 (D : Int) ∧ s16 = .int .u64 (E : Int)) (fun _ _ => 0)
    case atStart => exact ⟨rfl, rfl⟩
    case round =>
      obtain ⟨rfl, rfl⟩ := hrel
      go_wp2_with fail
      go_ret2
      exact ⟨by rw [← q1.out, ← q2.out]; rfl, rfl⟩

theorem ret2_u64 {a a' b b' : Int} (h : a = a') (h2 : b = b') : Ending.returned (.tuple #[.int .u64 a, .int .u64 b]) = .returned (.tuple #[.int .u64 a', .int .u64 b']) := by rw [h, h2]
def LowOut (q r : Nat) (w : World) (e : Ending) (w' : World) : Prop := e = .returned (.tuple #[.int .u64 (q : Int), .int .u64 (r : Int)]) ∧ ∃ n, w' = w.drewN n
set_option maxRecDepth 100000 in
theorem div_low (lo y q r : Nat) (hy : Hid (y = 1000000)) (h2 : lo < 18446744073709551616) (hq : Hid (lo / 1000000 = q)) (hr : Hid (lo % 1000000 = r)) (w : World) :
    Calls Try.prog 63 #[.int .u64 0, .int .u64 lo, .int .u64 (y : Int)] w (LowOut q r w) := by
  have b1 : (y : Int) = 1000000 := by have := hy.out; omega
  have e1 : ¬ (y : Int) ≤ 0 := by omega
  have e2 : ((y : Int) == 0) = false := beq_eq_false_iff_ne.2 (by omega)
  have y0 : 1 ≤ (y : Int) := by omega
  have r1 : (lo : Int) / (y : Int) = (q : Int) := by rw [b1]; have := hq.out; omega
  have r2 : (lo : Int) % (y : Int) = (r : Int) := by rw [b1]; have := hr.out; omega
  have r3 : Hid (IntKind.u64.wrap (q : Int) = (q : Int)) := by show _ = _; rw [IntKind.wrap_u64]; have := hq.out; omega
  clear b1 h2
  go_enter Try.func63, Try.ntmps63
  go_wp2_with fail
  go_quiet (fail)
  go_wp2_with fail
  go_ret2
  exact ⟨ret2_u64 r3.out r2, _, rfl⟩

theorem div_mil (hi lo q r : Nat) (h1 : hi < 1000000) (h2 : lo < 18446744073709551616) (hq : Hid ((hi * 18446744073709551616 + lo) / 1000000 = q)) (hr : Hid ((hi * 18446744073709551616 + lo) % 1000000 = r)) (w : World) :
    Calls Try.prog 63 #[.int .u64 (hi : Int), .int .u64 (lo : Int), .int .u64 1000000] w (LowOut q r w) := by
  by_cases h0 : 0 < hi
  · exact (div_var hi lo 1000000 q r rfl h0 h1 h2 hq hr w).mono fun e w' ⟨h, hw⟩ => ⟨h, 0, hw.symm⟩
  · obtain rfl : hi = 0 := by omega
    exact div_low lo 1000000 q r rfl h2 (by show _ = _; rw [← hq.out]; omega) (by show _ = _; rw [← hr.out]; omega) w
end Go.Proofs.Ytjfcbflhnfjcfaa.B
