/- The walk of math/bits.Div64, by any divisor from 1 to 2^63 - 1. -/
import Derived.Test.YtbmlingbohdpkaaDivG
namespace Go.Proofs.Ytbmlingbohdpkaa.B
open Go.RowKit Go.Proofs.Ytbmlingbohdpkaa.M Go.Proofs.Ytbmlingbohdpkaa.DM
set_option linter.unusedVariables false

theorem ret2u {a a' b b' : Int} (h : a = a') (h2 : b = b') : Ending.returned (.tuple #[.int .u64 a, .int .u64 b]) = .returned (.tuple #[.int .u64 a', .int .u64 b']) := by rw [h, h2]
/-- What Div64 hands over. -/
def DivOut (q r : Nat) (w : World) (e : Ending) (w' : World) : Prop := e = .returned (.tuple #[.int .u64 (q : Int), .int .u64 (r : Int)]) ∧ ∃ n, w' = w.drewN n

/-- The numbers of the long way, told once. -/
structure Long (hi lo y s p m Y W Z U u1 u0 X L V Q D q r : Nat) : Prop where
  s0 : 1 ≤ s
  s1 : s ≤ 63
  y0 : 0 < y
  hi0 : 0 < hi
  hiy : hi < y
  Ylt : Y < 18446744073709551616
  W0 : 2147483648 ≤ W
  W1 : W < 4294967296
  Z1 : Z < 4294967296
  YW : Y = W * 4294967296 + Z
  UY : U < Y
  v1 : u1 < 4294967296
  v0 : u0 < 4294967296
  p1 : (2 : Int) ^ s = (p : Int)
  p2 : (2 : Int) ^ (64 - s) = (m : Int)
  r1 : IntKind.u64.wrap ((y : Int) * (p : Int)) = (Y : Int)
  r2 : (Y : Int) / 4294967296 = (W : Int)
  r3 : bits .and .u64 (Y : Int) 4294967295 = (Z : Int)
  r4 : IntKind.u64.wrap ((hi : Int) * (p : Int)) = (X : Int)
  r5 : (lo : Int) / (m : Int) = (L : Int)
  r5' : bits .or .u64 (X : Int) (L : Int) = (U : Int)
  r6 : IntKind.u64.wrap ((lo : Int) * (p : Int)) = (V : Int)
  r7 : (V : Int) / 4294967296 = (u1 : Int)
  r8 : bits .and .u64 (V : Int) 4294967295 = (u0 : Int)
  q0 : (U * 4294967296 + u1) / Y = Q
  d0 : (U * 4294967296 + u1) % Y = D
  eq : Q * 4294967296 + (D * 4294967296 + u0) / Y = q
  er : (D * 4294967296 + u0) % Y = r * p
  p0 : 0 < p

theorem long {hi lo y s p m : Nat} (h : Lz y s p m) (h0 : 0 < hi) (h1 : hi < y) (h2 : lo < 18446744073709551616) :
    ∃ Y W Z U u1 u0 X L V Q D, Long hi lo y s p m Y W Z U u1 u0 X L V Q D ((hi * 18446744073709551616 + lo) / y) ((hi * 18446744073709551616 + lo) % y) := by
  obtain ⟨s0, s1, ps, ms, pm, p0, m0, l0, l1⟩ := h
  have hL : lo / m < p := (Nat.div_lt_iff_lt_mul (by omega)).2 (by rw [pm]; exact h2)
  have hm := Nat.div_add_mod lo m
  have hr : lo % m < m := Nat.mod_lt _ (by omega)
  have hhp : (hi + 1) * p ≤ y * p := Nat.mul_le_mul_right p h1
  rw [Nat.add_mul] at hhp
  have hlp : lo * p = (lo / m) * 18446744073709551616 + lo % m * p := by
    conv => lhs; rw [← hm]
    rw [Nat.add_mul, Nat.mul_comm m, Nat.mul_assoc, Nat.mul_comm m p, pm]
  have hV : lo % m * p < 18446744073709551616 := by
    have := Nat.mul_lt_mul_of_pos_right hr (show 0 < p by omega)
    rw [Nat.mul_comm m p, pm] at this
    exact this
  have hX : hi * p ||| lo / m = hi * p + lo / m := by
    have h3 := Nat.two_pow_add_eq_or_of_lt (i := s) (b := lo / m) (by rw [ps]; exact hL) hi
    rw [ps, Nat.mul_comm p hi] at h3
    exact h3.symm
  have hN : (hi * 18446744073709551616 + lo) * p = (hi * p + lo / m) * 4294967296 * 4294967296 + lo % m * p / 4294967296 * 4294967296 + lo % m * p % 4294967296 := by
    rw [Nat.add_mul, hlp, Nat.mul_right_comm]
    generalize hi * p = a
    generalize lo % m * p = b
    omega
  have hy : 0 < y * p := by omega
  obtain ⟨t1, t2⟩ := two_digits 4294967296 (hi * p + lo / m) (lo % m * p / 4294967296) (lo % m * p % 4294967296) (y * p) hy
  rw [← hN] at t1 t2
  obtain ⟨f1, f2⟩ := shifted (hi * 18446744073709551616 + lo) y p (by omega)
  rw [f1] at t1
  rw [f2] at t2
  refine ⟨y * p, y * p / 4294967296, y * p % 4294967296, hi * p + lo / m, lo % m * p / 4294967296, lo % m * p % 4294967296, hi * p, lo / m, lo % m * p,
    ((hi * p + lo / m) * 4294967296 + lo % m * p / 4294967296) / (y * p), ((hi * p + lo / m) * 4294967296 + lo % m * p / 4294967296) % (y * p), ?_⟩
  have hX1 : hi * p < 18446744073709551616 := by omega
  refine ⟨s0, s1, by omega, h0, h1, l1, by omega, by omega, by omega, by omega, by omega, by omega, by omega, ?_, ?_, ?_, ?_, ?_, ?_, ?_, ?_, ?_, ?_, ?_, rfl, rfl, t1.symm, t2.symm, by omega⟩
  · rw [← ps]; exact (Int.natCast_pow 2 s).symm
  · rw [← ms]; exact (Int.natCast_pow 2 (64 - s)).symm
  · rw [mulN, wrapN _ l1]
  · omega
  · exact maskN _ l1
  · rw [mulN, wrapN _ hX1]
  · exact (Int.natCast_ediv lo m).symm
  · have h := bits_or_u64_nat (hi * p) (lo / m) hX1 (by omega)
    rw [hX] at h
    exact h
  · rw [mulN, hlp, IntKind.wrap_u64]; omega
  · omega
  · exact maskN _ hV

/-- A digit's rest, as the machine finds it. -/
theorem rest_of {U Y u1 Q D : Nat} (hq : (U * 4294967296 + u1) / Y = Q) (hd : (U * 4294967296 + u1) % Y = D) (hY : 0 < Y) (hY1 : Y < 18446744073709551616) :
    ∃ A B C : Nat, IntKind.u64.wrap ((U : Int) * 4294967296) = (A : Int) ∧ IntKind.u64.wrap ((A : Int) + (u1 : Int)) = (B : Int) ∧ IntKind.u64.wrap ((Q : Int) * (Y : Int)) = (C : Int) ∧ IntKind.u64.wrap ((B : Int) - (C : Int)) = (D : Int) ∧ D < Y := by
  have h1 := Nat.div_add_mod (U * 4294967296 + u1) Y
  have h2 : (U * 4294967296 + u1) % Y < Y := Nat.mod_lt _ hY
  rw [hq, hd, Nat.mul_comm] at h1
  rw [hd] at h2
  refine ⟨U * 4294967296 % 18446744073709551616, (U * 4294967296 + u1) % 18446744073709551616, Q * Y % 18446744073709551616, ?_, ?_, ?_, ?_, h2⟩
  · rw [IntKind.wrap_u64]; omega
  · rw [IntKind.wrap_u64]; omega
  · rw [mulN, wrapM]
  · generalize Q * Y = c at *
    rw [IntKind.wrap_u64]; omega

set_option maxRecDepth 100000 in
set_option maxHeartbeats 8000000 in
theorem div_long {hi lo y s p m Y W Z U u1 u0 X L V Q D q r : Nat} (h : Long hi lo y s p m Y W Z U u1 u0 X L V Q D q r) (h2 : lo < 18446744073709551616) (hy : y < 9223372036854775808) (hp : 0 < p) (hL : ∀ w, Calls Try.prog 32 #[.int .u64 (y : Int)] w fun e w' => e = .returned (.int .i64 (s : Int)) ∧ w' = w) (w : World) :
    Calls Try.prog 31 #[.int .u64 (hi : Int), .int .u64 (lo : Int), .int .u64 (y : Int)] w (DivOut q r w) := by
  obtain ⟨A1, B1, C1, i1, i2, i3, i4, e2⟩ := rest_of h.q0 h.d0 (by have := h.YW; have := h.W0; omega) h.Ylt
  obtain ⟨E, hE0⟩ : ∃ E, (D * 4294967296 + u0) / Y = E := ⟨_, rfl⟩
  obtain ⟨A3, B3, C3, i5, i6, i7, i8, e4⟩ := rest_of hE0 h.er (by have := h.YW; have := h.W0; omega) h.Ylt
  have hqe := h.eq
  rw [hE0] at hqe
  have HL := Lib.hid h
  have HE := Lib.hid hE0
  have HQ := Lib.hid h.q0
  obtain ⟨s0, s1, y0, hi0, hiy, Ylt, W0, W1, Z1, YW, UY, v1, v0, p1, p2, r1, r2, r3, r4, r5, r5', r6, r7, r8, _, _, _, _, _⟩ := h
  have UW : U / W < 8589934592 := (Nat.div_lt_iff_lt_mul (by omega)).2 (by omega)
  have DW : D / W < 8589934592 := (Nat.div_lt_iff_lt_mul (by omega)).2 (by omega)
  have g1 := guess_first 4294967296 U u1 W Z (by omega) v1
  have g2 := guess_first 4294967296 D u0 W Z (by omega) v0
  have m1 := Nat.div_mul_le_self U W
  have m2 := Nat.div_mul_le_self D W
  have l1 : U - U / W * W < 4294967296 := by
    have h5 := Nat.div_add_mod U W; have h6 := Nat.mod_lt U (show 0 < W by omega); rw [Nat.mul_comm] at h5; omega
  have l2 : D - D / W * W < 4294967296 := by
    have h5 := Nat.div_add_mod D W; have h6 := Nat.mod_lt D (show 0 < W by omega); rw [Nat.mul_comm] at h5; omega
  have d1 : (U : Int) / (W : Int) = ((U / W : Nat) : Int) := (Int.natCast_ediv U W).symm
  have d2 : (D : Int) / (W : Int) = ((D / W : Nat) : Int) := (Int.natCast_ediv D W).symm
  have c1 : IntKind.u64.wrap (((U / W : Nat) : Int) * (W : Int)) = ((U / W * W : Nat) : Int) := by rw [mulN, wrapN]; omega
  have c2 : IntKind.u64.wrap (((D / W : Nat) : Int) * (W : Int)) = ((D / W * W : Nat) : Int) := by rw [mulN, wrapN]; omega
  have b1 : (U : Int) - ((U / W * W : Nat) : Int) = ((U - U / W * W : Nat) : Int) := by omega
  have b2 : (D : Int) - ((D / W * W : Nat) : Int) = ((D - D / W * W : Nat) : Int) := by omega
  have a1 := Lib.hid g1
  have a2 := Lib.hid g2
  clear g1 g2
  generalize U / W = A at *
  generalize D / W = B at *
  generalize U - A * W = A' at *
  generalize D - B * W = B' at *
  have m1' : ((A * W : Nat) : Int) ≤ (U : Int) := by omega
  have m2' : ((B * W : Nat) : Int) ≤ (D : Int) := by omega
  generalize A * W = A2 at *
  generalize B * W = B2 at *
  have f1 : ((hi : Int) == 0) = false := beq_eq_false_iff_ne.2 (by omega)
  have f2 : ¬ (y : Int) ≤ (hi : Int) := by omega
  have f3 : ((y : Int) == 0) = false := beq_eq_false_iff_ne.2 (by omega)
  have f4 : ((W : Int) == 0) = false := beq_eq_false_iff_ne.2 (by omega)
  have f5 : (s : Int) ≤ 64 := by omega
  have f6 : 1 ≤ (W : Int) := by omega
  have f7 : (64 - (s : Int)).toNat = 64 - s := by omega
  have hB : 0 < 4294967296 := by omega
  have hW : 0 < W := by omega
  have hU : U < W * 4294967296 + Z := by omega
  have hD : D < W * 4294967296 + Z := by omega
  have n1 : (U * 4294967296 + u1) / (W * 4294967296 + Z) = Q := by rw [← YW]; exact HQ.out
  have n2 : (D * 4294967296 + u0) / (W * 4294967296 + Z) = E := by rw [← YW]; exact HE.out
  have Q1 : Q < 4294967296 := by rw [← n1]; exact digit_lt _ U u1 _ hB hU v1
  have E1 : E < 4294967296 := by rw [← n2]; exact digit_lt _ D u0 _ hB hD v0
  have x1 : (Q : Int) * 4294967296 + (E : Int) = (q : Int) := by omega
  have x2 : (q : Int) < 18446744073709551616 := by omega
  have x3 : ((r * p : Nat) : Int) / (p : Int) = (r : Int) := by rw [← Int.natCast_ediv, Nat.mul_div_cancel _ hp]
  have x4 : r * p < 18446744073709551616 := by omega
  have N1 := Lib.hid n1
  have N2 := Lib.hid n2
  have HU := Lib.hid hU
  have HD := Lib.hid hD
  have y5 : (Y : Int) < 18446744073709551616 := by omega
  generalize r * p = RP at *
  clear n1 n2 YW UY hU hD hqe e2 e4 HL HE HQ
  go_enter Try.func31, Try.ntmps31
  go_wp2_with fail
  refine (hL _).mono ?_
  rintro e w' ⟨rfl, rfl⟩
  go_wp2_with fail
  go_loop [15, 16] (fun sq sr => ∃ q r : Nat, sq = .int .u64 (q : Int) ∧ sr = .int .u64 (r : Int) ∧ Hid (Guess 4294967296 U u1 W Z q r) ∧ q < 8589934592 ∧ r < 4294967296) (fun sq _ => (intOf sq).toNat)
  case atStart => exact ⟨_, _, rfl, rfl, a1, UW, l1⟩
  case round =>
    obtain ⟨q1, t1, rfl, rfl, hG1, k1, j1⟩ := hrel
    obtain ⟨b1, hb1⟩ : ∃ z, z = t1 + W := ⟨_, rfl⟩
    have bb1 : (t1 : Int) + (W : Int) = (b1 : Int) := by omega
    have bc1 : (b1 : Int) < 8589934592 := by omega
    by_cases z1 : 4294967296 ≤ q1
    · have zz1 : (4294967296 : Int) ≤ (q1 : Int) := by omega
      obtain ⟨G1, P1⟩ := guess_step 4294967296 U u1 W Z q1 t1 hB hW HU.out v1 hG1.out (.inl z1)
      obtain ⟨a1, ha1⟩ : ∃ z, q1 = z + 1 := ⟨q1 - 1, by omega⟩
      have aa1 : (q1 : Int) - 1 = (a1 : Int) := by omega
      have ab1 : 1 ≤ (q1 : Int) := by omega
      have ac1 : (a1 : Int) < 8589934592 := by omega
      rw [show q1 - 1 = a1 by omega] at G1
      rw [← hb1] at G1
      have HG1 := Lib.hid G1
      clear G1 ha1 hb1
      by_cases c1 : 4294967296 ≤ b1
      · have cc1 : (4294967296 : Int) ≤ (b1 : Int) := by omega
        have cd1 : decide ((4294967296 : Int) ≤ (b1 : Int)) = true := decide_eq_true cc1
        have ce1 : ((b1 : Int) < 4294967296) = False := eq_false (by omega)
        obtain rfl : Q = a1 := N1.out.symm.trans (guess_break 4294967296 U u1 W Z a1 b1 hB hW Z1 HU.out HG1.out c1)
        go_wp2_with fail
        go_loop [18, 16] (fun sq sr => ∃ q r : Nat, sq = .int .u64 (q : Int) ∧ sr = .int .u64 (r : Int) ∧ Hid (Guess 4294967296 D u0 W Z q r) ∧ q < 8589934592 ∧ r < 4294967296) (fun sq _ => (intOf sq).toNat)
        case atStart => exact ⟨_, _, rfl, rfl, a2, DW, l2⟩
        case round =>
          obtain ⟨q2, t2, rfl, rfl, hG2, k2, j2⟩ := hrel
          obtain ⟨b2, hb2⟩ : ∃ z, z = t2 + W := ⟨_, rfl⟩
          have bb2 : (t2 : Int) + (W : Int) = (b2 : Int) := by omega
          have bc2 : (b2 : Int) < 8589934592 := by omega
          by_cases z2 : 4294967296 ≤ q2
          · have zz2 : (4294967296 : Int) ≤ (q2 : Int) := by omega
            obtain ⟨G2, P2⟩ := guess_step 4294967296 D u0 W Z q2 t2 hB hW HD.out v0 hG2.out (.inl z2)
            obtain ⟨a2, ha2⟩ : ∃ z, q2 = z + 1 := ⟨q2 - 1, by omega⟩
            have aa2 : (q2 : Int) - 1 = (a2 : Int) := by omega
            have ab2 : 1 ≤ (q2 : Int) := by omega
            have ac2 : (a2 : Int) < 8589934592 := by omega
            rw [show q2 - 1 = a2 by omega] at G2
            rw [← hb2] at G2
            have HG2 := Lib.hid G2
            clear G2 ha2 hb2
            by_cases c2 : 4294967296 ≤ b2
            · have cc2 : (4294967296 : Int) ≤ (b2 : Int) := by omega
              have cd2 : decide ((4294967296 : Int) ≤ (b2 : Int)) = true := decide_eq_true cc2
              have ce2 : ((b2 : Int) < 4294967296) = False := eq_false (by omega)
              obtain rfl : E = a2 := N2.out.symm.trans (guess_break 4294967296 D u0 W Z a2 b2 hB hW Z1 HD.out HG2.out c2)
              go_wp2_with fail
              go_ret2
              exact ⟨ret2u rfl rfl, 0, rfl⟩
            · have cc2 : ¬ (4294967296 : Int) ≤ (b2 : Int) := by omega
              have cd2 : decide ((4294967296 : Int) ≤ (b2 : Int)) = false := decide_eq_false cc2
              have ce2 : (b2 : Int) < 4294967296 := by omega
              go_wp2_with fail
              go_round
              case rel => exact ⟨a2, b2, rfl, rfl, HG2, by omega, by omega⟩
              case measure => simp [intOf]; omega
          · have zz2 : ¬ (4294967296 : Int) ≤ (q2 : Int) := by omega
            obtain ⟨p2, hp2⟩ : ∃ z, q2 * Z = z := ⟨_, rfl⟩
            have pl2 : p2 < 18446744073709551616 := by rw [← hp2]; exact Nat.mul_lt_mul'' (show q2 < 4294967296 by omega) Z1
            have pm2 : IntKind.u64.wrap ((q2 : Int) * (Z : Int)) = (p2 : Int) := by rw [mulN, hp2, wrapN _ pl2]
            have HP2 := Lib.hid hp2
            clear hp2
            by_cases y2 : 4294967296 * t2 + u0 < p2
            · have yy2 : 4294967296 * (t2 : Int) + (u0 : Int) < (p2 : Int) := by omega
              obtain ⟨G2, P2⟩ := guess_step 4294967296 D u0 W Z q2 t2 hB hW HD.out v0 hG2.out (.inr (by rw [HP2.out]; exact y2))
              obtain ⟨a2, ha2⟩ : ∃ z, q2 = z + 1 := ⟨q2 - 1, by omega⟩
              have aa2 : (q2 : Int) - 1 = (a2 : Int) := by omega
              have ab2 : 1 ≤ (q2 : Int) := by omega
              have ac2 : (a2 : Int) < 8589934592 := by omega
              rw [show q2 - 1 = a2 by omega] at G2
              rw [← hb2] at G2
              have HG2 := Lib.hid G2
              clear G2 ha2 hb2
              by_cases c2 : 4294967296 ≤ b2
              · have cc2 : (4294967296 : Int) ≤ (b2 : Int) := by omega
                have cd2 : decide ((4294967296 : Int) ≤ (b2 : Int)) = true := decide_eq_true cc2
                have ce2 : ((b2 : Int) < 4294967296) = False := eq_false (by omega)
                obtain rfl : E = a2 := N2.out.symm.trans (guess_break 4294967296 D u0 W Z a2 b2 hB hW Z1 HD.out HG2.out c2)
                go_wp2_with fail
                go_ret2
                exact ⟨ret2u rfl rfl, 0, rfl⟩
              · have cc2 : ¬ (4294967296 : Int) ≤ (b2 : Int) := by omega
                have cd2 : decide ((4294967296 : Int) ≤ (b2 : Int)) = false := decide_eq_false cc2
                have ce2 : (b2 : Int) < 4294967296 := by omega
                go_wp2_with fail
                go_round
                case rel => exact ⟨a2, b2, rfl, rfl, HG2, by omega, by omega⟩
                case measure => simp [intOf]; omega
            · have yy2 : ¬ 4294967296 * (t2 : Int) + (u0 : Int) < (p2 : Int) := by omega
              obtain rfl : E = q2 := N2.out.symm.trans (guess_done 4294967296 D u0 W Z q2 t2 hB hW hG2.out (by rw [HP2.out]; omega))
              go_wp2_with fail
              go_ret2
              exact ⟨ret2u rfl rfl, 0, rfl⟩
      · have cc1 : ¬ (4294967296 : Int) ≤ (b1 : Int) := by omega
        have cd1 : decide ((4294967296 : Int) ≤ (b1 : Int)) = false := decide_eq_false cc1
        have ce1 : (b1 : Int) < 4294967296 := by omega
        go_wp2_with fail
        go_round
        case rel => exact ⟨a1, b1, rfl, rfl, HG1, by omega, by omega⟩
        case measure => simp [intOf]; omega
    · have zz1 : ¬ (4294967296 : Int) ≤ (q1 : Int) := by omega
      obtain ⟨p1, hp1⟩ : ∃ z, q1 * Z = z := ⟨_, rfl⟩
      have pl1 : p1 < 18446744073709551616 := by rw [← hp1]; exact Nat.mul_lt_mul'' (show q1 < 4294967296 by omega) Z1
      have pm1 : IntKind.u64.wrap ((q1 : Int) * (Z : Int)) = (p1 : Int) := by rw [mulN, hp1, wrapN _ pl1]
      have HP1 := Lib.hid hp1
      clear hp1
      by_cases y1 : 4294967296 * t1 + u1 < p1
      · have yy1 : 4294967296 * (t1 : Int) + (u1 : Int) < (p1 : Int) := by omega
        obtain ⟨G1, P1⟩ := guess_step 4294967296 U u1 W Z q1 t1 hB hW HU.out v1 hG1.out (.inr (by rw [HP1.out]; exact y1))
        obtain ⟨a1, ha1⟩ : ∃ z, q1 = z + 1 := ⟨q1 - 1, by omega⟩
        have aa1 : (q1 : Int) - 1 = (a1 : Int) := by omega
        have ab1 : 1 ≤ (q1 : Int) := by omega
        have ac1 : (a1 : Int) < 8589934592 := by omega
        rw [show q1 - 1 = a1 by omega] at G1
        rw [← hb1] at G1
        have HG1 := Lib.hid G1
        clear G1 ha1 hb1
        by_cases c1 : 4294967296 ≤ b1
        · have cc1 : (4294967296 : Int) ≤ (b1 : Int) := by omega
          have cd1 : decide ((4294967296 : Int) ≤ (b1 : Int)) = true := decide_eq_true cc1
          have ce1 : ((b1 : Int) < 4294967296) = False := eq_false (by omega)
          obtain rfl : Q = a1 := N1.out.symm.trans (guess_break 4294967296 U u1 W Z a1 b1 hB hW Z1 HU.out HG1.out c1)
          go_wp2_with fail
          go_loop [18, 16] (fun sq sr => ∃ q r : Nat, sq = .int .u64 (q : Int) ∧ sr = .int .u64 (r : Int) ∧ Hid (Guess 4294967296 D u0 W Z q r) ∧ q < 8589934592 ∧ r < 4294967296) (fun sq _ => (intOf sq).toNat)
          case atStart => exact ⟨_, _, rfl, rfl, a2, DW, l2⟩
          case round =>
            obtain ⟨q2, t2, rfl, rfl, hG2, k2, j2⟩ := hrel
            obtain ⟨b2, hb2⟩ : ∃ z, z = t2 + W := ⟨_, rfl⟩
            have bb2 : (t2 : Int) + (W : Int) = (b2 : Int) := by omega
            have bc2 : (b2 : Int) < 8589934592 := by omega
            by_cases z2 : 4294967296 ≤ q2
            · have zz2 : (4294967296 : Int) ≤ (q2 : Int) := by omega
              obtain ⟨G2, P2⟩ := guess_step 4294967296 D u0 W Z q2 t2 hB hW HD.out v0 hG2.out (.inl z2)
              obtain ⟨a2, ha2⟩ : ∃ z, q2 = z + 1 := ⟨q2 - 1, by omega⟩
              have aa2 : (q2 : Int) - 1 = (a2 : Int) := by omega
              have ab2 : 1 ≤ (q2 : Int) := by omega
              have ac2 : (a2 : Int) < 8589934592 := by omega
              rw [show q2 - 1 = a2 by omega] at G2
              rw [← hb2] at G2
              have HG2 := Lib.hid G2
              clear G2 ha2 hb2
              by_cases c2 : 4294967296 ≤ b2
              · have cc2 : (4294967296 : Int) ≤ (b2 : Int) := by omega
                have cd2 : decide ((4294967296 : Int) ≤ (b2 : Int)) = true := decide_eq_true cc2
                have ce2 : ((b2 : Int) < 4294967296) = False := eq_false (by omega)
                obtain rfl : E = a2 := N2.out.symm.trans (guess_break 4294967296 D u0 W Z a2 b2 hB hW Z1 HD.out HG2.out c2)
                go_wp2_with fail
                go_ret2
                exact ⟨ret2u rfl rfl, 0, rfl⟩
              · have cc2 : ¬ (4294967296 : Int) ≤ (b2 : Int) := by omega
                have cd2 : decide ((4294967296 : Int) ≤ (b2 : Int)) = false := decide_eq_false cc2
                have ce2 : (b2 : Int) < 4294967296 := by omega
                go_wp2_with fail
                go_round
                case rel => exact ⟨a2, b2, rfl, rfl, HG2, by omega, by omega⟩
                case measure => simp [intOf]; omega
            · have zz2 : ¬ (4294967296 : Int) ≤ (q2 : Int) := by omega
              obtain ⟨p2, hp2⟩ : ∃ z, q2 * Z = z := ⟨_, rfl⟩
              have pl2 : p2 < 18446744073709551616 := by rw [← hp2]; exact Nat.mul_lt_mul'' (show q2 < 4294967296 by omega) Z1
              have pm2 : IntKind.u64.wrap ((q2 : Int) * (Z : Int)) = (p2 : Int) := by rw [mulN, hp2, wrapN _ pl2]
              have HP2 := Lib.hid hp2
              clear hp2
              by_cases y2 : 4294967296 * t2 + u0 < p2
              · have yy2 : 4294967296 * (t2 : Int) + (u0 : Int) < (p2 : Int) := by omega
                obtain ⟨G2, P2⟩ := guess_step 4294967296 D u0 W Z q2 t2 hB hW HD.out v0 hG2.out (.inr (by rw [HP2.out]; exact y2))
                obtain ⟨a2, ha2⟩ : ∃ z, q2 = z + 1 := ⟨q2 - 1, by omega⟩
                have aa2 : (q2 : Int) - 1 = (a2 : Int) := by omega
                have ab2 : 1 ≤ (q2 : Int) := by omega
                have ac2 : (a2 : Int) < 8589934592 := by omega
                rw [show q2 - 1 = a2 by omega] at G2
                rw [← hb2] at G2
                have HG2 := Lib.hid G2
                clear G2 ha2 hb2
                by_cases c2 : 4294967296 ≤ b2
                · have cc2 : (4294967296 : Int) ≤ (b2 : Int) := by omega
                  have cd2 : decide ((4294967296 : Int) ≤ (b2 : Int)) = true := decide_eq_true cc2
                  have ce2 : ((b2 : Int) < 4294967296) = False := eq_false (by omega)
                  obtain rfl : E = a2 := N2.out.symm.trans (guess_break 4294967296 D u0 W Z a2 b2 hB hW Z1 HD.out HG2.out c2)
                  go_wp2_with fail
                  go_ret2
                  exact ⟨ret2u rfl rfl, 0, rfl⟩
                · have cc2 : ¬ (4294967296 : Int) ≤ (b2 : Int) := by omega
                  have cd2 : decide ((4294967296 : Int) ≤ (b2 : Int)) = false := decide_eq_false cc2
                  have ce2 : (b2 : Int) < 4294967296 := by omega
                  go_wp2_with fail
                  go_round
                  case rel => exact ⟨a2, b2, rfl, rfl, HG2, by omega, by omega⟩
                  case measure => simp [intOf]; omega
              · have yy2 : ¬ 4294967296 * (t2 : Int) + (u0 : Int) < (p2 : Int) := by omega
                obtain rfl : E = q2 := N2.out.symm.trans (guess_done 4294967296 D u0 W Z q2 t2 hB hW hG2.out (by rw [HP2.out]; omega))
                go_wp2_with fail
                go_ret2
                exact ⟨ret2u rfl rfl, 0, rfl⟩
        · have cc1 : ¬ (4294967296 : Int) ≤ (b1 : Int) := by omega
          have cd1 : decide ((4294967296 : Int) ≤ (b1 : Int)) = false := decide_eq_false cc1
          have ce1 : (b1 : Int) < 4294967296 := by omega
          go_wp2_with fail
          go_round
          case rel => exact ⟨a1, b1, rfl, rfl, HG1, by omega, by omega⟩
          case measure => simp [intOf]; omega
      · have yy1 : ¬ 4294967296 * (t1 : Int) + (u1 : Int) < (p1 : Int) := by omega
        obtain rfl : Q = q1 := N1.out.symm.trans (guess_done 4294967296 U u1 W Z q1 t1 hB hW hG1.out (by rw [HP1.out]; omega))
        go_wp2_with fail
        go_loop [18, 16] (fun sq sr => ∃ q r : Nat, sq = .int .u64 (q : Int) ∧ sr = .int .u64 (r : Int) ∧ Hid (Guess 4294967296 D u0 W Z q r) ∧ q < 8589934592 ∧ r < 4294967296) (fun sq _ => (intOf sq).toNat)
        case atStart => exact ⟨_, _, rfl, rfl, a2, DW, l2⟩
        case round =>
          obtain ⟨q2, t2, rfl, rfl, hG2, k2, j2⟩ := hrel
          obtain ⟨b2, hb2⟩ : ∃ z, z = t2 + W := ⟨_, rfl⟩
          have bb2 : (t2 : Int) + (W : Int) = (b2 : Int) := by omega
          have bc2 : (b2 : Int) < 8589934592 := by omega
          by_cases z2 : 4294967296 ≤ q2
          · have zz2 : (4294967296 : Int) ≤ (q2 : Int) := by omega
            obtain ⟨G2, P2⟩ := guess_step 4294967296 D u0 W Z q2 t2 hB hW HD.out v0 hG2.out (.inl z2)
            obtain ⟨a2, ha2⟩ : ∃ z, q2 = z + 1 := ⟨q2 - 1, by omega⟩
            have aa2 : (q2 : Int) - 1 = (a2 : Int) := by omega
            have ab2 : 1 ≤ (q2 : Int) := by omega
            have ac2 : (a2 : Int) < 8589934592 := by omega
            rw [show q2 - 1 = a2 by omega] at G2
            rw [← hb2] at G2
            have HG2 := Lib.hid G2
            clear G2 ha2 hb2
            by_cases c2 : 4294967296 ≤ b2
            · have cc2 : (4294967296 : Int) ≤ (b2 : Int) := by omega
              have cd2 : decide ((4294967296 : Int) ≤ (b2 : Int)) = true := decide_eq_true cc2
              have ce2 : ((b2 : Int) < 4294967296) = False := eq_false (by omega)
              obtain rfl : E = a2 := N2.out.symm.trans (guess_break 4294967296 D u0 W Z a2 b2 hB hW Z1 HD.out HG2.out c2)
              go_wp2_with fail
              go_ret2
              exact ⟨ret2u rfl rfl, 0, rfl⟩
            · have cc2 : ¬ (4294967296 : Int) ≤ (b2 : Int) := by omega
              have cd2 : decide ((4294967296 : Int) ≤ (b2 : Int)) = false := decide_eq_false cc2
              have ce2 : (b2 : Int) < 4294967296 := by omega
              go_wp2_with fail
              go_round
              case rel => exact ⟨a2, b2, rfl, rfl, HG2, by omega, by omega⟩
              case measure => simp [intOf]; omega
          · have zz2 : ¬ (4294967296 : Int) ≤ (q2 : Int) := by omega
            obtain ⟨p2, hp2⟩ : ∃ z, q2 * Z = z := ⟨_, rfl⟩
            have pl2 : p2 < 18446744073709551616 := by rw [← hp2]; exact Nat.mul_lt_mul'' (show q2 < 4294967296 by omega) Z1
            have pm2 : IntKind.u64.wrap ((q2 : Int) * (Z : Int)) = (p2 : Int) := by rw [mulN, hp2, wrapN _ pl2]
            have HP2 := Lib.hid hp2
            clear hp2
            by_cases y2 : 4294967296 * t2 + u0 < p2
            · have yy2 : 4294967296 * (t2 : Int) + (u0 : Int) < (p2 : Int) := by omega
              obtain ⟨G2, P2⟩ := guess_step 4294967296 D u0 W Z q2 t2 hB hW HD.out v0 hG2.out (.inr (by rw [HP2.out]; exact y2))
              obtain ⟨a2, ha2⟩ : ∃ z, q2 = z + 1 := ⟨q2 - 1, by omega⟩
              have aa2 : (q2 : Int) - 1 = (a2 : Int) := by omega
              have ab2 : 1 ≤ (q2 : Int) := by omega
              have ac2 : (a2 : Int) < 8589934592 := by omega
              rw [show q2 - 1 = a2 by omega] at G2
              rw [← hb2] at G2
              have HG2 := Lib.hid G2
              clear G2 ha2 hb2
              by_cases c2 : 4294967296 ≤ b2
              · have cc2 : (4294967296 : Int) ≤ (b2 : Int) := by omega
                have cd2 : decide ((4294967296 : Int) ≤ (b2 : Int)) = true := decide_eq_true cc2
                have ce2 : ((b2 : Int) < 4294967296) = False := eq_false (by omega)
                obtain rfl : E = a2 := N2.out.symm.trans (guess_break 4294967296 D u0 W Z a2 b2 hB hW Z1 HD.out HG2.out c2)
                go_wp2_with fail
                go_ret2
                exact ⟨ret2u rfl rfl, 0, rfl⟩
              · have cc2 : ¬ (4294967296 : Int) ≤ (b2 : Int) := by omega
                have cd2 : decide ((4294967296 : Int) ≤ (b2 : Int)) = false := decide_eq_false cc2
                have ce2 : (b2 : Int) < 4294967296 := by omega
                go_wp2_with fail
                go_round
                case rel => exact ⟨a2, b2, rfl, rfl, HG2, by omega, by omega⟩
                case measure => simp [intOf]; omega
            · have yy2 : ¬ 4294967296 * (t2 : Int) + (u0 : Int) < (p2 : Int) := by omega
              obtain rfl : E = q2 := N2.out.symm.trans (guess_done 4294967296 D u0 W Z q2 t2 hB hW hG2.out (by rw [HP2.out]; omega))
              go_wp2_with fail
              go_ret2
              exact ⟨ret2u rfl rfl, 0, rfl⟩

set_option maxRecDepth 100000 in
theorem div_short (lo y q r : Nat) (hy : 0 < y) (hy2 : y < 9223372036854775808) (h2 : lo < 18446744073709551616) (hq : Hid (lo / y = q)) (hr : Hid (lo % y = r)) (w : World) :
    Calls Try.prog 31 #[.int .u64 0, .int .u64 lo, .int .u64 (y : Int)] w (DivOut q r w) := by
  have e1 : ¬ (y : Int) ≤ 0 := by omega
  have e2 : ((y : Int) == 0) = false := beq_eq_false_iff_ne.2 (by omega)
  have y0 : 1 ≤ (y : Int) := by omega
  have hq2 : q ≤ lo := by have := hq.out; rw [← this]; exact Nat.div_le_self _ _
  have r1 : (lo : Int) / (y : Int) = (q : Int) := by rw [← Int.natCast_ediv]; exact congrArg _ hq.out
  have r2 : (lo : Int) % (y : Int) = (r : Int) := by rw [← Int.natCast_emod]; exact congrArg _ hr.out
  have r3 : Hid (IntKind.u64.wrap (q : Int) = (q : Int)) := by show _ = _; rw [IntKind.wrap_u64]; omega
  clear h2 hq2 hy2
  go_enter Try.func31, Try.ntmps31
  go_wp2_with fail
  go_quiet (fail)
  go_wp2_with fail
  go_ret2
  exact ⟨ret2u r3.out r2, _, rfl⟩

/-- bits.Div64, by any divisor from 1 to 2^63 - 1 that is above the high digit. -/
theorem div64 (hi lo y : Nat) (h1 : hi < y) (hy : y < 9223372036854775808) (h2 : lo < 18446744073709551616) (w : World) :
    Calls Try.prog 31 #[.int .u64 (hi : Int), .int .u64 (lo : Int), .int .u64 (y : Int)] w (DivOut ((hi * 18446744073709551616 + lo) / y) ((hi * 18446744073709551616 + lo) % y) w) := by
  by_cases h0 : 0 < hi
  · obtain ⟨s, p, m, hz, hL⟩ := lead64 y (by omega) hy
    obtain ⟨Y, W, Z, U, u1, u0, X, L, V, Q, D, h⟩ := long hz h0 h1 h2
    exact div_long h h2 hy h.p0 hL w
  · obtain rfl : hi = 0 := by omega
    rw [Nat.zero_mul, Nat.zero_add]
    exact div_short lo y _ _ h1 hy h2 rfl rfl w
end Go.Proofs.Ytbmlingbohdpkaa.B
