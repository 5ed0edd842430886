/- The walks of the document's answer for share: over, wrong, UpTo, Between. -/
import Derived.Test.YtbmlingbohdpkaaShV
namespace Go.Proofs.Ytbmlingbohdpkaa.W
open Go.RowKit Go.Proofs.Ytbmlingbohdpkaa.M Go.Proofs.Ytbmlingbohdpkaa.B Go.Proofs.Ytbmlingbohdpkaa.H
set_option linter.unusedVariables false

theorem and_one (y : Nat) (hy : y < 4611686018427387904) : bits .and .i64 (y : Int) 1 = ((y % 2 : Nat) : Int) := by
  have h1 : (BitVec.ofInt 64 (y : Int)).toNat = y := by
    rw [BitVec.ofInt_natCast, BitVec.toNat_ofNat]; exact Nat.mod_eq_of_lt (by omega)
  have h2 : (BitVec.ofInt 64 (1 : Int)).toNat = 1 := by decide
  show IntKind.i64.wrap ((BitVec.ofInt 64 (y : Int) &&& BitVec.ofInt 64 (1 : Int)).toNat : Int) = _
  rw [BitVec.toNat_and, h1, h2, Nat.and_one_is_mod, IntKind.wrap_i64]
  omega
theorem half_pow (a j : Nat) : a / 2 ^ j = 2 * (a / 2 ^ (j + 1)) + a / 2 ^ j % 2 := by
  rw [Nat.pow_succ, ← Nat.div_div_eq_div_mul]; omega
theorem over_end {a b c q r : Nat} (h : q * c + r = a * b) (hr : r < c) : a * b / c = q ∧ a * b % c = r := by
  rw [← h, Nat.mul_comm q c]
  exact ⟨by rw [Nat.mul_add_div (by omega), Nat.div_eq_of_lt hr]; rfl, by rw [Nat.mul_add_mod]; exact Nat.mod_eq_of_lt hr⟩
theorem q_top {q c r P b : Nat} (h : q * c + r = P * b) (hb : b ≤ c) (hc : 0 < c) : q ≤ P := by
  have h1 : P * b ≤ P * c := Nat.mul_le_mul_left _ hb
  exact Nat.le_of_mul_le_mul_right (show q * c ≤ P * c by omega) hc

set_option maxRecDepth 100000 in
theorem over_is (a b c q0 r0 : Nat) (ha : a ≤ 1125899906842624) (hb : b ≤ c) (hc : 0 < c) (hc2 : c ≤ 72057594037927936) (hq : Hid (a * b / c = q0)) (hr : Hid (a * b % c = r0)) (W : World) :
    Calls Try.prog 24 #[.int .i64 (a : Int), .int .i64 (b : Int), .int .i64 (c : Int)] W fun e w' => e = .returned (.tuple #[.int .i64 (q0 : Int), .int .i64 (r0 : Int)]) ∧ W = w' := by
  go_enter Try.func24, Try.ntmps24
  go_wp2_with fail
  go_loop [8, 9, 10] (fun s8 s9 s10 => ∃ j q r : Nat, j ≤ 58 ∧ s10 = .int .i64 ((j : Int) - 1) ∧ s8 = .int .i64 (q : Int) ∧ s9 = .int .i64 (r : Int) ∧ r < c ∧ Hid (q * c + r = a / 2 ^ j * b)) (fun _ _ s10 => (intOf s10 + 1).toNat)
  case atStart => exact ⟨58, 0, 0, by omega, rfl, rfl, rfl, hc, by show _ = _; rw [Nat.div_eq_of_lt (by omega)]; simp⟩
  case round =>
    obtain ⟨j, q, r, hj, rfl, rfl, rfl, hrc, hinv⟩ := hrel
    rcases j with _ | j
    · have h1 := hinv.out
      rw [Nat.pow_zero, Nat.div_one] at h1
      obtain ⟨e1, e2⟩ := over_end h1 hrc
      have E1 := Lib.hid (hq.out.symm.trans e1)
      have E2 := Lib.hid (hr.out.symm.trans e2)
      clear h1 e1 e2
      go_wp2_with fail
      go_ret2
      exact ⟨ret_ii (by rw [E1.out]) (by rw [E2.out]), rfl⟩
    · have e0 : (((j + 1 : Nat) : Int) - 1) = (j : Int) := by omega
      rw [e0]
      have hqa : q ≤ a := by
        have h1 := q_top hinv.out hb hc
        have h2 := Nat.div_le_self a (2 ^ (j + 1))
        omega
      obtain ⟨y, hy⟩ : ∃ y, a / 2 ^ j = y := ⟨_, rfl⟩
      have hya : y ≤ a := by rw [← hy]; exact Nat.div_le_self _ _
      have r1 : (a : Int) / 2 ^ j = (y : Int) := by rw [← hy]; norm_cast
      have hP : a / 2 ^ (j + 1) * 2 + y % 2 = y := by have := half_pow a j; rw [hy] at this; omega
      have hand := and_one y (by omega)
      have hinv2 : ∀ t, y % 2 = t → 2 * q * c + (2 * r + t * b) = y * b := fun t ht => by
        have h1 := hinv.out
        rw [ht] at hP
        generalize a / 2 ^ (j + 1) = P at *
        have e1 : 2 * q * c = 2 * (q * c) := Nat.mul_assoc _ _ _
        have e2 : P * 2 * b = 2 * (P * b) := by rw [Nat.mul_right_comm, Nat.mul_comm]
        rw [← hP, Nat.add_mul, e1, e2, ← h1]
        omega
      have HY := Lib.hid hy
      clear hP hinv hy
      have hqb : (q : Int) ≤ 1125899906842624 := by omega
      have hrb : (r : Int) < c := by omega
      obtain ⟨t, ht⟩ : ∃ t, y % 2 = t := ⟨_, rfl⟩
      have h2 := hinv2 t ht
      rw [ht] at hand
      have hand' := Lib.hid hand
      have YA := Lib.hid hya
      rcases (by omega : t = 0 ∨ t = 1) with rfl | rfl
      all_goals
        have H2 := Lib.hid h2
        clear h2 hinv2 ht
        go_wp2_with fail
        go_loop [8, 9] (fun s8 s9 => ∃ q2 r2 : Nat, s8 = .int .i64 (q2 : Int) ∧ s9 = .int .i64 (r2 : Int) ∧ r2 < 3 * c ∧ Hid (q2 * c + r2 = y * b)) (fun _ s9 => (intOf s9).toNat)
        case atStart => first
          | exact ⟨2 * q, 2 * r, by go_num, by go_num, by omega, by show _ = _; rw [← H2.out]; omega⟩
          | exact ⟨2 * q, 2 * r + b, by go_num, by go_num, by omega, by show _ = _; rw [← H2.out]; omega⟩
        case round =>
          obtain ⟨q2, r2, rfl, rfl, h3, hi2⟩ := hrel
          have hq2 := q_top hi2.out hb hc
          have hya := YA.out
          by_cases cc : c ≤ r2
          · have cc' : (c : Int) ≤ (r2 : Int) := by omega
            obtain ⟨r3, rfl⟩ : ∃ r3, r2 = r3 + c := ⟨r2 - c, by omega⟩
            have hi3 : Hid ((q2 + 1) * c + r3 = y * b) := by show _ = _; rw [← hi2.out, Nat.add_mul]; omega
            clear hi2
            go_wp2_with fail
            go_round
            case rel => exact ⟨q2 + 1, r3, by go_num, by go_num, by omega, hi3⟩
            case measure => simp [intOf]; omega
          · have cc' : ¬ (c : Int) ≤ (r2 : Int) := by omega
            go_wp2_with fail
            go_round
            case rel => exact ⟨j, q2, r2, by omega, rfl, rfl, rfl, by omega, by show _ = _; rw [HY.out]; exact hi2.out⟩
            case measure => simp [intOf]; try omega

theorem refUp_good (a x y : Nat) (W : World) (ha : a ≤ 1125899906842624) (y0 : 0 < y) (y1 : y ≤ 1125899906842624) (xy : x ≤ y) :
    Calls Try.prog 15 #[.int .i64 (a : Int), .int .i64 (x : Int), .int .i64 (y : Int)] W fun e w' => e = .returned (.tuple #[.int .i64 (upr a x y), .int .i64 (uperr a x y)]) ∧ W = w' := by
  have hwh : wherr a y = 0 := by unfold wherr; rw [if_neg (by omega), if_neg (by omega), if_neg (by omega)]
  have hu : uperr a x y = 0 := by unfold uperr; rw [if_pos hwh, if_neg (by omega)]
  have HU := Lib.hid hu
  have s0 : ¬ (y : Int) = 0 := by omega
  have s0' : ((y : Int) == 0) = false := beq_eq_false_iff_ne.2 s0
  have s2' : decide (1125899906842624 < (y : Int)) = false := decide_eq_false (by omega)
  have w1' : decide ((y : Int) < (x : Int)) = false := decide_eq_false (by omega)
  obtain ⟨q, hq⟩ : ∃ q, a * x / y = q := ⟨_, rfl⟩
  obtain ⟨r, hr⟩ : ∃ r, a * x % y = r := ⟨_, rfl⟩
  have hov := Lib.hid fun W => over_is a x y q r ha (by omega) (by omega) (by omega) hq hr W
  have hV : upr a x y = if (y : Int) ≤ 2 * (r : Int) then (q : Int) + 1 else q := by
    rw [upr_ok hu, ← hq, ← hr]
    unfold upv up1
    rw [if_neg (by omega)]
    norm_cast
  have hR := up1_range (a := (a : Int)) (w := (x : Int)) (s := (y : Int)) (by omega) (by omega) (by omega) (by omega)
  have hup1 : upr a x y = up1 a x y := by rw [upr_ok hu]; unfold upv; rw [if_neg (by omega)]
  rw [← hup1, hV] at hR
  have hrs : r < y := by rw [← hr]; exact Nat.mod_lt _ (by omega)
  have HV := Lib.hid hV
  clear hu s0 hwh hV hup1 hq hr
  by_cases c : (y : Int) ≤ 2 * (r : Int)
  · rw [if_pos c] at hR HV
    obtain ⟨hR1, hR2⟩ := hR
    go_enter Try.func15, Try.ntmps15
    go_wp2_with (go_at_call 24; refine (hov.out _).mono ?_; rintro e w1 ⟨rfl, rfl⟩)
    go_ret2
    exact ⟨ret_ii HV.out.symm HU.out.symm, rfl⟩
  · rw [if_neg c] at hR HV
    obtain ⟨hR1, hR2⟩ := hR
    go_enter Try.func15, Try.ntmps15
    go_wp2_with (go_at_call 24; refine (hov.out _).mono ?_; rintro e w1 ⟨rfl, rfl⟩)
    go_ret2
    exact ⟨ret_ii HV.out.symm HU.out.symm, rfl⟩

theorem wherr_neg (c s : Int) : wherr (-c) s = wherr c s := by
  unfold wherr
  by_cases h : c < -1125899906842624 ∨ 1125899906842624 < c
  · rw [if_pos h, if_pos (by omega)]
  · rw [if_neg h, if_neg (by omega)]
theorem uperr_neg (c w s : Int) : uperr (-c) w s = uperr c w s := by unfold uperr; rw [wherr_neg]
theorem upr_neg {c w s : Int} (hc : c < 0) : upr c w s = -(upr (-c) w s) := by
  unfold upr
  rw [uperr_neg]
  split
  · unfold upv; rw [if_pos hc, if_neg (by omega)]
  · rfl
theorem upr_range {c w s : Int} (c1 : -1125899906842624 ≤ c) (c2 : c ≤ 1125899906842624) : -1125899906842624 ≤ upr c w s ∧ upr c w s ≤ 1125899906842624 := by
  unfold upr
  split
  · rename_i h
    unfold uperr at h
    split at h
    · rename_i h2
      obtain ⟨_, _, s0, s1⟩ := wherr_ok h2
      split at h
      · omega
      · exact upv_range s0 (by omega) (by omega) c1 c2
    · rename_i h2; exact absurd h h2
  · omega
theorem refUpTo_is (c w s : Int) (W : World) (hc : -9223372036854775808 ≤ c ∧ c ≤ 9223372036854775807) (hw : -9223372036854775808 ≤ w ∧ w ≤ 9223372036854775807) (hs : -9223372036854775808 ≤ s ∧ s ≤ 9223372036854775807) :
    Calls Try.prog 15 #[.int .i64 c, .int .i64 w, .int .i64 s] W fun e w' => e = .returned (.tuple #[.int .i64 (upr c w s), .int .i64 (uperr c w s)]) ∧ W = w' := by
  by_cases c1 : c < -1125899906842624
  · have hk : wherr c s = 9 := by unfold wherr; rw [if_pos (.inl c1)]
    have hu : uperr c w s = 9 := by unfold uperr; rw [hk]; rfl
    have HU := Lib.hid hu
    clear hu hk
    have c2 : decide (1125899906842624 < c) = false := decide_eq_false (by omega)
    go_enter Try.func15, Try.ntmps15
    go_wp2_with fail
    go_ret2
    exact ⟨ret_ii (upr_bad HU.out (by omega)).symm HU.out.symm, rfl⟩
  have c1' : decide (c < -1125899906842624) = false := decide_eq_false c1
  by_cases c2 : 1125899906842624 < c
  · have hk : wherr c s = 9 := by unfold wherr; rw [if_pos (.inr c2)]
    have hu : uperr c w s = 9 := by unfold uperr; rw [hk]; rfl
    have HU := Lib.hid hu
    clear hu hk
    go_enter Try.func15, Try.ntmps15
    go_wp2_with fail
    go_ret2
    exact ⟨ret_ii (upr_bad HU.out (by omega)).symm HU.out.symm, rfl⟩
  by_cases s0 : s = 0
  · have hu : uperr c w s = 22 := by unfold uperr; rw [show wherr c s = 22 by unfold wherr; rw [if_neg (by omega), if_pos s0]]; rfl
    have HU := Lib.hid hu
    clear hu
    subst s0
    go_enter Try.func15, Try.ntmps15
    go_wp2_with fail
    go_ret2
    exact ⟨ret_ii (upr_bad HU.out (by omega)).symm HU.out.symm, rfl⟩
  have s0' : (s == 0) = false := beq_eq_false_iff_ne.2 s0
  by_cases s1 : s < 0
  · have hu : uperr c w s = 2 := by unfold uperr; rw [show wherr c s = 2 by unfold wherr; rw [if_neg (by omega), if_neg s0, if_pos (.inl s1)]]; rfl
    have HU := Lib.hid hu
    clear hu s0
    go_enter Try.func15, Try.ntmps15
    go_wp2_with fail
    go_ret2
    exact ⟨ret_ii (upr_bad HU.out (by omega)).symm HU.out.symm, rfl⟩
  by_cases s2 : 1125899906842624 < s
  · have hu : uperr c w s = 2 := by unfold uperr; rw [show wherr c s = 2 by unfold wherr; rw [if_neg (by omega), if_neg s0, if_pos (.inr s2)]]; rfl
    have HU := Lib.hid hu
    clear hu s0
    go_enter Try.func15, Try.ntmps15
    go_wp2_with fail
    go_ret2
    exact ⟨ret_ii (upr_bad HU.out (by omega)).symm HU.out.symm, rfl⟩
  have s2' : decide (1125899906842624 < s) = false := decide_eq_false s2
  have hwh : wherr c s = 0 := by unfold wherr; rw [if_neg (by omega), if_neg s0, if_neg (by omega)]
  by_cases w0 : w < 0
  · have hu : uperr c w s = 2 := by unfold uperr; rw [if_pos hwh, if_pos (.inl w0)]
    have HU := Lib.hid hu
    clear hu s0 hwh
    go_enter Try.func15, Try.ntmps15
    go_wp2_with fail
    go_ret2
    exact ⟨ret_ii (upr_bad HU.out (by omega)).symm HU.out.symm, rfl⟩
  have w0' : decide (w < 0) = false := decide_eq_false w0
  by_cases w1 : s < w
  · have hu : uperr c w s = 2 := by unfold uperr; rw [if_pos hwh, if_pos (.inr w1)]
    have HU := Lib.hid hu
    clear hu s0 hwh
    go_enter Try.func15, Try.ntmps15
    go_wp2_with fail
    go_ret2
    exact ⟨ret_ii (upr_bad HU.out (by omega)).symm HU.out.symm, rfl⟩
  have w1' : decide (s < w) = false := decide_eq_false w1
  obtain ⟨x, rfl⟩ : ∃ x : Nat, w = x := ⟨w.toNat, by omega⟩
  obtain ⟨y, rfl⟩ : ∃ y : Nat, s = y := ⟨s.toNat, by omega⟩
  by_cases p : 0 ≤ c
  · obtain ⟨a, rfl⟩ : ∃ a : Nat, c = a := ⟨c.toNat, by omega⟩
    exact refUp_good a x y W (by omega) (by omega) (by omega) (by omega)
  · obtain ⟨a, ha⟩ : ∃ a : Nat, -c = a := ⟨(-c).toNat, by omega⟩
    have hin := refUp_good a x y
    have h1 := upr_neg (c := c) (w := x) (s := y) (by omega)
    have h2 := uperr_neg c x y
    rw [ha] at h1 h2
    have hu : uperr c x y = 0 := by unfold uperr; rw [if_pos hwh, if_neg (by omega)]
    have hr := upr_range (c := (a : Int)) (w := x) (s := y) (by omega) (by omega)
    rw [h2, hu] at hin
    obtain ⟨v, hv⟩ : ∃ v, upr (a : Int) x y = v := ⟨_, rfl⟩
    rw [hv] at hin hr h1
    obtain ⟨r0, r1⟩ := hr
    have HIN := Lib.hid fun W => hin W (by omega) (by omega) (by omega) (by omega)
    have HU := Lib.hid hu
    have H1 := Lib.hid h1
    obtain rfl : c = -(a : Int) := by omega
    clear hin h1 h2 hv hu ha hwh
    go_enter Try.func15, Try.ntmps15
    go_wp2_with fail
    refine (HIN.out _).mono ?_
    rintro e w1 ⟨rfl, rfl⟩
    go_wp2_with fail
    go_ret2
    exact ⟨ret_ii H1.out.symm HU.out.symm, rfl⟩
end Go.Proofs.Ytbmlingbohdpkaa.W
