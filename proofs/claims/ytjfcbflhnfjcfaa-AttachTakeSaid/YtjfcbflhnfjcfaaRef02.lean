/- The walks of the document's answer for layer rate: bit by bit. -/
import Derived.Test.YtjfcbflhnfjcfaaRow
import Derived.Test.YtjfcbflhnfjcfaaRate
import Derived.Deep.RegionWith
namespace Go.Proofs.Ytjfcbflhnfjcfaa.W
open Go.RowKit Go.Proofs.Ytjfcbflhnfjcfaa.M Go.Proofs.Ytjfcbflhnfjcfaa.B
set_option linter.unusedVariables false

/-- The number that bits say. -/
def val (O : Nat → Nat) : Nat → Nat
  | 0 => 0
  | n + 1 => val O n + O n * 2 ^ n
def updn (O : Nat → Nat) (p v : Nat) : Nat → Nat := fun i => if i = p then v else O i
theorem val_far (O : Nat → Nat) (p v : Nat) : ∀ n, n ≤ p → val (updn O p v) n = val O n
  | 0, _ => rfl
  | n + 1, h => by
    unfold val
    rw [val_far O p v n (by omega)]
    unfold updn
    rw [if_neg (by omega)]
theorem val_upd (O : Nat → Nat) (p v : Nat) : ∀ n, p < n → val (updn O p v) n + O p * 2 ^ p = val O n + v * 2 ^ p
  | 0, h => absurd h (by omega)
  | n + 1, h => by
    unfold val
    by_cases c : p = n
    · subst c
      rw [val_far O p v p (Nat.le_refl _)]
      unfold updn
      rw [if_pos rfl]; omega
    · have h1 := val_upd O p v n (by omega)
      have e : updn O p v n = O n := by unfold updn; rw [if_neg (by omega)]
      rw [e]; omega
theorem val_lt (O : Nat → Nat) : ∀ n, (∀ i, i < n → O i ≤ 1) → val O n < 2 ^ n
  | 0, _ => by simp [val]
  | n + 1, h => by
    have h1 := val_lt O n fun i hi => h i (by omega)
    have h2 := h n (by omega)
    have h3 : O n * 2 ^ n ≤ 1 * 2 ^ n := Nat.mul_le_mul_right _ h2
    unfold val
    rw [Nat.pow_succ]; omega
theorem val_bit (O : Nat → Nat) : ∀ n i, i < n → (∀ i, i < n → O i ≤ 1) → val O n / 2 ^ i % 2 = O i
  | 0, i, h, _ => absurd h (by omega)
  | n + 1, i, h, hb => by
    unfold val
    by_cases c : i = n
    · subst c
      have h1 := val_lt O i fun j hj => hb j (by omega)
      rw [Nat.add_mul_div_right _ _ (Nat.two_pow_pos i), Nat.div_eq_of_lt h1, Nat.zero_add]
      have := hb i (by omega)
      omega
    · have h1 := val_bit O n i (by omega) fun j hj => hb j (by omega)
      have e : O n * 2 ^ n = O n * 2 ^ (n - i - 1) * 2 * 2 ^ i := by
        rw [Nat.mul_assoc, Nat.mul_assoc, ← Nat.pow_succ', ← Nat.pow_add]
        congr 2; omega
      rw [e, Nat.add_mul_div_right _ _ (Nat.two_pow_pos i), Nat.add_mul_mod_self_right]
      exact h1
theorem half_pow (a j : Nat) : a / 2 ^ j = 2 * (a / 2 ^ (j + 1)) + a / 2 ^ j % 2 := by
  rw [Nat.pow_succ, ← Nat.div_div_eq_div_mul]; omega
theorem mod_pow (a j : Nat) : a % 2 ^ (j + 1) = a % 2 ^ j + 2 ^ j * (a / 2 ^ j % 2) := Nat.mod_pow_succ

/-- A column: the digit, and what is carried. -/
theorem column {V V' T X o t c v d n : Nat} (h : V + c * X = T) (hn : n = o + t + c) (hv : v + 2 * d = n) (hu : V' + o * X = V + v * X) : V' + d * (X * 2) = T + X * t := by
  have h1 : (v + 2 * d) * X = (o + t + c) * X := by rw [hv, hn]
  rw [Nat.add_mul, Nat.add_mul, Nat.add_mul] at h1
  have e1 : d * (X * 2) = 2 * d * X := by rw [Nat.mul_comm X 2, ← Nat.mul_assoc, Nat.mul_comm d 2]
  rw [e1, Nat.mul_comm X t]
  omega

theorem ret_u {a b : Int} (h : a = b) : Ending.returned (.int .u64 a) = .returned (.int .u64 b) := by rw [h]
theorem bit_is (n k v : Nat) (hn : n < 18446744073709551616) (hk : k ≤ 64) (hv : Hid (n / 2 ^ k % 2 = v)) (W : World) :
    Calls Try.prog 65 #[.int .u64 (n : Int), .int .i64 (k : Int)] W fun e w' => e = .returned (.int .u64 (v : Int)) ∧ W = w' := by
  go_enter Try.func65, Try.ntmps65
  go_wp2_with fail
  go_loop [0, 5] (fun s0 s5 => ∃ j y : Nat, j ≤ k ∧ s5 = .int .i64 (j : Int) ∧ s0 = .int .u64 (y : Int) ∧ y ≤ n ∧ Hid (n / 2 ^ j = y)) (fun _ s5 => k - (intOf s5).toNat)
  case atStart => exact ⟨0, n, Nat.zero_le _, rfl, rfl, Nat.le_refl _, by show _ = _; simp⟩
  case round =>
    obtain ⟨j, y, hj, rfl, rfl, hy, hinv⟩ := hrel
    by_cases c : j < k
    · have c' : (j : Int) < (k : Int) := by omega
      have hnx : Hid (n / 2 ^ (j + 1) = y / 2) := by show _ = _; rw [Nat.pow_succ, ← Nat.div_div_eq_div_mul, hinv.out]
      clear hinv
      go_wp2_with fail
      go_round
      case rel => exact ⟨j + 1, y / 2, by omega, by go_num, by go_num, by omega, hnx⟩
      case measure => simp [intOf]; omega
    · obtain rfl : j = k := by omega
      have HV : Hid (y % 2 = v) := by show _ = _; rw [← hinv.out]; exact hv.out
      clear hv hinv
      go_wp2_with fail
      go_ret
      exact ⟨ret_u (by rw [← HV.out]; omega), rfl⟩

theorem Row.setn {w : World} {g n : Nat} {O : Nat → Nat} (h : Row .u64 w g n fun j => (O j : Int)) {p : Nat} (hp : p < n) {x : Int} {v : Nat} (hx : x = (v : Int)) : Row .u64 (w.setCell ⟨g, p, none⟩ (.int .u64 x)) g n fun j => (updn O p v j : Int) :=
  (h.set hp x).congr fun j _ => by
    unfold upd updn
    split
    · exact hx
    · rfl
theorem updn_le {O : Nat → Nat} {n p v : Nat} (h : ∀ i, i < n → O i ≤ 1) (hv : v ≤ 1) : ∀ i, i < n → updn O p v i ≤ 1 := fun i hi => by
  unfold updn; split
  · exact hv
  · exact h i hi
theorem infoU64r : (Try.prog.info? 82).map (fun i => (i.zero, i.size, i.bytes)) = some (some (.int .u64 0), 1, 8) := by kernel_rfl

def ProdOut (a b : Nat) (W : World) (e : Ending) (w' : World) : Prop :=
  ∃ (g : Nat) (O : Nat → Nat), e = .returned (.slice (some ⟨g, 0, none⟩) 128 129) ∧ Row .u64 w' g 129 (fun j => (O j : Int)) ∧ (∀ j, j < 128 → O j ≤ 1) ∧ val O 128 = a * b ∧ Below W.heap.size W w'

set_option maxRecDepth 100000 in
set_option maxHeartbeats 4000000 in
theorem product_is (a b : Nat) (ha : a < 18446744073709551616) (hb : b < 18446744073709551616) (W : World) :
    Calls Try.prog 59 #[.int .u64 (a : Int), .int .u64 (b : Int)] W (ProdOut a b W) := by
  have hmk : ∀ w : World, (Instr.makeSlice 91 (.int .i64 129) (.int .i64 129)).run Try.prog w = .ok (.slice (some ⟨w.heap.size, 0, none⟩) 129 129) (w.alloc (.cells (madeCells #[.int .u64 0] 129) 82)) := run_make_row' (P := Try.prog) 91 82 (.int .u64 0) 8 Try.underlying91 infoU64r rfl .i64 .i64 129 (by omega) (by omega)
  have r0 : Row .u64 (W.alloc (.cells (madeCells #[.int .u64 0] 129) 82)) W.heap.size 129 fun _ => 0 := Row.made .u64 W 129 _
  have b0 : Below W.heap.size W (W.alloc (.cells (madeCells #[.int .u64 0] 129) 82)) := balloc (Below.refl _ _) _
  have v0 : ∀ n, val (fun _ => 0) n = 0 := fun n => by
    induction n with
    | zero => rfl
    | succ n ih => unfold val; rw [ih]; simp
  go_enter Try.func59, Try.ntmps59
  go_wp2_with fail
  clear hmk
  generalize W.alloc (.cells (madeCells #[.int .u64 0] 129) 82) = U at *
  obtain ⟨G, hG⟩ : ∃ g, W.heap.size = g := ⟨_, rfl⟩
  have HG := Lib.hid hG
  rw [hG] at r0
  rw [hG]
  clear hG
  go_loopw [6] (fun s6 wx => ∃ (i : Nat) (O : Nat → Nat), i ≤ 64 ∧ s6 = .int .i64 (i : Int) ∧ Row .u64 wx G 129 (fun j => (O j : Int)) ∧ Hid (∀ j, j < 129 → O j ≤ 1) ∧ Hid (val O 129 = a % 2 ^ i * b) ∧ Below W.heap.size W wx) (fun i _ => 64 - (intOf i).toNat)
  case atStart => exact ⟨0, fun _ => 0, by omega, rfl, r0, fun _ _ => Nat.zero_le _, by show _ = _; rw [v0]; simp [Nat.mod_one], b0⟩
  case round =>
    obtain ⟨i, O, hi, rfl, hO, hbits, hval, hbel⟩ := hrel
    clear r0 b0
    by_cases ci : i < 64
    · have hmp := mod_pow a i
      obtain ⟨t, ht⟩ : ∃ t, a / 2 ^ i % 2 = t := ⟨_, rfl⟩
      have hbit := Lib.hid fun W => bit_is a i t ha (by omega) ht W
      rw [ht] at hmp
      have ht1 : t ≤ 1 := by omega
      have ii : (i : Int) < 64 := by omega
      clear ht
      by_cases tz : t = 0
      · subst tz
        have hnx : Hid (val O 129 = a % 2 ^ (i + 1) * b) := by show _ = _; rw [hmp, hval.out]; simp
        clear hmp hval
        go_wp2_with (go_at_call 65; refine (hbit.out _).mono ?_; rintro e w1 ⟨rfl, rfl⟩)
        go_round
        case rel => exact ⟨i + 1, O, by omega, by go_num, hO, hbits, hnx, hbel⟩
        case measure => simp [intOf]; omega
      · obtain rfl : t = 1 := by omega
        have hend : Hid (∀ V, V = a % 2 ^ i * b + 2 ^ i * b → V = a % 2 ^ (i + 1) * b) := fun V h => by rw [h, hmp, Nat.mul_one, Nat.add_mul]
        clear hmp tz
        go_wp2_with (go_at_call 65; refine (hbit.out _).mono ?_; rintro e w1 ⟨rfl, rfl⟩)
        go_loopw [7, 8] (fun s7 s8 wx => ∃ (k c : Nat) (O : Nat → Nat), k ≤ 64 ∧ c ≤ 1 ∧ s8 = .int .i64 (k : Int) ∧ s7 = .int .u64 (c : Int) ∧ Row .u64 wx G 129 (fun j => (O j : Int)) ∧ Hid (∀ j, j < 129 → O j ≤ 1) ∧ Hid (val O 129 + c * 2 ^ (i + k) = a % 2 ^ i * b + 2 ^ i * (b % 2 ^ k)) ∧ Below W.heap.size W wx) (fun _ s8 _ => 64 - (intOf s8).toNat)
        case atStart => exact ⟨0, 0, O, by omega, by omega, rfl, rfl, hO, hbits, by show _ = _; rw [hval.out]; simp [Nat.mod_one], hbel⟩
        case round =>
          obtain ⟨k, c, O2, hk, hc, rfl, rfl, hO2, hb2, hv2, hbel2⟩ := hrel
          clear hO hbits hval hbel hbit
          by_cases ck : k < 64
          · obtain ⟨t, ht⟩ : ∃ t, b / 2 ^ k % 2 = t := ⟨_, rfl⟩
            have hbit := Lib.hid fun W => bit_is b k t hb (by omega) ht W
            have kk : (k : Int) < 64 := by omega
            have e1 := hO2.cell (i + k) (by omega)
            have z1 := hO2.frz (i + k)
            obtain ⟨o, ho⟩ : ∃ o, O2 (i + k) = o := ⟨_, rfl⟩
            have ho1 : o ≤ 1 := by rw [← ho]; exact hb2.out _ (by omega)
            have ht1 : t ≤ 1 := by omega
            rw [ho] at e1
            obtain ⟨v, hv⟩ : ∃ v, (o + t + c) % 2 = v := ⟨_, rfl⟩
            obtain ⟨d, hd⟩ : ∃ d, (o + t + c) / 2 = d := ⟨_, rfl⟩
            have hu := val_upd O2 (i + k) v 129 (by omega)
            rw [ho] at hu
            have hnx : Hid (val (updn O2 (i + k) v) 129 + d * 2 ^ (i + (k + 1)) = a % 2 ^ i * b + 2 ^ i * (b % 2 ^ (k + 1))) := by
              show _ = _
              have h := column (X := 2 ^ (i + k)) (o := o) (t := t) (c := c) (v := v) (d := d) hv2.out rfl (by omega) hu
              rw [show i + (k + 1) = (i + k) + 1 by omega, Nat.pow_succ, h, mod_pow b k, ht, Nat.mul_add, Nat.pow_add, Nat.add_assoc, Nat.mul_assoc]
            have hb3 : Hid (∀ j, j < 129 → updn O2 (i + k) v j ≤ 1) := updn_le hb2.out (by omega)
            have q1 : ((o : Int) + (t : Int) + (c : Int)) % 2 = (v : Int) := by omega
            have q2 : ((o : Int) + (t : Int) + (c : Int)) / 2 = (d : Int) := by omega
            clear ht ho hv hd hu hv2
            go_wp2_with fail
            go_quiet ((go_at_call 65; exact quiet_left (hbit.out _)))
            go_wp2_with fail
            go_round
            case rel => exact ⟨k + 1, d, _, by omega, by omega, by go_num, by go_num, (hO2.drewN _).setn (by omega) rfl, hb3, hnx, (below_drewN hbel2 _).setCell (Nat.le_of_eq HG.out) _⟩
            case measure => simp [intOf]; omega
          · obtain rfl : k = 64 := by omega
            obtain ⟨T, hT⟩ : ∃ T, a % 2 ^ i * b + 2 ^ i * b = T := ⟨_, rfl⟩
            have hTT : Hid (T < 2 ^ (i + 65)) := by
              show _ < _
              rw [← hT, ← Nat.add_mul]
              have h1 : a % 2 ^ i + 2 ^ i ≤ 2 ^ (i + 1) := by have := Nat.mod_lt a (Nat.two_pow_pos i); rw [Nat.pow_succ]; omega
              have h2 : (a % 2 ^ i + 2 ^ i) * b ≤ 2 ^ (i + 1) * b := Nat.mul_le_mul_right _ h1
              have h3 : 2 ^ (i + 1) * b < 2 ^ (i + 1) * 2 ^ 64 := Nat.mul_lt_mul_of_pos_left (by omega) (Nat.two_pow_pos _)
              rw [← Nat.pow_add, show i + 1 + 64 = i + 65 by omega] at h3
              omega
            have hv3 : Hid (val O2 129 + c * 2 ^ (i + 64) = T) := by
              show _ = _
              rw [hv2.out, ← hT, Nat.mod_eq_of_lt (show b < 2 ^ 64 by omega)]
            have hfin : Hid (∀ V, V = T → V = a % 2 ^ (i + 1) * b) := fun V h => hend.out V (by rw [h, hT])
            clear hT hv2 hend
            go_wp2_with fail
            go_loopw [7, 10] (fun s7 s10 wx => ∃ (k c : Nat) (O : Nat → Nat), i + 64 ≤ k ∧ c ≤ 1 ∧ k ≤ 129 ∧ s10 = .int .i64 (k : Int) ∧ s7 = .int .u64 (c : Int) ∧ Row .u64 wx G 129 (fun j => (O j : Int)) ∧ Hid (∀ j, j < 129 → O j ≤ 1) ∧ Hid (val O 129 + c * 2 ^ k = T) ∧ Below W.heap.size W wx) (fun _ s10 _ => 129 - (intOf s10).toNat)
            case atStart => exact ⟨i + 64, c, O2, Nat.le_refl _, hc, by omega, by go_num, rfl, hO2, hb2, hv3, hbel2⟩
            case round =>
              obtain ⟨k, c, O3, hk2, hc, hk3, rfl, rfl, hO3, hb3, hv4, hbel3⟩ := hrel
              clear hO2 hb2 hv3 hbel2
              by_cases cz : c = 0
              · subst cz
                have hnx : Hid (val O3 129 = a % 2 ^ (i + 1) * b) := hfin.out _ (by have := hv4.out; omega)
                go_wp2_with fail
                go_round
                case rel => exact ⟨i + 1, O3, by omega, by go_num, hO3, hb3, hnx, hbel3⟩
                case measure => simp [intOf]; omega
              · obtain rfl : c = 1 := by omega
                have hk4 : k < 129 := by
                  have h1 := hv4.out
                  have h2 := hTT.out
                  have h3 : 2 ^ k < 2 ^ (i + 65) := by omega
                  have := (Nat.pow_lt_pow_iff_right (by omega : 1 < 2)).1 h3
                  omega
                have e1 := hO3.cell k hk4
                have z1 := hO3.frz k
                obtain ⟨o, ho⟩ : ∃ o, O3 k = o := ⟨_, rfl⟩
                have ho1 : o ≤ 1 := by rw [← ho]; exact hb3.out _ (by omega)
                rw [ho] at e1
                obtain ⟨v, hv⟩ : ∃ v, (o + 0 + 1) % 2 = v := ⟨_, rfl⟩
                obtain ⟨d, hd⟩ : ∃ d, (o + 0 + 1) / 2 = d := ⟨_, rfl⟩
                have hu := val_upd O3 k v 129 (by omega)
                rw [ho] at hu
                have hnx : Hid (val (updn O3 k v) 129 + d * 2 ^ (k + 1) = T) := by
                  show _ = _
                  have h := column (X := 2 ^ k) (o := o) (t := 0) (c := 1) (v := v) (d := d) hv4.out rfl (by omega) hu
                  rw [Nat.pow_succ, h, Nat.mul_zero, Nat.add_zero]
                have hb4 : Hid (∀ j, j < 129 → updn O3 k v j ≤ 1) := updn_le hb3.out (by omega)
                have q1 : ((o : Int) + 1) % 2 = (v : Int) := by omega
                have q2 : ((o : Int) + 1) / 2 = (d : Int) := by omega
                clear ho hv hd hu hv4 cz
                go_wp2_with fail
                go_round
                case rel => exact ⟨k + 1, d, _, by omega, by omega, by omega, by go_num, by go_num, hO3.setn hk4 rfl, hb4, hnx, hbel3.setCell (Nat.le_of_eq HG.out) _⟩
                case measure => simp [intOf]; omega
    · obtain rfl : i = 64 := by omega
      have hv5 : val O 129 = a * b := by rw [hval.out, Nat.mod_eq_of_lt (show a < 2 ^ 64 by omega)]
      have hz : O 128 = 0 := by
        have h1 : val O 129 = val O 128 + O 128 * 2 ^ 128 := rfl
        have h2 : a * b < 2 ^ 128 := by
          have h3 : a * b ≤ 18446744073709551615 * 18446744073709551615 := Nat.mul_le_mul (by omega) (by omega)
          omega
        rw [hv5] at h1
        rcases Nat.eq_zero_or_pos (O 128) with h | h
        · exact h
        · have h4 : 1 * 2 ^ 128 ≤ O 128 * 2 ^ 128 := Nat.mul_le_mul_right _ h
          omega
      have hv6 : val O 128 = a * b := by
        have h1 : val O 129 = val O 128 + O 128 * 2 ^ 128 := rfl
        rw [hv5, hz] at h1; omega
      have HV := Lib.hid hv6
      clear hval hv5 hz hv6
      go_wp2_with fail
      go_ret
      exact ⟨G, O, rfl, hO, fun j hj => hbits.out j (by omega), HV.out, hbel⟩

theorem q_lt {q den r Y N : Nat} (h : q * den + r = Y) (hY : Y ≤ N) (hN : N < 1152921504606846976 * den) : q < 1152921504606846976 := by
  refine Nat.lt_of_not_le fun hh => ?_
  have := Nat.mul_le_mul_right den hh
  omega
set_option maxRecDepth 100000 in
theorem divided_is (a b den q0 l0 : Nat) (ha : a < 18446744073709551616) (hb : b < 18446744073709551616) (hd : 0 < den) (hd2 : den < 9223372036854775808) (hN : a * b < 1152921504606846976 * den) (hq0 : Hid (a * b / den = q0)) (hl0 : Hid (a * b % den = l0)) (W : World) :
    Calls Try.prog 53 #[.int .u64 (a : Int), .int .u64 (b : Int), .int .u64 (den : Int)] W fun e w' => e = .returned (.tuple #[.int .u64 (q0 : Int), .int .u64 (l0 : Int), .bool true]) ∧ Below W.heap.size W w' := by
  have hprod := product_is a b ha hb W
  obtain ⟨N, hNN⟩ : ∃ N, a * b = N := ⟨_, rfl⟩
  unfold ProdOut at hprod
  rw [hNN] at hprod hN hq0 hl0
  have HP := Lib.hid hprod
  have HN := Lib.hid hN
  have hN2 : Hid (N < 2 ^ 128) := by
    show _ < _
    rw [← hNN]
    have h3 : a * b ≤ 18446744073709551615 * 18446744073709551615 := Nat.mul_le_mul (by omega) (by omega)
    omega
  clear hprod hNN hN
  go_enter Try.func53, Try.ntmps53
  go_wp2_with fail
  refine HP.out.mono ?_
  rintro e U ⟨G, O, rfl, hO, hbits, hval, hbel⟩
  have HB := Lib.hid hbits
  have HV := Lib.hid hval
  clear hbits hval HP
  go_wp2_with fail
  go_loop [10, 11, 12, 13] (fun s10 s11 s12 s13 => ∃ j q r : Nat, j ≤ 128 ∧ s13 = .int .i64 ((j : Int) - 1) ∧ s10 = .int .u64 (q : Int) ∧ s11 = .int .u64 (r : Int) ∧ s12 = .bool true ∧ r < den ∧ q < 1152921504606846976 ∧ Hid (q * den + r = N / 2 ^ j)) (fun _ _ _ s13 => (intOf s13 + 1).toNat)
  case atStart => exact ⟨128, 0, 0, by omega, rfl, rfl, rfl, rfl, hd, by omega, by show _ = _; rw [Nat.div_eq_of_lt hN2.out]; simp⟩
  case round =>
    obtain ⟨j, q, r, hj, rfl, rfl, rfl, rfl, hr, hq, hinv⟩ := hrel
    rcases j with _ | j
    · have h1 := hinv.out
      rw [Nat.pow_zero, Nat.div_one] at h1
      have e1 : N / den = q := by rw [← h1, Nat.mul_comm q den, Nat.mul_add_div hd, Nat.div_eq_of_lt hr]; rfl
      have e2 : N % den = r := by rw [← h1, Nat.mul_comm q den, Nat.mul_add_mod]; exact Nat.mod_eq_of_lt hr
      obtain rfl : q0 = q := hq0.out.symm.trans e1
      obtain rfl : l0 = r := hl0.out.symm.trans e2
      clear h1 e1 e2 hq0 hl0 hinv
      go_wp2_with fail
      refine bodyPost_ret (v := .tuple #[.int .u64 (q0 : Int), .int .u64 (l0 : Int), .bool true]) (by simp [results, Try.results53, go_sem]) rfl ⟨rfl, hbel⟩
    · have e0 : (((j + 1 : Nat) : Int) - 1) = (j : Int) := by omega
      rw [e0]
      have jj : (j : Int) < 128 := by omega
      obtain ⟨o, ho⟩ : ∃ o, O j = o := ⟨_, rfl⟩
      have ho1 : o ≤ 1 := by rw [← ho]; exact HB.out j (by omega)
      have e1 := hO.cell j (by omega)
      rw [ho] at e1
      have hoN : N / 2 ^ j % 2 = o := by rw [← ho, ← HV.out]; exact val_bit O 128 j (by omega) HB.out
      have hY := half_pow N j
      rw [hoN] at hY
      have hle : N / 2 ^ j ≤ N := Nat.div_le_self _ _
      have hin := hinv.out
      generalize N / 2 ^ (j + 1) = y at *
      obtain ⟨Y, hYY⟩ : ∃ Y, N / 2 ^ j = Y := ⟨_, rfl⟩
      rw [hYY] at hY hle
      have HYY := Lib.hid hYY
      have hm : 2 * q * den = 2 * (q * den) := Nat.mul_assoc _ _ _
      have hfew : decide ((q : Int) < 2305843009213693952) = true := decide_eq_true (by omega)
      clear ho hoN hinv hYY
      by_cases c : den ≤ 2 * r + o
      · have c' : (den : Int) ≤ 2 * (r : Int) + (o : Int) := by omega
        obtain ⟨r2, hr2⟩ : ∃ r2, 2 * r + o = r2 + den := ⟨2 * r + o - den, by omega⟩
        have hr3 : 2 * (r : Int) + (o : Int) - (den : Int) = (r2 : Int) := by omega
        have hnx : Hid ((2 * q + 1) * den + r2 = N / 2 ^ j) := by show _ = _; rw [HYY.out, Nat.add_mul, hm]; omega
        have hq2 := q_lt (hnx.out.trans HYY.out) hle HN.out
        have hr4 : r2 < den := by omega
        clear hr2 hm hin hY hle
        go_wp2_with fail
        go_round
        case rel => exact ⟨j, 2 * q + 1, r2, by omega, rfl, by go_num, by go_num, rfl, hr4, hq2, hnx⟩
        case measure => simp [intOf]; try omega
      · have c' : ¬ (den : Int) ≤ 2 * (r : Int) + (o : Int) := by omega
        have hnx : Hid (2 * q * den + (2 * r + o) = N / 2 ^ j) := by show _ = _; rw [HYY.out, hm]; omega
        have hq2 := q_lt (hnx.out.trans HYY.out) hle HN.out
        clear hm hin hY hle
        go_wp2_with fail
        go_round
        case rel => exact ⟨j, 2 * q, 2 * r + o, by omega, rfl, by go_num, by go_num, rfl, by omega, hq2, hnx⟩
        case measure => simp [intOf]; try omega

set_option maxRecDepth 100000 in
theorem rounded_half (q l d : Nat) (hl : l < d) (hd : d < 9223372036854775808) (hq : q < 1152921504606846976) (v : Nat) (hv : Hid ((if d - l ≤ l then q + 1 else q) = v)) (W : World) :
    Calls Try.prog 55 #[.int .u64 (q : Int), .int .u64 (l : Int), .int .u64 (d : Int), .bool false, .int .i64 1] W fun e w' => e = .returned (.int .u64 (v : Int)) ∧ W = w' := by
  have h := hv.out
  clear hv
  by_cases c : d - l ≤ l
  · rw [if_pos c] at h
    have c' : (d : Int) - (l : Int) ≤ (l : Int) := by omega
    have HV := Lib.hid h
    clear h c
    go_enter Try.func55, Try.ntmps55
    go_wp2_with fail
    go_ret
    exact ⟨ret_u (by rw [← HV.out]; omega), rfl⟩
  · rw [if_neg c] at h
    have c' : ¬ (d : Int) - (l : Int) ≤ (l : Int) := by omega
    have HV := Lib.hid h
    clear h c
    go_enter Try.func55, Try.ntmps55
    go_wp2_with fail
    go_ret
    exact ⟨ret_u (by rw [← HV.out]), rfl⟩
set_option maxRecDepth 100000 in
theorem abs_nat (n : Nat) (hn : n < 9223372036854775808) (W : World) : Calls Try.prog 54 #[.int .i64 (n : Int)] W fun e w' => e = .returned (.int .u64 (n : Int)) ∧ W = w' := by
  go_enter Try.func54, Try.ntmps54
  go_wp2_with fail
  go_ret
  exact ⟨rfl, rfl⟩
set_option maxRecDepth 100000 in
theorem ref_fits (c : Int) (b : Bool) (hb : Hid (decide (-1125899906842624 ≤ c ∧ c ≤ 1125899906842624) = b)) (W : World) :
    Calls Try.prog 28 #[.int .i64 c] W fun e w' => e = .returned (.bool b) ∧ W = w' := by
  have e := hb.out
  by_cases c1 : c < -1125899906842624
  · obtain rfl : b = false := by rw [← e]; exact decide_eq_false (by omega)
    clear e hb
    go_enter Try.func28, Try.ntmps28
    go_wp2
    go_ret
    exact ⟨rfl, rfl⟩
  by_cases c2 : 1125899906842624 < c
  · obtain rfl : b = false := by rw [← e]; exact decide_eq_false (by omega)
    have c3 : decide (c ≤ 1125899906842624) = false := decide_eq_false (by omega)
    clear e hb
    go_enter Try.func28, Try.ntmps28
    go_wp2
    go_ret
    exact ⟨rfl, rfl⟩
  · obtain rfl : b = true := by rw [← e]; exact decide_eq_true (by omega)
    clear e hb
    go_enter Try.func28, Try.ntmps28
    go_wp2
    go_ret
    exact ⟨rfl, rfl⟩

def IntOut (v k : Int) (W : World) (e : Ending) (w' : World) : Prop := e = .returned (.tuple #[.int .i64 v, .int .i64 k]) ∧ Below W.heap.size W w'
set_option maxRecDepth 100000 in
set_option maxHeartbeats 2000000 in
theorem part_half (c r v : Nat) (hc : c ≤ 1125899906842624) (hr : r ≤ 1000000) (hv : Hid (rnd c r = v)) (W : World) :
    Calls Try.prog 45 #[.int .i64 (c : Int), .int .i64 (r : Int), .int .i64 1000000, .int .i64 1] W (IntOut v 0 W) := by
  obtain ⟨N, hN⟩ : ∃ N, c * r = N := ⟨_, rfl⟩
  obtain ⟨q, hq⟩ : ∃ q, N / 1000000 = q := ⟨_, rfl⟩
  obtain ⟨l, hl⟩ : ∃ l, N % 1000000 = l := ⟨_, rfl⟩
  have hle : N ≤ c * 1000000 := by rw [← hN]; exact Nat.mul_le_mul_left _ hr
  have hfit := Lib.hid fun W => ref_fits (c : Int) true (by show _ = _; exact decide_eq_true (by omega)) W
  have hdiv : Hid (∀ W : World, Calls Try.prog 53 #[.int .u64 (c : Int), .int .u64 (r : Int), .int .u64 1000000] W fun e w' => e = .returned (.tuple #[.int .u64 (q : Int), .int .u64 (l : Int), .bool true]) ∧ Below W.heap.size W w') := fun W => divided_is c r 1000000 q l (by omega) (by omega) (by omega) (by omega) (by rw [hN]; omega) (by show _ = _; rw [hN]; exact hq) (by show _ = _; rw [hN]; exact hl) W
  have hV : (if 1000000 - l ≤ l then q + 1 else q) = v := by
    have h1 := rnd_nat N q l hq hl
    have h2 := hv.out
    unfold rnd at h2
    rw [show (c : Int) * (r : Int) = (N : Int) by rw [← hN]; norm_cast] at h2
    rw [h1] at h2
    split at h2 <;> rename_i h
    · rw [if_pos h]; omega
    · rw [if_neg h]; omega
  have hvc : v ≤ 1125899906842624 := by rw [← hV]; split <;> omega
  have hrd : Hid (∀ W : World, Calls Try.prog 55 #[.int .u64 (q : Int), .int .u64 (l : Int), .int .u64 1000000, .bool false, .int .i64 1] W fun e w' => e = .returned (.int .u64 (v : Int)) ∧ W = w') := fun W => rounded_half q l 1000000 (by omega) (by omega) (by omega) v hV W
  have ha1 := Lib.hid fun W => abs_nat c (by omega) W
  have ha2 := Lib.hid fun W => abs_nat r (by omega) W
  have d1 : decide ((c : Int) < 0) = false := decide_eq_false (by omega)
  have d2 : decide ((r : Int) < 0) = false := decide_eq_false (by omega)
  have d3 : decide (1125899906842624 < (v : Int)) = false := decide_eq_false (by omega)
  have d4 : (v : Int) ≤ 1125899906842624 := by omega
  clear hV hN hq hl hle hv
  go_enter Try.func45, Try.ntmps45
  go_wp2_with (first | (go_at_call 28; refine (hfit.out _).mono ?_; rintro e w1 ⟨rfl, rfl⟩) | (go_at_call_of 54 (Value.int IntKind.i64 (c : Int)); refine (ha1.out _).mono ?_; rintro e w1 ⟨rfl, rfl⟩) | (go_at_call_of 54 (Value.int IntKind.i64 (r : Int)); refine (ha2.out _).mono ?_; rintro e w1 ⟨rfl, rfl⟩))
  refine (hdiv.out _).mono ?_
  rintro e w1 ⟨rfl, hb1⟩
  go_wp2_with (go_at_call 55; refine (hrd.out _).mono ?_; rintro e w1 ⟨rfl, rfl⟩)
  go_ret2
  exact ⟨rfl, hb1⟩
theorem of_half (c r v : Nat) (hc : c ≤ 1125899906842624) (hr : r ≤ 1000000) (hv : Hid (rnd c r = v)) (W : World) :
    Calls Try.prog 30 #[.int .i64 (c : Int), .int .i64 (r : Int), .int .i64 1] W (IntOut v 0 W) := by
  have hfit := Lib.hid fun W => ref_fits (c : Int) true (by show _ = _; exact decide_eq_true (by omega)) W
  have hpt := Lib.hid fun W => part_half c r v hc hr hv W
  unfold IntOut at hpt
  clear hv
  have hrt : Hid (∀ W : World, Calls Try.prog 44 #[.int .i64 (r : Int)] W fun e w' => e = .returned (.bool true) ∧ W = w') := fun W => by
    clear hfit hpt
    have h : decide ((r : Int) ≤ 1000000000) = true := decide_eq_true (by omega)
    go_enter Try.func44, Try.ntmps44
    go_wp2
    go_ret
    exact ⟨rfl, rfl⟩
  go_enter Try.func30, Try.ntmps30
  go_wp2_with (first | (go_at_call 28; refine (hfit.out _).mono ?_; rintro e w1 ⟨rfl, rfl⟩) | (go_at_call 44; refine (hrt.out _).mono ?_; rintro e w1 ⟨rfl, rfl⟩))
  refine (hpt.out _).mono ?_
  rintro e w1 ⟨rfl, hb1⟩
  go_wp2_with fail
  go_ret2
  exact ⟨rfl, hb1⟩
theorem of_big (c : Int) (r : Int) (hc : 1125899906842624 < c) (W : World) :
    Calls Try.prog 30 #[.int .i64 c, .int .i64 r, .int .i64 1] W (IntOut 0 2 W) := by
  have hfit := Lib.hid fun W => ref_fits c false (by show _ = _; exact decide_eq_false (by omega)) W
  go_enter Try.func30, Try.ntmps30
  go_wp2_with (go_at_call 28; refine (hfit.out _).mono ?_; rintro e w1 ⟨rfl, rfl⟩)
  go_ret2
  exact ⟨rfl, Below.refl _ _⟩
end Go.Proofs.Ytjfcbflhnfjcfaa.W
