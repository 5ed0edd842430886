/- The walk of math/bits.Div64, by any divisor below 2^63. -/
import Derived.Test.YtbmlingbohdpkaaBits
import Derived.Test.YtbmlingbohdpkaaDivMath
import Derived.Deep.CutBlock
import Derived.Deep.Light
import Derived.Deep.DeepCutAuto
namespace Go.Proofs.Ytbmlingbohdpkaa.B
open Go.RowKit Go.Proofs.Ytbmlingbohdpkaa.M
set_option linter.unusedVariables false

theorem tab_size : (Lib.len8tab.size : Int) = 256 := by
  have : Lib.len8tab.size = 256 := Lib.len8tab_size
  omega
theorem wrap_add (k a b : Nat) (hk : k ≤ 56) (ha : a ≤ 8) (hb : b = k + a) : wrap64 ((k : Int) + wrap64 (a : Int)) = (b : Int) := by
  unfold wrap64
  omega
theorem wrap_wrap (a : Nat) (ha : a ≤ 8) : wrap64 (wrap64 (a : Int)) = (a : Int) := by
  unfold wrap64
  omega
theorem wrap_one (a : Nat) (ha : a ≤ 8) : wrap64 (a : Int) = (a : Int) := by
  unfold wrap64
  omega
theorem tab_get (y : Int) (h : y.toNat < Lib.len8tab.size) : ((Lib.len8tab[y.toNat]'h).toNat : Int) = Lib.len8 y := by
  unfold Lib.len8
  rw [getElem?_pos Lib.len8tab y.toNat h]
  rfl

set_option maxHeartbeats 32000000 in
set_option maxRecDepth 1000000 in
theorem len64 (x : Int) (w : World) (h0 : 0 ≤ x) (h1 : x ≤ 18446744073709551615) :
    Calls Try.prog 33 #[.int .u64 x] w fun e w' => e = .returned (.int .i64 (Lib.bitLen x.toNat)) ∧ w' = w := by
  go_enter Try.func33, Try.ntmps33
  go_wp2
  all_goals first
    | (go_ret; refine ⟨congrArg Ending.returned (congrArg (Value.int IntKind.i64) ?_), rfl⟩; go_light)
    | (exfalso
       go_light
       have hs := tab_size
       omega)
  all_goals first
    | (rw [tab_get (x / 4294967296 / 65536 / 256) _, Lib.len8_of (x / 4294967296 / 65536 / 256) (by omega) (by omega)]
       have e : (x / 4294967296 / 65536 / 256).toNat = x.toNat / 72057594037927936 := by omega
       have l := Lib.bitLen_le8' (x / 4294967296 / 65536 / 256) (by omega) (by omega)
       have s := Lib.bitLen_shift56 x.toNat (by omega) (by omega)
       rw [e] at l ⊢
       exact wrap_add 56 _ _ (by decide) l s)
    | (rw [tab_get (x / 4294967296 / 65536) _, Lib.len8_of (x / 4294967296 / 65536) (by omega) (by omega)]
       have e : (x / 4294967296 / 65536).toNat = x.toNat / 281474976710656 := by omega
       have l := Lib.bitLen_le8' (x / 4294967296 / 65536) (by omega) (by omega)
       have s := Lib.bitLen_shift48 x.toNat (by omega) (by omega)
       rw [e] at l ⊢
       exact wrap_add 48 _ _ (by decide) l s)
    | (rw [tab_get (x / 4294967296 / 256) _, Lib.len8_of (x / 4294967296 / 256) (by omega) (by omega)]
       have e : (x / 4294967296 / 256).toNat = x.toNat / 1099511627776 := by omega
       have l := Lib.bitLen_le8' (x / 4294967296 / 256) (by omega) (by omega)
       have s := Lib.bitLen_shift40 x.toNat (by omega) (by omega)
       rw [e] at l ⊢
       exact wrap_add 40 _ _ (by decide) l s)
    | (rw [tab_get (x / 4294967296) _, Lib.len8_of (x / 4294967296) (by omega) (by omega)]
       have e : (x / 4294967296).toNat = x.toNat / 4294967296 := by omega
       have l := Lib.bitLen_le8' (x / 4294967296) (by omega) (by omega)
       have s := Lib.bitLen_shift32 x.toNat (by omega) (by omega)
       rw [e] at l ⊢
       exact wrap_add 32 _ _ (by decide) l s)
    | (rw [tab_get (x / 65536 / 256) _, Lib.len8_of (x / 65536 / 256) (by omega) (by omega)]
       have e : (x / 65536 / 256).toNat = x.toNat / 16777216 := by omega
       have l := Lib.bitLen_le8' (x / 65536 / 256) (by omega) (by omega)
       have s := Lib.bitLen_shift24 x.toNat (by omega) (by omega)
       rw [e] at l ⊢
       exact wrap_add 24 _ _ (by decide) l s)
    | (rw [tab_get (x / 65536) _, Lib.len8_of (x / 65536) (by omega) (by omega)]
       have e : (x / 65536).toNat = x.toNat / 65536 := by omega
       have l := Lib.bitLen_le8' (x / 65536) (by omega) (by omega)
       have s := Lib.bitLen_shift16 x.toNat (by omega) (by omega)
       rw [e] at l ⊢
       exact wrap_add 16 _ _ (by decide) l s)
    | (rw [tab_get (x / 256) _, Lib.len8_of (x / 256) (by omega) (by omega)]
       have e : (x / 256).toNat = x.toNat / 256 := by omega
       have l := Lib.bitLen_le8' (x / 256) (by omega) (by omega)
       have s := Lib.bitLen_shift8 x.toNat (by omega) (by omega)
       rw [e] at l ⊢
       exact wrap_add 8 _ _ (by decide) l s)
    | (rw [tab_get x _, Lib.len8_of x (by omega) (by omega)]
       have l := Lib.bitLen_le8' x (by omega) (by omega)
       first | exact wrap_wrap _ l | exact wrap_add 0 _ _ (by decide) l (by omega) | exact wrap_one _ l)

theorem bitLen_bounds : ∀ (f x : Nat), 0 < x → x < 2 ^ f → 2 ^ Lib.bitLenAux f x ≤ 2 * x ∧ x < 2 ^ Lib.bitLenAux f x
  | 0, x, h0, h1 => by simp at h1; omega
  | f + 1, x, h0, h1 => by
    rw [Lib.bitLenAux, if_neg (by omega), Nat.add_comm, Nat.pow_succ]
    by_cases c : x = 1
    · subst c
      cases f <;> simp [Lib.bitLenAux]
    · have := bitLen_bounds f (x / 2) (by omega) (by rw [Nat.pow_succ] at h1; omega)
      generalize 2 ^ Lib.bitLenAux f (x / 2) = z at *
      omega

/-- How far a divisor is shifted. -/
structure Lz (y s p m : Nat) : Prop where
  s0 : 1 ≤ s
  s1 : s ≤ 63
  ps : 2 ^ s = p
  ms : 2 ^ (64 - s) = m
  pm : p * m = 18446744073709551616
  p0 : 2 ≤ p
  m0 : 2 ≤ m
  lo : 9223372036854775808 ≤ y * p
  hi : y * p < 18446744073709551616

theorem lead64 (y : Nat) (h0 : 0 < y) (h1 : y < 9223372036854775808) : ∃ s p m : Nat, Lz y s p m ∧ ∀ w, Calls Try.prog 32 #[.int .u64 (y : Int)] w fun e w' => e = .returned (.int .i64 (s : Int)) ∧ w' = w := by
  obtain ⟨b1, b2⟩ := bitLen_bounds 64 y h0 (by omega)
  have hk : Lib.bitLen y ≤ 63 := Lib.bitLen_le y 63 (by omega) (by omega)
  have e0 : Lib.bitLenAux 64 y = Lib.bitLen y := rfl
  rw [e0] at b1 b2
  have k0 : 0 < Lib.bitLen y := by
    rcases Nat.eq_zero_or_pos (Lib.bitLen y) with z | z
    · rw [z] at b2; omega
    · exact z
  have e1 : (2 : Nat) ^ Lib.bitLen y * 2 ^ (64 - Lib.bitLen y) = 18446744073709551616 := by
    rw [← Nat.pow_add, show Lib.bitLen y + (64 - Lib.bitLen y) = 64 by omega]
  have e2 : (64 - (64 - Lib.bitLen y)) = Lib.bitLen y := by omega
  have p0 : 2 ≤ 2 ^ (64 - Lib.bitLen y) := by
    have := Nat.pow_le_pow_right (n := 2) (by omega) (show 1 ≤ 64 - Lib.bitLen y by omega)
    omega
  have m0 : 2 ≤ 2 ^ Lib.bitLen y := by
    have := Nat.pow_le_pow_right (n := 2) (by omega) (show 1 ≤ Lib.bitLen y by omega)
    omega
  have l1 : 2 ^ Lib.bitLen y * 2 ^ (64 - Lib.bitLen y) ≤ 2 * y * 2 ^ (64 - Lib.bitLen y) := Nat.mul_le_mul_right _ b1
  have l2 : y * 2 ^ (64 - Lib.bitLen y) < 2 ^ Lib.bitLen y * 2 ^ (64 - Lib.bitLen y) := Nat.mul_lt_mul_of_pos_right b2 (by omega)
  refine ⟨64 - Lib.bitLen y, 2 ^ (64 - Lib.bitLen y), 2 ^ Lib.bitLen y, ⟨by omega, by omega, rfl, by rw [e2], by rw [Nat.mul_comm]; exact e1, p0, m0, ?_, by omega⟩, fun w => ?_⟩
  · rw [Nat.mul_assoc] at l1; omega
  · have e8 : (64 - (Lib.bitLen y : Int) + 9223372036854775808) % 18446744073709551616 - 9223372036854775808 = 64 - (Lib.bitLen y : Int) := by omega
    have hc : ((64 - Lib.bitLen y : Nat) : Int) = 64 - (Lib.bitLen y : Int) := by omega
    rw [hc]
    have hL := fun w => len64 (y : Int) w (by omega) (by omega)
    rw [show ((y : Int).toNat) = y from Int.toNat_natCast y] at hL
    generalize Lib.bitLen y = k at *
    clear b1 b2 e1 p0 m0 l1 l2 hc
    go_enter Try.func32, Try.ntmps32
    go_wp2_with (go_at_call 33; refine (hL _).mono ?_; rintro e w' ⟨rfl, rfl⟩)
    go_ret
    refine ⟨?_, rfl⟩
    rw [← e8]
    rfl

theorem mod_sub (A C D : Nat) (h : A = C + D) (hD : D < 18446744073709551616) (a c : Int) (ha : a = ((A % 18446744073709551616 : Nat) : Int)) (hc : c = ((C % 18446744073709551616 : Nat) : Int)) : IntKind.u64.wrap (a - c) = (D : Int) := by
  rw [IntKind.wrap_u64]; omega
end Go.Proofs.Ytbmlingbohdpkaa.B
