/- attach.Sort's comparison: which order is served ahead. -/
import Derived.Test.YtjfcbflhnfjcfaaAtWC
import Derived.Test.YtjfcbflhnfjcfaaAtS
import Derived.Deep.RegionHeld2
namespace Go.Proofs.Ytjfcbflhnfjcfaa.W
open Go.RowKit Go.Proofs.Ytjfcbflhnfjcfaa.M Go.Proofs.Ytjfcbflhnfjcfaa.B Go.Proofs.Ytjfcbflhnfjcfaa.S
set_option linter.unusedVariables false

def cmpI (x y : Int) : Int := if x < y then -1 else if y < x then 1 else 0
theorem nanI_is (x : Int) (W : World) : Calls Try.prog 47 #[.int .i64 x] W fun e w' => e = .returned (.bool false) ∧ W = w' := by
  go_enter Try.func47, Try.ntmps47
  go_wp2
  go_ret
  exact ⟨by simp, rfl⟩
theorem nanS_is (x : ByteArray) (W : World) : Calls Try.prog 48 #[.string x] W fun e w' => e = .returned (.bool false) ∧ W = w' := by
  go_enter Try.func48, Try.ntmps48
  go_wp2
  go_ret
  exact ⟨by simp, rfl⟩
theorem cmpI_is (x y : Int) (W : World) : Calls Try.prog 37 #[.int .i64 x, .int .i64 y] W fun e w' => e = .returned (.int .i64 (cmpI x y)) ∧ W = w' := by
  unfold cmpI
  by_cases c1 : x < y
  · rw [if_pos c1]
    go_enter Try.func37, Try.ntmps37
    go_wp2_with (go_at_call 47; refine (nanI_is _ _).mono ?_; rintro e w' ⟨rfl, rfl⟩)
    go_ret
    exact ⟨rfl, rfl⟩
  · rw [if_neg c1]
    by_cases c2 : y < x
    · rw [if_pos c2]
      go_enter Try.func37, Try.ntmps37
      go_wp2_with (go_at_call 47; refine (nanI_is _ _).mono ?_; rintro e w' ⟨rfl, rfl⟩)
      go_ret
      exact ⟨rfl, rfl⟩
    · rw [if_neg c2]
      go_enter Try.func37, Try.ntmps37
      go_wp2_with (go_at_call 47; refine (nanI_is _ _).mono ?_; rintro e w' ⟨rfl, rfl⟩)
      go_ret
      exact ⟨rfl, rfl⟩
theorem cmpS_is (x y : ByteArray) (W : World) : Calls Try.prog 38 #[.string x, .string y] W fun e w' => e = .returned (.int .i64 (cmpS x y)) ∧ W = w' := by
  unfold cmpS
  cases c1 : Op.bytesLess x.toList y.toList with
  | true =>
    rw [if_pos rfl]
    go_enter Try.func38, Try.ntmps38
    go_wp2_with (go_at_call 48; refine (nanS_is _ _).mono ?_; rintro e w' ⟨rfl, rfl⟩)
    go_ret
    exact ⟨rfl, rfl⟩
  | false =>
    rw [if_neg (by simp)]
    cases c2 : Op.bytesLess y.toList x.toList with
    | true =>
      rw [if_pos rfl]
      have c3 : (x.toList == y.toList) = false := by
        rw [beq_eq_false_iff_ne]; intro h; rw [h, bl_irrefl] at c2; cases c2
      clear c2
      go_enter Try.func38, Try.ntmps38
      go_wp2_with (go_at_call 48; refine (nanS_is _ _).mono ?_; rintro e w' ⟨rfl, rfl⟩)
      go_ret
      exact ⟨rfl, rfl⟩
    | false =>
      rw [if_neg (by simp)]
      have c3 : (x.toList == y.toList) = true := by rw [beq_iff_eq]; exact bl_total _ _ c1 c2
      clear c2
      go_enter Try.func38, Try.ntmps38
      go_wp2_with (go_at_call 48; refine (nanS_is _ _).mono ?_; rintro e w' ⟨rfl, rfl⟩)
      go_ret
      exact ⟨rfl, rfl⟩
theorem or_is (b : Nat) (c1 c2 : Int) (W : World) (d0 : W.cell? ⟨b, 0, none⟩ = some (.int .i64 c1)) (d1 : W.cell? ⟨b, 1, none⟩ = some (.int .i64 c2)) :
    Calls Try.prog 36 #[.slice (some ⟨b, 0, none⟩) 2 2] W fun e w' => e = .returned (.int .i64 (if c1 ≠ 0 then c1 else c2)) ∧ W = w' := by
  by_cases h1 : c1 = 0
  · subst h1
    rw [if_neg (by simp)]
    by_cases h2 : c2 = 0
    · subst h2
      go_enter Try.func36, Try.ntmps36
      go_wp2_with fail
      go_loop [8] (fun s8 => ∃ j : Nat, j ≤ 2 ∧ s8 = .int .i64 j) (fun i => 2 - (intOf i).toNat)
      case atStart => exact ⟨0, by omega, rfl⟩
      case round =>
        obtain ⟨j, hj, rfl⟩ := hrel
        rcases (by omega : j = 0 ∨ j = 1 ∨ j = 2) with rfl | rfl | rfl
        · go_wp2_with fail
          go_round
          case rel => exact ⟨1, by omega, by go_num⟩
          case measure => simp [intOf]
        · go_wp2_with fail
          go_round
          case rel => exact ⟨2, by omega, by go_num⟩
          case measure => simp [intOf]
        · go_wp2_with fail
          go_ret
          exact ⟨rfl, rfl⟩
    · have n2 : (c2 != 0) = true := by rw [bne_iff_ne]; exact h2
      go_enter Try.func36, Try.ntmps36
      go_wp2_with fail
      go_loop [8] (fun s8 => ∃ j : Nat, j ≤ 1 ∧ s8 = .int .i64 j) (fun i => 2 - (intOf i).toNat)
      case atStart => exact ⟨0, by omega, rfl⟩
      case round =>
        obtain ⟨j, hj, rfl⟩ := hrel
        rcases (by omega : j = 0 ∨ j = 1) with rfl | rfl
        · go_wp2_with fail
          go_round
          case rel => exact ⟨1, by omega, by go_num⟩
          case measure => simp [intOf]
        · go_wp2_with fail
          go_ret
          exact ⟨rfl, rfl⟩
  · rw [if_pos h1]
    have n1 : (c1 != 0) = true := by rw [bne_iff_ne]; exact h1
    go_enter Try.func36, Try.ntmps36
    go_wp2_with fail
    go_loop [8] (fun s8 => s8 = .int .i64 0) (fun i => 2 - (intOf i).toNat)
    case atStart => rfl
    case round =>
      obtain rfl := hrel
      go_wp2_with fail
      go_ret
      exact ⟨rfl, rfl⟩
theorem cmpO_is (x y : Ord) : (if cmpI x.rank y.rank ≠ 0 then cmpI x.rank y.rank else cmpS x.code y.code) = cmpO x y := by
  unfold cmpI cmpO
  by_cases c1 : x.rank < y.rank
  · simp [c1]
  · by_cases c2 : y.rank < x.rank
    · simp [c1, c2]
    · simp [c1, c2]
end Go.Proofs.Ytjfcbflhnfjcfaa.W
