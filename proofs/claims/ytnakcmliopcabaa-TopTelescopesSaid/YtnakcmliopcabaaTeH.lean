/- That no line is too great: ContainsFunc with delta's function. -/
import Derived.Test.YtnakcmliopcabaaTeB
namespace Go.Proofs.Ytnakcmliopcabaa.W
open Go.RowKit Go.Proofs.Ytnakcmliopcabaa.M Go.Proofs.Ytnakcmliopcabaa.S
set_option linter.unusedVariables false

theorem of1_is (i : Nat) (c : Int) (hc : fit c) (W : World) : Calls Try.prog 26 #[lv i c] W fun e w' => e = .returned (.bool false) ∧ Below W.heap.size W w' := by
  have hB := Lib.hid (balloc (Below.refl W.heap.size W) (.cells #[.int .i64 (prt i), .string (cod i), .int .i64 c] 45))
  have HF := Lib.hid (fun w => fits_is c hc w)
  unfold lv
  clear hc
  go_enter Try.func26, Try.ntmps26
  go_wp2_with fail
  refine (HF.out _).mono ?_
  rintro e w' ⟨rfl, rfl⟩
  go_wp2_with fail
  go_ret
  exact ⟨rfl, hB.out⟩
set_option maxRecDepth 100000 in
theorem index_none (T : Nat → Int) (hT : ∀ i, i < 28 → fit (T i)) (a : Option Addr) (cap : Nat) (W : World) (hl : Lst 3 W a (ln T) (lcs T)) :
    Calls Try.prog 40 #[.slice a (ln T) cap, .func (.func 26) #[] #[]] W fun e w' => e = .returned (.int .i64 (-1)) ∧ Below W.heap.size W w' := by
  have HL := Lib.hid hl
  have HT := Lib.hid hT
  have HIN := Lib.hid (fun q h => at_in (T := T) (q := q) h)
  have HLI := Lib.hid (fun (w : World) (h : Lst 3 w a (ln T) (lcs T)) q hq => lst_line h (q := q) hq)
  have hn28 := ln_le T
  obtain ⟨N, hN⟩ : ∃ N, ln T = N := ⟨_, rfl⟩
  rw [hN] at HL HIN HLI hn28 ⊢
  clear hl hT hN
  go_enter Try.func40, Try.ntmps40
  go_wp2_with fail
  go_loopw [8] (fun s8 wx => ∃ q : Nat, q ≤ N ∧ s8 = .int .i64 q ∧ Hid (Below W.heap.size W wx)) (fun s8 _ => N - (intOf s8).toNat)
  case atStart => exact ⟨0, Nat.zero_le _, rfl, Below.refl _ _⟩
  case round =>
    obtain ⟨q, hq, rfl, hbw⟩ := hrel
    by_cases cq : q < N
    · have cq' : (q : Int) < (N : Int) := by omega
      obtain ⟨b1, o1, rfl, hlt1, d0, d1, d2⟩ := HLI.out wr (HL.out.step hbw.out) q cq
      have HO := Lib.hid (fun w => of1_is (at_ T q) (T (at_ T q)) (HT.out _ (HIN.out q cq).1) w)
      have wq : IntKind.i64.wrap ((q : Int) + 1) = (q : Int) + 1 := IntWalk.i64_in _ (by omega)
      unfold lv at HO
      generalize prt (at_ T q) = p at *
      generalize cod (at_ T q) = s at *
      generalize T (at_ T q) = c at *
      go_wp2_with fail
      refine (HO.out _).mono ?_
      rintro e w2 ⟨rfl, hb2⟩
      have hz := Lib.hid (bstep hbw.out hb2)
      clear hb2
      go_wp2_with fail
      go_roundw
      case rel => exact ⟨q + 1, by omega, by go_num, hz.out⟩
      case measure => simp [intOf]; omega
    · obtain rfl : q = N := by omega
      have cq' : ¬ (q : Int) < (q : Int) := by omega
      go_wp2_with fail
      go_ret
      exact ⟨rfl, hbw.out⟩
theorem contains_none (T : Nat → Int) (hT : ∀ i, i < 28 → fit (T i)) (a : Option Addr) (cap : Nat) (W : World) (hl : Lst 3 W a (ln T) (lcs T)) :
    Calls Try.prog 25 #[.slice a (ln T) cap, .func (.func 26) #[] #[]] W fun e w' => e = .returned (.bool false) ∧ Below W.heap.size W w' := by
  have hi := Lib.hid (index_none T hT a cap W hl)
  clear hT hl
  go_enter Try.func25, Try.ntmps25
  go_wp2_with fail
  refine hi.out.mono ?_
  rintro e w' ⟨rfl, hb⟩
  go_wp2_with fail
  go_ret
  exact ⟨rfl, hb⟩
end Go.Proofs.Ytnakcmliopcabaa.W
