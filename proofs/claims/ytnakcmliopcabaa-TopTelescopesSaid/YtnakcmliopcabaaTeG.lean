/- Whether a slip has no lines; the net of one slip, told by delta and by the law. -/
import Derived.Test.YtnakcmliopcabaaTeF
namespace Go.Proofs.Ytnakcmliopcabaa.W
open Go.RowKit Go.Proofs.Ytnakcmliopcabaa.M Go.Proofs.Ytnakcmliopcabaa.S
set_option linter.unusedVariables false

theorem zero_is (a : Option Addr) (n cap : Nat) (W : World) : Calls Try.prog 9 #[sv a n cap] W fun e w' => e = .returned (.bool (decide (n = 0))) ∧ Below W.heap.size W w' := by
  have hB := Lib.hid (balloc (Below.refl W.heap.size W) (.cells #[.int .i64 2026, .int .i64 1, .slice a n cap] 29))
  unfold sv
  by_cases h : n = 0
  · subst h
    go_enter Try.func9, Try.ntmps9
    go_wp2_with fail
    go_ret
    exact ⟨rfl, hB.out⟩
  · have h1 : (n == 0) = false := by rw [beq_eq_false_iff_ne]; exact h
    have h2 : ((n : Int) == 0) = false := by rw [beq_eq_false_iff_ne]; omega
    have h3 : decide (n = 0) = false := decide_eq_false h
    rw [h3]
    clear h h3
    go_enter Try.func9, Try.ntmps9
    go_wp2_with fail
    go_ret
    exact ⟨rfl, hB.out⟩

theorem netT_fit {T : Nat → Int} (hT : small BB T) : fit (netT T) := by
  have b1 := tsum_bd hT (by unfold BB; omega) 0 0
  have b2 := tsum_bd hT (by unfold BB; omega) 1 5
  unfold BB at b1 b2
  unfold netT fit
  omega
set_option maxRecDepth 100000 in
theorem nets_one (T : Nat → Int) (hT : small BB T) (a : Option Addr) (cap : Nat) (b0 o0 cap0 : Nat) (W : World) (hl : Lst 3 W a (ln T) (lcs T)) (hlt : b0 < W.heap.size) (h0 : W.cell? ⟨b0, o0, none⟩ = some (.int .i64 2026)) (h1 : W.cell? ⟨b0, o0 + 1, none⟩ = some (.int .i64 1)) (h2 : W.cell? ⟨b0, o0 + 2, none⟩ = some (.slice a (ln T) cap)) :
    Calls Try.prog 8 #[.slice (some ⟨b0, o0, none⟩) 1 cap0] W fun e w' => e = .returned (.tuple #[.int .i64 (netT T), .bool true]) ∧ Below W.heap.size W w' := by
  have HS := Lib.hid (fun (w : World) h => sums_is T hT a cap w h)
  have HL := Lib.hid hl
  have hf := netT_fit hT
  unfold fit at hf
  clear hl hT
  obtain ⟨nn, hnn⟩ : ∃ v, netT T = v := ⟨_, rfl⟩
  rw [hnn] at HS hf ⊢
  clear hnn
  have wn : IntKind.i64.wrap nn = nn := IntWalk.i64_in _ (by omega)
  unfold sv at *
  go_enter Try.func8, Try.ntmps8
  go_wp2_with fail
  go_loopw [4, 14] (fun s4 s14 wx => (s14 = .int .i64 0 ∧ s4 = .int .i64 0 ∧ wx = W) ∨ (s14 = .int .i64 1 ∧ s4 = .int .i64 nn ∧ Hid (Below W.heap.size W wx))) (fun _ s14 _ => 2 - (intOf s14).toNat)
  case atStart => exact .inl ⟨rfl, rfl, rfl⟩
  case round =>
    rcases hrel with ⟨rfl, rfl, rfl⟩ | ⟨rfl, rfl, hfin⟩
    · have hB := Lib.hid (balloc (Below.refl wr.heap.size wr) (.cells #[.int .i64 2026, .int .i64 1, .slice a (ln T) cap] 29))
      go_wp2_with fail
      refine (HS.out _ (HL.out.step hB.out)).mono ?_
      rintro e w1 ⟨⟨g, h, f, rfl⟩, hb1⟩
      have hB1 := Lib.hid (bstep hB.out hb1)
      clear hb1
      go_wp2_with fail
      go_roundw
      case rel => exact .inr ⟨by go_num, rfl, hB1.out⟩
      case measure => simp [intOf]
    · go_wp2_with fail
      go_ret2
      exact ⟨rfl, hfin.out⟩
set_option maxRecDepth 100000 in
theorem net_one (T : Nat → Int) (hT : small BB T) (a : Option Addr) (cap : Nat) (b0 o0 cap0 : Nat) (W : World) (hl : Lst 3 W a (ln T) (lcs T)) (hlt : b0 < W.heap.size) (h0 : W.cell? ⟨b0, o0, none⟩ = some (.int .i64 2026)) (h1 : W.cell? ⟨b0, o0 + 1, none⟩ = some (.int .i64 1)) (h2 : W.cell? ⟨b0, o0 + 2, none⟩ = some (.slice a (ln T) cap)) :
    Calls Try.prog 6 #[.slice (some ⟨b0, o0, none⟩) 1 cap0] W fun e w' => e = .returned (.tuple #[.int .i64 (netT T), .int .i64 0]) ∧ Below W.heap.size W w' := by
  have HS := Lib.hid (fun (w : World) h => sums_is T hT a cap w h)
  have HN := Lib.hid (fun w => none_not a (ln T) cap w)
  have HL := Lib.hid hl
  have hf := netT_fit hT
  have HA := Lib.hid (fun w => add_is 0 (netT T) (by unfold fit; omega) hf (by rw [Int.zero_add]; exact hf) w)
  rw [Int.zero_add] at HA
  clear hl hT hf
  obtain ⟨nn, hnn⟩ : ∃ v, netT T = v := ⟨_, rfl⟩
  rw [hnn] at HS HA ⊢
  clear hnn
  unfold sv at *
  go_enter Try.func6, Try.ntmps6
  go_wp2_with fail
  go_loopw [4, 14] (fun s4 s14 wx => (s14 = .int .i64 0 ∧ s4 = .int .i64 0 ∧ wx = W) ∨ (s14 = .int .i64 1 ∧ s4 = .int .i64 nn ∧ Hid (Below W.heap.size W wx))) (fun _ s14 _ => 2 - (intOf s14).toNat)
  case atStart => exact .inl ⟨rfl, rfl, rfl⟩
  case round =>
    rcases hrel with ⟨rfl, rfl, rfl⟩ | ⟨rfl, rfl, hfin⟩
    · have hB := Lib.hid (balloc (Below.refl wr.heap.size wr) (.cells #[.int .i64 2026, .int .i64 1, .slice a (ln T) cap] 29))
      have g0 : (wr.alloc (.cells #[.int .i64 2026, .int .i64 1, .slice a (ln T) cap] 29)).cell? ⟨wr.heap.size, 0, none⟩ = some (.int .i64 2026) := by simp
      have g1 : (wr.alloc (.cells #[.int .i64 2026, .int .i64 1, .slice a (ln T) cap] 29)).cell? ⟨wr.heap.size, 1, none⟩ = some (.int .i64 1) := by simp
      have g2 : (wr.alloc (.cells #[.int .i64 2026, .int .i64 1, .slice a (ln T) cap] 29)).cell? ⟨wr.heap.size, 2, none⟩ = some (.slice a (ln T) cap) := by simp
      have gs : wr.heap.size < (wr.alloc (.cells #[.int .i64 2026, .int .i64 1, .slice a (ln T) cap] 29)).heap.size := by simp
      have HG := Lib.hid (And.intro g0 (And.intro g1 (And.intro g2 gs)))
      clear g0 g1 g2 gs
      go_wp2_with fail
      refine (HN.out _).mono ?_
      rintro e w0 ⟨rfl, hb0⟩
      have g0 := bc hb0 HG.out.2.2.2 HG.out.1
      have g1 := bc hb0 HG.out.2.2.2 HG.out.2.1
      have g2 := bc hb0 HG.out.2.2.2 HG.out.2.2.1
      have hB0 := Lib.hid (bstep hB.out hb0)
      clear hb0 h0 h1 h2
      go_wp2_with fail
      refine (HS.out _ (HL.out.step hB0.out)).mono ?_
      rintro e w1 ⟨⟨g, h, f, rfl⟩, hb1⟩
      have hB1 := Lib.hid (bstep hB0.out hb1)
      clear hb1
      go_wp2_with fail
      refine (HA.out _).mono ?_
      rintro e w2 ⟨rfl, rfl⟩
      go_wp2_with fail
      go_roundw
      case rel => exact .inr ⟨by go_num, rfl, hB1.out⟩
      case measure => simp [intOf]
    · go_wp2_with fail
      go_ret2
      exact ⟨rfl, hfin.out⟩
end Go.Proofs.Ytnakcmliopcabaa.W
