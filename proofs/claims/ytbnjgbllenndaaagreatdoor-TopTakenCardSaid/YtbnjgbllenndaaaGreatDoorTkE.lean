/- The store: no fact of an ID that is none; what is wrong with a Cancel; how many facts. -/
import Derived.Test.YtbnjgbllenndaaaGreatDoorTkM
import Derived.Test.YtbnjgbllenndaaaGreatDoorTkB
import Derived.Deep.DeepCutAuto
namespace Go.Proofs.YtbnjgbllenndaaaGreatDoor.W
open Go.RowKit Go.Proofs.YtbnjgbllenndaaaGreatDoor.M Go.Proofs.YtbnjgbllenndaaaGreatDoor.S
set_option linter.unusedVariables false

def st (a : Option Addr) (n cap : Nat) : Value := .agg #[.slice a n cap]
theorem lst_fact {F : Nat → Fc} {W : World} {a : Option Addr} {n : Nat} (hl : Lst 8 W a n (fun j => fcl (F j))) {q : Nat} (hq : q < n) : ∃ b o, a = some ⟨b, o, none⟩ ∧ b < W.heap.size ∧ W.cell? ⟨b, o + q * 8, none⟩ = some (.int .u32 0) ∧ W.cell? ⟨b, o + q * 8 + 1, none⟩ = some (.int .u32 (F q).per) ∧ W.cell? ⟨b, o + q * 8 + 2, none⟩ = some (.int .i64 (F q).kind) ∧ W.cell? ⟨b, o + q * 8 + 3, none⟩ = some (.int .i64 (F q).fr) ∧ W.cell? ⟨b, o + q * 8 + 4, none⟩ = some (.int .i64 (F q).en) ∧ W.cell? ⟨b, o + q * 8 + 5, none⟩ = some (.string ⟨#[]⟩) ∧ W.cell? ⟨b, o + q * 8 + 6, none⟩ = some (.int .i64 (F q).num) ∧ W.cell? ⟨b, o + q * 8 + 7, none⟩ = some (.string ⟨#[]⟩) := by
  obtain ⟨b, o, rfl, hlt, hc⟩ := hl.at_ hq
  exact ⟨b, o, rfl, hlt, hc 0 _ rfl, hc 1 _ rfl, hc 2 _ rfl, hc 3 _ rfl, hc 4 _ rfl, hc 5 _ rfl, hc 6 _ rfl, hc 7 _ rfl⟩
theorem place_is (a : Option Addr) (n cap : Nat) (W : World) : Calls Tryz.prog 14 #[st a n cap, .int .u32 0] W fun e w' => e = .returned (.int .i64 (-1)) ∧ Below W.heap.size W w' := by
  have hB := Lib.hid (balloc (balloc (Below.refl W.heap.size W) (.cells #[.slice a n cap] 30)) (.cells #[.int .u32 0] 23))
  unfold st
  go_enter Tryz.func14, Tryz.ntmps14
  go_wp2_with fail
  go_ret
  exact ⟨rfl, hB.out⟩
theorem len_is (a : Option Addr) (n cap : Nat) (W : World) : Calls Tryz.prog 11 #[st a n cap] W fun e w' => e = .returned (.int .i64 n) ∧ Below W.heap.size W w' := by
  have hB := Lib.hid (balloc (Below.refl W.heap.size W) (.cells #[.slice a n cap] 30))
  unfold st
  go_enter Tryz.func11, Tryz.ntmps11
  go_wp2_with fail
  go_ret
  exact ⟨rfl, hB.out⟩
theorem taken_is (F : Nat → Fc) (n : Nat) (hF : ∀ j, j < n → (F j).kind = 2) (a : Option Addr) (cap : Nat) (m : Int) (W : World) (hl : Lst 8 W a n (fun j => fcl (F j))) (hn : n ≤ 100) : Calls Tryz.prog 26 #[.slice a n cap, .int .i64 m] W fun e w' => e = .returned (.bool false) ∧ Below W.heap.size W w' := by
  have HL := Lib.hid hl
  have HF := Lib.hid hF
  clear hl hF
  go_enter Tryz.func26, Tryz.ntmps26
  go_wp2_with fail
  go_loopw [9] (fun s9 wx => ∃ q : Nat, q ≤ n ∧ s9 = .int .i64 q ∧ Hid (Below W.heap.size W wx)) (fun s9 _ => n - (intOf s9).toNat)
  case atStart => exact ⟨0, Nat.zero_le _, rfl, Below.refl _ _⟩
  case round =>
    obtain ⟨q, hq, rfl, hbw⟩ := hrel
    by_cases cq : q < n
    · have cq' : (q : Int) < (n : Int) := by omega
      have wq : IntKind.i64.wrap ((q : Int) + 1) = (q : Int) + 1 := IntWalk.i64_in _ (by omega)
      obtain ⟨b, o, rfl, hlt, d0, d1, d2, d3, d4, d5, d6, d7⟩ := lst_fact (HL.out.step hbw.out) cq
      have hk := HF.out q cq
      rw [hk] at d2
      clear hk
      generalize F q = x at *
      obtain ⟨per, kind, fr, en, num⟩ := x
      simp only at d1 d3 d4 d6
      have hB := Lib.hid (balloc hbw.out (.cells #[.int .u32 0, .int .u32 per, .int .i64 2, .int .i64 fr, .int .i64 en, .string ⟨#[]⟩, .int .i64 num, .string ⟨#[]⟩] 38))
      go_wp2_with fail
      go_roundw
      case rel => exact ⟨q + 1, by omega, by go_num, hB.out⟩
      case measure => simp [intOf]; omega
    · obtain rfl : q = n := by omega
      have cq' : ¬ (q : Int) < (q : Int) := by omega
      go_wp2_with fail
      go_ret
      exact ⟨rfl, hbw.out⟩
theorem cancel_sal (x : Fc) (hx : x.kind = 2) (a : Option Addr) (n cap : Nat) (W : World) : Calls Tryz.prog 15 #[st a n cap, fv x] W fun e w' => e = .returned (.int .i64 0) ∧ Below W.heap.size W w' := by
  obtain ⟨per, kind, fr, en, num⟩ := x
  simp only at hx
  subst hx
  have hB := Lib.hid (balloc (balloc (Below.refl W.heap.size W) (.cells #[.slice a n cap] 30)) (.cells #[.int .u32 0, .int .u32 per, .int .i64 2, .int .i64 fr, .int .i64 en, .string ⟨#[]⟩, .int .i64 num, .string ⟨#[]⟩] 38))
  unfold st fv
  go_enter Tryz.func15, Tryz.ntmps15
  go_wp2_with fail
  go_ret
  exact ⟨rfl, hB.out⟩
set_option maxRecDepth 100000 in
theorem cancel_can (F : Nat → Fc) (n : Nat) (hF : ∀ j, j < n → (F j).kind = 2) (k : Nat) (hk : k < n) (a : Option Addr) (cap : Nat) (W : World) (hl : Lst 8 W a n (fun j => fcl (F j))) (hn : n ≤ 100) : Calls Tryz.prog 15 #[st a n cap, fv (can (k + 1))] W fun e w' => e = .returned (.int .i64 0) ∧ Below W.heap.size W w' := by
  have HT := Lib.hid (fun w h => taken_is F n hF a cap ((k + 1 : Nat) : Int) w h hn)
  obtain ⟨m, hm⟩ : ∃ m : Int, ((k + 1 : Nat) : Int) = m := ⟨_, rfl⟩
  have hfv : fv (can (k + 1)) = .agg #[.int .u32 0, .int .u32 0, .int .i64 18, .int .i64 0, .int .i64 0, .string ⟨#[]⟩, .int .i64 m, .string ⟨#[]⟩] := by rw [← hm]; rfl
  rw [hfv]
  rw [hm] at HT
  have c1 : ¬ (n : Int) < m := by omega
  have w1 : IntKind.i64.wrap (m - 1) = (k : Int) := by rw [IntWalk.i64_in _ (by omega)]; omega
  have hB := Lib.hid (balloc (balloc (Below.refl W.heap.size W) (.cells #[.slice a n cap] 30)) (.cells #[.int .u32 0, .int .u32 0, .int .i64 18, .int .i64 0, .int .i64 0, .string ⟨#[]⟩, .int .i64 m, .string ⟨#[]⟩] 38))
  obtain ⟨b, o, rfl, hlt, _, _, d2, _⟩ := lst_fact (hl.step hB.out) hk
  rw [hF k hk] at d2
  have hkn : (k : Int) < (n : Int) := by omega
  have HL := Lib.hid (hl.step hB.out)
  clear hm hfv hl hF
  unfold st
  go_enter Tryz.func15, Tryz.ntmps15
  go_wp2_with fail
  refine (HT.out _ HL.out).mono ?_
  rintro e w1 ⟨rfl, hb1⟩
  have hz := Lib.hid (bstep hB.out hb1)
  clear hb1 d2
  go_wp2_with fail
  go_ret
  exact ⟨rfl, hz.out⟩
end Go.Proofs.YtbnjgbllenndaaaGreatDoor.W
