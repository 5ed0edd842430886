/- The walk of WeekWholes. -/
import Derived.Test.YtjpjeimpmfoldaaDoorWkJ
namespace Go.Proofs.YtjpjeimpmfoldaaDoor.W
open Go.RowKit Go.Proofs.YtjpjeimpmfoldaaDoor.M Go.Proofs.YtjpjeimpmfoldaaDoor.WL

def pS (k : Nat → Int) : Nat → Int
  | 0 => 0
  | n + 1 => pS k n + k n
def pC (k : Nat → Int) : Nat → Int
  | 0 => 0
  | n + 1 => pC k n + if 0 < k n then 1 else 0
theorem pS_bd {k : Nat → Int} (o : ok k) : ∀ n, n ≤ 7 → 0 ≤ pS k n ∧ pS k n ≤ 1440 * n
  | 0, _ => by simp [pS]
  | n + 1, h => by
    have h1 := pS_bd o n (by omega)
    have h2 := ok_at o n (by omega)
    rw [pS]; omega
theorem pC_bd (k : Nat → Int) : ∀ n, 0 ≤ pC k n ∧ pC k n ≤ n
  | 0 => by simp [pC]
  | n + 1 => by
    have h1 := pC_bd k n
    rw [pC]; split <;> omega
theorem mul_bd {a b A B : Int} (a0 : 0 ≤ a) (a1 : a ≤ A) (b0 : 0 ≤ b) (b1 : b ≤ B) : 0 ≤ a * b ∧ a * b ≤ A * B :=
  ⟨Int.mul_nonneg a0 b0, Int.mul_le_mul a1 b1 b0 (Int.le_trans a0 a1)⟩
theorem wholes' {k : Nat → Int} (c : ok k) (d q : Int) (h0 : -25567 ≤ d) (hq : 0 ≤ q) (h1 : d + 7 * q ≤ 84006) :
    mins k [] d (d + 7 * q) = q * pS k 7 ∧ days k [] d (d + 7 * q) = q * pC k 7 := by
  obtain ⟨n, rfl⟩ := Int.eq_ofNat_of_zero_le hq
  obtain ⟨e1, e2⟩ := week_wholes c d n h0 h1
  rw [e1, e2]
  constructor
  · congr 1; simp only [pS]; omega
  · congr 1; simp only [pC]; omega

set_option maxHeartbeats 1000000 in
theorem weekWholes (k : Nat → Int) (n m : Int) (w : World) (ht : Tab w) (hn : 0 ≤ n ∧ n ≤ 4294967295) (hm : 0 ≤ m ∧ m ≤ 255) :
    Calls Tryd.prog 7 #[.agg #[.int .i64 (k 0), .int .i64 (k 1), .int .i64 (k 2), .int .i64 (k 3), .int .i64 (k 4), .int .i64 (k 5), .int .i64 (k 6)], .int .u32 n, .int .u8 m] w fun e w' => e = .returned (.bool true) ∧ Below w.heap.size w w' := by
  have ht1 := (ht.alloc (.cells #[.int .i64 (k 0), .int .i64 (k 1), .int .i64 (k 2), .int .i64 (k 3), .int .i64 (k 4), .int .i64 (k 5), .int .i64 (k 6)] 23)).alloc (.cells #[.int .i64 (k 0), .int .i64 (k 1), .int .i64 (k 2), .int .i64 (k 3), .int .i64 (k 4), .int .i64 (k 5), .int .i64 (k 6), .slice none 0 0] 26)
  have hb0 := balloc (balloc (Below.refl w.heap.size w) (.cells #[.int .i64 (k 0), .int .i64 (k 1), .int .i64 (k 2), .int .i64 (k 3), .int .i64 (k 4), .int .i64 (k 5), .int .i64 (k 6)] 23)) (.cells #[.int .i64 (k 0), .int .i64 (k 1), .int .i64 (k 2), .int .i64 (k 3), .int .i64 (k 4), .int .i64 (k 5), .int .i64 (k 6), .slice none 0 0] 26)
  have hIB : IB [] := by intro x hx; simp at hx
  clear ht
  by_cases o : ok k
  · have hk : Hid (chk k [] = 0) := by show _ = _; unfold chk; rw [if_pos o]; rfl
    have hD : -25567 ≤ -25567 + n % 107000 := by omega
    have hD2 : -25567 + n % 107000 ≤ 81432 := by omega
    have hQ : 1 ≤ 1 + m % 50 := by omega
    have hQ2 : 1 + m % 50 ≤ 50 := by omega
    obtain ⟨e1, e2⟩ := wholes' o (-25567 + n % 107000) (1 + m % 50) hD (by omega) (by omega)
    have bS := fun n h => pS_bd o n h
    have bC := fun n => pC_bd k n
    obtain ⟨x0, x1⟩ := mul_bd (a := 1 + m % 50) (b := pS k 7) (A := 50) (B := 10080) (by omega) hQ2 (bS 7 (by omega)).1 (bS 7 (by omega)).2
    obtain ⟨y0, y1⟩ := mul_bd (a := 1 + m % 50) (b := pC k 7) (A := 50) (B := 7) (by omega) hQ2 (bC 7).1 (bC 7).2
    have E := Lib.hid (And.intro e1 e2)
    have BS := Lib.hid bS
    have BC := Lib.hid bC
    clear e1 e2 bS bC
    obtain ⟨⟨p0, q0⟩, ⟨p1, q1⟩, ⟨p2, q2⟩, ⟨p3, q3⟩, ⟨p4, q4⟩, ⟨p5, q5⟩, ⟨p6, q6⟩⟩ := o
    obtain ⟨n0, n1⟩ := hn
    obtain ⟨m0, m1⟩ := hm
    go_enter Tryd.func7, Tryd.ntmps7
    go_wp2_with fail
    refine (rcheck_any k none 0 0 [] _ Ints.nil hIB).mono ?_
    rintro e w1 ⟨rfl, hb1⟩
    rw [hk.out]
    obtain ⟨hc, hf⟩ := bcell hb1
    go_wp2_with fail
    generalize hA : -25567 + n % 107000 = A at *
    generalize hB : 1 + m % 50 = B at *
    clear hA hB n0 n1 m0 m1
    have hsz : w.heap.size + 1 < w1.heap.size := by have := hb1.size; simp at this; omega
    have hsz0 : w.heap.size < w1.heap.size := by omega
    go_loop [10, 11, 12] (fun s10 s11 s12 => ∃ i : Nat, i ≤ 7 ∧ s12 = .int .i64 i ∧ s10 = .int .i64 (pS k i) ∧ s11 = .int .i64 (pC k i)) (fun _ _ s => (8 - intOf s).toNat)
    case atStart => exact ⟨0, by omega, rfl, rfl, rfl⟩
    case round =>
      obtain ⟨i, hi, rfl, rfl, rfl⟩ := hrel
      have bs := BS.out i hi
      have bc := BC.out i
      rcases (by omega : i = 0 ∨ i = 1 ∨ i = 2 ∨ i = 3 ∨ i = 4 ∨ i = 5 ∨ i = 6 ∨ i = 7) with rfl | rfl | rfl | rfl | rfl | rfl | rfl | rfl
      · have hS : Hid (pS k 1 = pS k 0 + k 0) := rfl
        have hC : Hid (pC k 1 = pC k 0 + if 0 < k 0 then 1 else 0) := rfl
        generalize pS k 0 = s at *
        generalize pC k 0 = c at *
        by_cases g : 0 < k 0
        · go_wp2_with fail
          go_round
          case rel => exact ⟨1, by omega, rfl, by rw [hS.out], by rw [hC.out, if_pos g]⟩
          case measure => simp [intOf]
        · go_wp2_with fail
          go_round
          case rel => exact ⟨1, by omega, rfl, by rw [hS.out], by rw [hC.out, if_neg (by omega)]; simp⟩
          case measure => simp [intOf]
      · have hS : Hid (pS k 2 = pS k 1 + k 1) := rfl
        have hC : Hid (pC k 2 = pC k 1 + if 0 < k 1 then 1 else 0) := rfl
        generalize pS k 1 = s at *
        generalize pC k 1 = c at *
        by_cases g : 0 < k 1
        · go_wp2_with fail
          go_round
          case rel => exact ⟨2, by omega, rfl, by rw [hS.out], by rw [hC.out, if_pos g]⟩
          case measure => simp [intOf]
        · go_wp2_with fail
          go_round
          case rel => exact ⟨2, by omega, rfl, by rw [hS.out], by rw [hC.out, if_neg (by omega)]; simp⟩
          case measure => simp [intOf]
      · have hS : Hid (pS k 3 = pS k 2 + k 2) := rfl
        have hC : Hid (pC k 3 = pC k 2 + if 0 < k 2 then 1 else 0) := rfl
        generalize pS k 2 = s at *
        generalize pC k 2 = c at *
        by_cases g : 0 < k 2
        · go_wp2_with fail
          go_round
          case rel => exact ⟨3, by omega, rfl, by rw [hS.out], by rw [hC.out, if_pos g]⟩
          case measure => simp [intOf]
        · go_wp2_with fail
          go_round
          case rel => exact ⟨3, by omega, rfl, by rw [hS.out], by rw [hC.out, if_neg (by omega)]; simp⟩
          case measure => simp [intOf]
      · have hS : Hid (pS k 4 = pS k 3 + k 3) := rfl
        have hC : Hid (pC k 4 = pC k 3 + if 0 < k 3 then 1 else 0) := rfl
        generalize pS k 3 = s at *
        generalize pC k 3 = c at *
        by_cases g : 0 < k 3
        · go_wp2_with fail
          go_round
          case rel => exact ⟨4, by omega, rfl, by rw [hS.out], by rw [hC.out, if_pos g]⟩
          case measure => simp [intOf]
        · go_wp2_with fail
          go_round
          case rel => exact ⟨4, by omega, rfl, by rw [hS.out], by rw [hC.out, if_neg (by omega)]; simp⟩
          case measure => simp [intOf]
      · have hS : Hid (pS k 5 = pS k 4 + k 4) := rfl
        have hC : Hid (pC k 5 = pC k 4 + if 0 < k 4 then 1 else 0) := rfl
        generalize pS k 4 = s at *
        generalize pC k 4 = c at *
        by_cases g : 0 < k 4
        · go_wp2_with fail
          go_round
          case rel => exact ⟨5, by omega, rfl, by rw [hS.out], by rw [hC.out, if_pos g]⟩
          case measure => simp [intOf]
        · go_wp2_with fail
          go_round
          case rel => exact ⟨5, by omega, rfl, by rw [hS.out], by rw [hC.out, if_neg (by omega)]; simp⟩
          case measure => simp [intOf]
      · have hS : Hid (pS k 6 = pS k 5 + k 5) := rfl
        have hC : Hid (pC k 6 = pC k 5 + if 0 < k 5 then 1 else 0) := rfl
        generalize pS k 5 = s at *
        generalize pC k 5 = c at *
        by_cases g : 0 < k 5
        · go_wp2_with fail
          go_round
          case rel => exact ⟨6, by omega, rfl, by rw [hS.out], by rw [hC.out, if_pos g]⟩
          case measure => simp [intOf]
        · go_wp2_with fail
          go_round
          case rel => exact ⟨6, by omega, rfl, by rw [hS.out], by rw [hC.out, if_neg (by omega)]; simp⟩
          case measure => simp [intOf]
      · have hS : Hid (pS k 7 = pS k 6 + k 6) := rfl
        have hC : Hid (pC k 7 = pC k 6 + if 0 < k 6 then 1 else 0) := rfl
        generalize pS k 6 = s at *
        generalize pC k 6 = c at *
        by_cases g : 0 < k 6
        · go_wp2_with fail
          go_round
          case rel => exact ⟨7, by omega, rfl, by rw [hS.out], by rw [hC.out, if_pos g]⟩
          case measure => simp [intOf]
        · go_wp2_with fail
          go_round
          case rel => exact ⟨7, by omega, rfl, by rw [hS.out], by rw [hC.out, if_neg (by omega)]; simp⟩
          case measure => simp [intOf]
      · generalize pS k 7 = s at *
        generalize pC k 7 = c at *
        have c1 : (1 : Int) ≤ B * s ∨ True := .inr trivial
        clear c1
        go_wp2_with fail
        have ht2 := (ht1.step hb1).alloc (.cells #[.int .i64 A, .int .i64 (A + 7 * B)] 37)
        refine (Minutes_any k none 0 0 [] A (A + 7 * B) _ ht2 Ints.nil hIB (by omega) (by omega)).mono ?_
        rintro e w2 ⟨rfl, hb2⟩
        rw [E.out.1]
        clear hc hf
        obtain ⟨hc, hf⟩ := bcell hb1
        obtain ⟨hc2, hf2⟩ := bcell hb2
        go_wp2_with fail
        refine (Days_any k none 0 0 [] A (A + 7 * B) _ (ht2.step hb2) Ints.nil hIB (by omega) (by omega)).mono ?_
        rintro e w3 ⟨rfl, hb3⟩
        rw [E.out.2]
        go_wp2_with fail
        refine (awake_any _ ((ht2.step hb2).step hb3)).mono ?_
        rintro e w4 ⟨rfl, hb4⟩
        go_wp2_with fail
        go_ret
        exact ⟨rfl, bstep hb0 (bstep hb1 (bstep (balloc (Below.refl _ _) _) (bstep hb2 (bstep hb3 hb4))))⟩
  · have hk : (chk k [] != 0) = true := by unfold chk; rw [if_neg o]; rfl
    clear o
    go_enter Tryd.func7, Tryd.ntmps7
    go_wp2_with fail
    refine (rcheck_any k none 0 0 [] _ Ints.nil hIB).mono ?_
    rintro e w1 ⟨rfl, hb1⟩
    go_wp2_with fail
    refine (awake_any _ (ht1.step hb1)).mono ?_
    rintro e w2 ⟨rfl, hb2⟩
    go_wp2_with fail
    go_ret
    exact ⟨rfl, bstep hb0 (bstep hb1 hb2)⟩
end Go.Proofs.YtjpjeimpmfoldaaDoor.W
