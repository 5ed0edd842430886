/- The walk of WeekParts. -/
import Derived.Test.YtjpjeimpmfoldaaDoorWkJ
import Derived.Deep.RegionHeld3
namespace Go.Proofs.YtjpjeimpmfoldaaDoor.W
open Go.RowKit Go.Proofs.YtjpjeimpmfoldaaDoor.M Go.Proofs.YtjpjeimpmfoldaaDoor.WL

theorem parts' (k : Nat → Int) (xs : List Int) (a b c : Int) (h0 : -25567 ≤ a) (hab : a ≤ b) (hbc : b ≤ c) (h1 : c ≤ 84006) :
    mins k xs a c = mins k xs a b + mins k xs b c ∧ days k xs a c = days k xs a b + days k xs b c := by
  have h := parts k xs a (b - a).toNat (c - b).toNat h0 (by omega)
  rw [show a + ((b - a).toNat : Int) = b by omega, show b + ((c - b).toNat : Int) = c by omega] at h
  exact h

/-- The callees, at a world behind another one: nothing below that one's size has turned. -/
theorem minutes_from {W : World} (k : Nat → Int) (a : Option Addr) (n cap : Nat) (xs : List Int) (f t : Int) (w : World) (hB : Below W.heap.size W w) (ht : Tab W) (hx : Ints .i64 W a n cap xs) (hb : IB xs) (hf : -9223372036854775808 ≤ f ∧ f ≤ 9223372036854775807) (hu : -9223372036854775808 ≤ t ∧ t ≤ 9223372036854775807) :
    Calls Tryd.prog 17 #[.agg #[.int .i64 (k 0), .int .i64 (k 1), .int .i64 (k 2), .int .i64 (k 3), .int .i64 (k 4), .int .i64 (k 5), .int .i64 (k 6), .slice a n cap], .agg #[.int .i64 f, .int .i64 t]] w fun e w' => e = .returned (.int .i64 (mins k xs f t)) ∧ Below W.heap.size W w' := by
  have h := Minutes_any k a n cap xs f t w (ht.next hB (Nat.le_refl _)) (hx.next hB (Nat.le_refl _)) hb hf hu
  exact h.mono fun _ _ ⟨he, hb1⟩ => ⟨he, bstep hB hb1⟩
theorem days_from {W : World} (k : Nat → Int) (a : Option Addr) (n cap : Nat) (xs : List Int) (f t : Int) (w : World) (hB : Below W.heap.size W w) (ht : Tab W) (hx : Ints .i64 W a n cap xs) (hb : IB xs) (hf : -9223372036854775808 ≤ f ∧ f ≤ 9223372036854775807) (hu : -9223372036854775808 ≤ t ∧ t ≤ 9223372036854775807) :
    Calls Tryd.prog 18 #[.agg #[.int .i64 (k 0), .int .i64 (k 1), .int .i64 (k 2), .int .i64 (k 3), .int .i64 (k 4), .int .i64 (k 5), .int .i64 (k 6), .slice a n cap], .agg #[.int .i64 f, .int .i64 t]] w fun e w' => e = .returned (.int .i64 (days k xs f t)) ∧ Below W.heap.size W w' := by
  have h := Days_any k a n cap xs f t w (ht.next hB (Nat.le_refl _)) (hx.next hB (Nat.le_refl _)) hb hf hu
  exact h.mono fun _ _ ⟨he, hb1⟩ => ⟨he, bstep hB hb1⟩
theorem awake_from {W : World} (w : World) (hB : Below W.heap.size W w) (ht : Tab W) : Calls Tryd.prog 11 #[] w fun e w' => e = .returned (.bool true) ∧ Below W.heap.size W w' :=
  (awake_any w (ht.next hB (Nat.le_refl _))).mono fun _ _ ⟨he, hb1⟩ => ⟨he, bstep hB hb1⟩

set_option maxHeartbeats 1000000 in
theorem weekParts (k : Nat → Int) (a : Option Addr) (n cap : Nat) (xs : List Int) (fr l0 l1 : Int) (w : World) (ht : Tab w) (hx : Ints .i64 w a n cap xs) (hb : IB xs) (hfr : 0 ≤ fr ∧ fr ≤ 65535) (hl0 : 0 ≤ l0 ∧ l0 ≤ 255) (hl1 : 0 ≤ l1 ∧ l1 ≤ 255) :
    Calls Tryd.prog 5 #[.agg #[.int .i64 (k 0), .int .i64 (k 1), .int .i64 (k 2), .int .i64 (k 3), .int .i64 (k 4), .int .i64 (k 5), .int .i64 (k 6), .slice a n cap], .int .u16 fr, .agg #[.int .u8 l0, .int .u8 l1]] w fun e w' => e = .returned (.bool true) ∧ Below w.heap.size w w' := by
  have hx1 := (hx.alloc (.cells #[.int .i64 (k 0), .int .i64 (k 1), .int .i64 (k 2), .int .i64 (k 3), .int .i64 (k 4), .int .i64 (k 5), .int .i64 (k 6), .slice a n cap] 26)).alloc (.cells #[.int .u8 l0, .int .u8 l1] 43)
  have ht1 := (ht.alloc (.cells #[.int .i64 (k 0), .int .i64 (k 1), .int .i64 (k 2), .int .i64 (k 3), .int .i64 (k 4), .int .i64 (k 5), .int .i64 (k 6), .slice a n cap] 26)).alloc (.cells #[.int .u8 l0, .int .u8 l1] 43)
  have hb0 := balloc (balloc (Below.refl w.heap.size w) (.cells #[.int .i64 (k 0), .int .i64 (k 1), .int .i64 (k 2), .int .i64 (k 3), .int .i64 (k 4), .int .i64 (k 5), .int .i64 (k 6), .slice a n cap] 26)) (.cells #[.int .u8 l0, .int .u8 l1] 43)
  clear hx ht
  by_cases big : 300 < n
  · go_enter Tryd.func5, Tryd.ntmps5
    go_wp2_with fail
    refine (great_yes k a n cap _ big).mono ?_
    rintro e w1 ⟨rfl, hb1⟩
    go_wp2_with fail
    refine (awake_any _ (ht1.step hb1)).mono ?_
    rintro e w2 ⟨rfl, hb2⟩
    go_wp2_with fail
    go_ret
    exact ⟨rfl, bstep hb0 (bstep hb1 hb2)⟩
  obtain ⟨f0, f1⟩ := hfr
  obtain ⟨p0, p1⟩ := hl0
  obtain ⟨q0, q1⟩ := hl1
  have m0 : 0 ≤ fr % 3000 := by omega
  have m1 : fr % 3000 ≤ 2999 := by omega
  go_enter Tryd.func5, Tryd.ntmps5
  go_wp2_with fail
  refine (great_no k a n cap _ big).mono ?_
  rintro e w1 ⟨rfl, hbg⟩
  obtain ⟨hc, hf⟩ := bcell hbg
  go_wp2_with fail
  generalize hA : 18000 + fr % 3000 = A at *
  have a0 : 18000 ≤ A := by omega
  have a1 : A ≤ 20999 := by omega
  clear hA m0 m1
  have hsz : w.heap.size < w1.heap.size := by have := hbg.size; simp at this; omega
  have hx2 := hx1.next hbg (Nat.le_refl _)
  have ht2 := ht1.step hbg
  have hcp : Hid (∀ i, i < 8 → w1.cell? ⟨w.heap.size, i, none⟩ = (#[.int .i64 (k 0), .int .i64 (k 1), .int .i64 (k 2), .int .i64 (k 3), .int .i64 (k 4), .int .i64 (k 5), .int .i64 (k 6), .slice a n cap] : Array Value)[i]?) := fun i hi => by rw [hc _ _ (by simp; omega)]; simp
  clear hc hf
  have hSB := Lib.hid (fun j => sumTo_bd A (on_bd k xs) j)
  go_loopw [10, 11] (fun s10 s11 wr => ∃ j : Nat, (j : Int) ≤ l0 + l1 ∧ s11 = .int .i64 (A + j) ∧ s10 = .int .i64 (sumTo (on k xs) A j) ∧ Below w1.heap.size w1 wr) (fun _ s11 _ => (100000 - intOf s11).toNat)
  case atStart => exact ⟨0, by omega, by simp, rfl, Below.refl _ _⟩
  case round =>
    obtain ⟨j, hj, rfl, rfl, hbr⟩ := hrel
    obtain ⟨hcr, hfr⟩ := bcell hbr
    have p0 : wr.cell? ⟨w.heap.size, 0, none⟩ = some (.int .i64 (k 0)) := (hcr _ _ hsz).trans (hcp.out 0 (by omega))
    have p1 : wr.cell? ⟨w.heap.size, 1, none⟩ = some (.int .i64 (k 1)) := (hcr _ _ hsz).trans (hcp.out 1 (by omega))
    have p2 : wr.cell? ⟨w.heap.size, 2, none⟩ = some (.int .i64 (k 2)) := (hcr _ _ hsz).trans (hcp.out 2 (by omega))
    have p3 : wr.cell? ⟨w.heap.size, 3, none⟩ = some (.int .i64 (k 3)) := (hcr _ _ hsz).trans (hcp.out 3 (by omega))
    have p4 : wr.cell? ⟨w.heap.size, 4, none⟩ = some (.int .i64 (k 4)) := (hcr _ _ hsz).trans (hcp.out 4 (by omega))
    have p5 : wr.cell? ⟨w.heap.size, 5, none⟩ = some (.int .i64 (k 5)) := (hcr _ _ hsz).trans (hcp.out 5 (by omega))
    have p6 : wr.cell? ⟨w.heap.size, 6, none⟩ = some (.int .i64 (k 6)) := (hcr _ _ hsz).trans (hcp.out 6 (by omega))
    have p7 : wr.cell? ⟨w.heap.size, 7, none⟩ = some (.slice a n cap) := (hcr _ _ hsz).trans (hcp.out 7 (by omega))
    clear hcr hfr
    have bs := hSB.out j
    have bo := on_bd k xs (A + j)
    by_cases hlt : (j : Int) < l0 + l1
    · have g0 : A + (j : Int) < A + l0 + l1 := by omega
      have hS : Hid (sumTo (on k xs) A (j + 1) = sumTo (on k xs) A j + on k xs (A + j)) := rfl
      have hon := Lib.hid (On_any k a n cap xs (A + j) wr (hx2.next hbr (Nat.le_refl _)) hb)
      generalize on k xs (A + j) = x at *
      generalize sumTo (on k xs) A j = sm at *
      go_wp2_with fail
      refine hon.out.mono ?_
      rintro e w4 ⟨rfl, hb4⟩
      go_wp2_with fail
      go_roundw
      case rel => exact ⟨j + 1, by omega, by go_num, by rw [hS.out], bstep hbr hb4⟩
      case measure => simp [intOf]; omega
    · have hjj : Hid ((j : Int) = l0 + l1) := by show _ = _; omega
      have g0 : ¬ (A + (j : Int) < A + l0 + l1) := by omega
      have hP := parts' k xs A (A + l0) (A + l0 + l1) (by omega) (by omega) (by omega) (by omega)
      have hS := mins_on k xs A j (by omega) (by omega)
      rw [show A + (j : Int) = A + l0 + l1 by omega] at hS
      have hZ := mins_back k xs (A + l0 + l1) (A - 1) (by omega)
      have b1 := mins_bd k xs A (A + l0)
      have b2 := mins_bd k xs (A + l0) (A + l0 + l1)
      have b3 := days_bd k xs A (A + l0)
      have b4 := days_bd k xs (A + l0) (A + l0 + l1)
      have e1 : Hid (sumTo (on k xs) A j = mins k xs A (A + l0) + mins k xs (A + l0) (A + l0 + l1)) := by show _ = _; rw [← hS]; exact hP.1
      obtain ⟨v3, u3⟩ := hP
      have V3 := Lib.hid v3
      have U3 := Lib.hid u3
      have V4 := Lib.hid hZ
      clear hS hZ bs bo hjj v3 u3
      rw [e1.out]
      clear e1
      have hbW : Below wr.heap.size wr (((wr.alloc (.cells #[.int .i64 A, .int .i64 (A + l0)] 37)).alloc (.cells #[.int .i64 (A + l0), .int .i64 (A + l0 + l1)] 37)).alloc (.cells #[.int .i64 A, .int .i64 (A + l0 + l1)] 37)) := balloc (balloc (balloc (Below.refl _ _) _) _) _
      have hzr : w.heap.size < wr.heap.size := Nat.lt_of_lt_of_le hsz hbr.size
      have g0' := bc hbW hzr p0
      have g1' := bc hbW hzr p1
      have g2' := bc hbW hzr p2
      have g3' := bc hbW hzr p3
      have g4' := bc hbW hzr p4
      have g5' := bc hbW hzr p5
      have g6' := bc hbW hzr p6
      have g7' := bc hbW hzr p7
      have s0 : (((wr.alloc (.cells #[.int .i64 A, .int .i64 (A + l0)] 37)).alloc (.cells #[.int .i64 (A + l0), .int .i64 (A + l0 + l1)] 37)).alloc (.cells #[.int .i64 A, .int .i64 (A + l0 + l1)] 37)).cell? ⟨wr.heap.size, 0, none⟩ = some (.int .i64 A) := by go_simp
      have s1 : (((wr.alloc (.cells #[.int .i64 A, .int .i64 (A + l0)] 37)).alloc (.cells #[.int .i64 (A + l0), .int .i64 (A + l0 + l1)] 37)).alloc (.cells #[.int .i64 A, .int .i64 (A + l0 + l1)] 37)).cell? ⟨wr.heap.size, 1, none⟩ = some (.int .i64 (A + l0)) := by go_simp
      have s2 : (((wr.alloc (.cells #[.int .i64 A, .int .i64 (A + l0)] 37)).alloc (.cells #[.int .i64 (A + l0), .int .i64 (A + l0 + l1)] 37)).alloc (.cells #[.int .i64 A, .int .i64 (A + l0 + l1)] 37)).cell? ⟨wr.heap.size + 1, 0, none⟩ = some (.int .i64 (A + l0)) := by go_simp
      have s3 : (((wr.alloc (.cells #[.int .i64 A, .int .i64 (A + l0)] 37)).alloc (.cells #[.int .i64 (A + l0), .int .i64 (A + l0 + l1)] 37)).alloc (.cells #[.int .i64 A, .int .i64 (A + l0 + l1)] 37)).cell? ⟨wr.heap.size + 1, 1, none⟩ = some (.int .i64 (A + l0 + l1)) := by go_simp
      have s4 : (((wr.alloc (.cells #[.int .i64 A, .int .i64 (A + l0)] 37)).alloc (.cells #[.int .i64 (A + l0), .int .i64 (A + l0 + l1)] 37)).alloc (.cells #[.int .i64 A, .int .i64 (A + l0 + l1)] 37)).cell? ⟨wr.heap.size + 1 + 1, 0, none⟩ = some (.int .i64 A) := by go_simp
      have s5 : (((wr.alloc (.cells #[.int .i64 A, .int .i64 (A + l0)] 37)).alloc (.cells #[.int .i64 (A + l0), .int .i64 (A + l0 + l1)] 37)).alloc (.cells #[.int .i64 A, .int .i64 (A + l0 + l1)] 37)).cell? ⟨wr.heap.size + 1 + 1, 1, none⟩ = some (.int .i64 (A + l0 + l1)) := by go_simp
      have hxW := (hx2.next hbr (Nat.le_refl _)).next hbW (Nat.le_refl _)
      have htW := (ht2.step hbr).step hbW
      have hzz : wr.heap.size + 1 + 1 < (((wr.alloc (.cells #[.int .i64 A, .int .i64 (A + l0)] 37)).alloc (.cells #[.int .i64 (A + l0), .int .i64 (A + l0 + l1)] 37)).alloc (.cells #[.int .i64 A, .int .i64 (A + l0 + l1)] 37)).heap.size := by simp
      have w1' : IntKind.i64.wrap (mins k xs A (A + l0) + mins k xs (A + l0) (A + l0 + l1)) = mins k xs A (A + l0) + mins k xs (A + l0) (A + l0 + l1) := IntWalk.i64_in _ (by omega)
      have w2' : IntKind.i64.wrap (days k xs A (A + l0) + days k xs (A + l0) (A + l0 + l1)) = days k xs A (A + l0) + days k xs (A + l0) (A + l0 + l1) := IntWalk.i64_in _ (by omega)
      have w3' : IntKind.i64.wrap (A - 1) = A - 1 := IntWalk.i64_in _ (by omega)
      clear p0 p1 p2 p3 p4 p5 p6 p7
      go_wp2_with fail
      generalize ((wr.alloc (.cells #[.int .i64 A, .int .i64 (A + l0)] 37)).alloc (.cells #[.int .i64 (A + l0), .int .i64 (A + l0 + l1)] 37)).alloc (.cells #[.int .i64 A, .int .i64 (A + l0 + l1)] 37) = W at *
      have hzz0 : w.heap.size < W.heap.size := by omega
      have hzz1 : wr.heap.size < W.heap.size := by omega
      have hzz2 : wr.heap.size + 1 < W.heap.size := by omega
      have rA : -9223372036854775808 ≤ A ∧ A ≤ 9223372036854775807 := by omega
      have rB : -9223372036854775808 ≤ A + l0 ∧ A + l0 ≤ 9223372036854775807 := by omega
      have rC : -9223372036854775808 ≤ A + l0 + l1 ∧ A + l0 + l1 ≤ 9223372036854775807 := by omega
      have rD : -9223372036854775808 ≤ A - 1 ∧ A - 1 ≤ 9223372036854775807 := by omega
      have v3 := V3.out
      have u3 := U3.out
      have v4 := V4.out
      go_region_held3 (fun w' => Below W.heap.size W w' ∧ ∀ b o, b < W.heap.size → w'.cell? ⟨b, o, none⟩ = W.cell? ⟨b, o, none⟩)
        (first | exact ⟨(Below.refl _ _).drew, fun _ _ _ => rfl⟩ | exact ⟨hb1, (bcell hb1).1⟩)
        (first | (go_at_call 17; refine (minutes_from (W := W) k a n cap xs _ _ _ (And.left (by assumption)) htW hxW hb (by omega) (by omega)).mono ?_; rintro e w1 ⟨rfl, hb1⟩) | (go_at_call 18; refine (days_from (W := W) k a n cap xs _ _ _ (And.left (by assumption)) htW hxW hb (by omega) (by omega)).mono ?_; rintro e w1 ⟨rfl, hb1⟩) | (go_at_call 11; refine (awake_from (W := W) _ (And.left (by assumption)) htW).mono ?_; rintro e w1 ⟨rfl, hb1⟩))
      go_wp2
      go_ret
      exact ⟨rfl, bstep hb0 (bstep hbg (bstep hbr (bstep hbW hb1)))⟩
end Go.Proofs.YtjpjeimpmfoldaaDoor.W
