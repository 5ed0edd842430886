/- The walks of the week's laws: WeekChecks, WeekSums. -/
import Derived.Test.YtjpjeimpmfoldaaDoorWkI
namespace Go.Proofs.YtjpjeimpmfoldaaDoor.W
open Go.RowKit Go.Proofs.YtjpjeimpmfoldaaDoor.M Go.Proofs.YtjpjeimpmfoldaaDoor.WL

theorem weekChecks (k : Nat → Int) (a : Option Addr) (n cap : Nat) (xs : List Int) (d : Int) (w : World) (ht : Tab w) (hx : Ints .i64 w a n cap xs) (hb : IB xs) (_hd : -9223372036854775808 ≤ d ∧ d ≤ 9223372036854775807) :
    Calls Tryd.prog 3 #[.agg #[.int .i64 (k 0), .int .i64 (k 1), .int .i64 (k 2), .int .i64 (k 3), .int .i64 (k 4), .int .i64 (k 5), .int .i64 (k 6), .slice a n cap], .int .i64 d] w fun e w' => e = .returned (.bool true) ∧ Below w.heap.size w w' := by
  have hx1 := hx.alloc (.cells #[.int .i64 (k 0), .int .i64 (k 1), .int .i64 (k 2), .int .i64 (k 3), .int .i64 (k 4), .int .i64 (k 5), .int .i64 (k 6), .slice a n cap] 26)
  have ht1 := ht.alloc (.cells #[.int .i64 (k 0), .int .i64 (k 1), .int .i64 (k 2), .int .i64 (k 3), .int .i64 (k 4), .int .i64 (k 5), .int .i64 (k 6), .slice a n cap] 26)
  have hb0 := balloc (Below.refl w.heap.size w) (.cells #[.int .i64 (k 0), .int .i64 (k 1), .int .i64 (k 2), .int .i64 (k 3), .int .i64 (k 4), .int .i64 (k 5), .int .i64 (k 6), .slice a n cap] 26)
  clear hx ht
  by_cases big : 300 < n
  · go_enter Tryd.func3, Tryd.ntmps3
    go_wp2_with fail
    refine (great_yes k a n cap _ big).mono ?_
    rintro e w1 ⟨rfl, hb1⟩
    go_wp2_with fail
    refine (awake_any _ (ht1.step hb1)).mono ?_
    rintro e w2 ⟨rfl, hb2⟩
    go_wp2_with fail
    go_ret
    exact ⟨rfl, bstep hb0 (bstep hb1 hb2)⟩
  by_cases hk : chk k xs = 0
  · have hk' := Lib.hid hk; clear hk
    go_enter Tryd.func3, Tryd.ntmps3
    go_wp2_with fail
    refine (great_no k a n cap _ big).mono ?_
    rintro e w1 ⟨rfl, hb1⟩
    obtain ⟨hc, hf⟩ := bcell hb1
    go_wp2_with fail
    refine (rcheck_any k a n cap xs _ (hx1.next hb1 (Nat.le_refl _)) hb).mono ?_
    rintro e w2 ⟨rfl, hb2⟩
    rw [hk'.out]
    have h12 := bstep hb1 hb2
    clear hc hf
    obtain ⟨hc, hf⟩ := bcell h12
    go_wp2_with fail
    refine (rOn_any k a n cap xs d _ (hx1.next h12 (Nat.le_refl _)) hk'.out).mono ?_
    rintro e w3 ⟨rfl, hb3⟩
    have h13 := bstep h12 hb3
    clear hc hf
    obtain ⟨hc, hf⟩ := bcell h13
    go_wp2_with fail
    refine (check_any k a n cap xs _ (hx1.next h13 (Nat.le_refl _)) hb).mono ?_
    rintro e w4 ⟨rfl, hb4⟩
    rw [hk'.out]
    have h14 := bstep h13 hb4
    clear hc hf
    obtain ⟨hc, hf⟩ := bcell h14
    go_wp2_with fail
    refine (On_any k a n cap xs d _ (hx1.next h14 (Nat.le_refl _)) hb).mono ?_
    rintro e w5 ⟨rfl, hb5⟩
    have h15 := bstep h14 hb5
    clear hc hf
    go_wp2_with fail
    refine (awake_any _ (ht1.step h15)).mono ?_
    rintro e w6 ⟨rfl, hb6⟩
    go_wp2_with fail
    go_ret
    exact ⟨rfl, bstep hb0 (bstep h15 hb6)⟩
  · have hon : Hid (on k xs d = 0) := by show _ = _; unfold on; rw [if_neg (fun h => hk h.1)]
    have hne : (chk k xs == 0) = false := by simp [hk]
    clear hk
    go_enter Tryd.func3, Tryd.ntmps3
    go_wp2_with fail
    refine (great_no k a n cap _ big).mono ?_
    rintro e w1 ⟨rfl, hb1⟩
    obtain ⟨hc, hf⟩ := bcell hb1
    go_wp2_with fail
    refine (rcheck_any k a n cap xs _ (hx1.next hb1 (Nat.le_refl _)) hb).mono ?_
    rintro e w2 ⟨rfl, hb2⟩
    have h12 := bstep hb1 hb2
    clear hc hf
    obtain ⟨hc, hf⟩ := bcell h12
    go_wp2_with fail
    refine (check_any k a n cap xs _ (hx1.next h12 (Nat.le_refl _)) hb).mono ?_
    rintro e w4 ⟨rfl, hb4⟩
    have h14 := bstep h12 hb4
    clear hc hf
    obtain ⟨hc, hf⟩ := bcell h14
    go_wp2_with fail
    refine (On_any k a n cap xs d _ (hx1.next h14 (Nat.le_refl _)) hb).mono ?_
    rintro e w5 ⟨rfl, hb5⟩
    rw [hon.out]
    have h15 := bstep h14 hb5
    clear hc hf
    go_wp2_with fail
    refine (awake_any _ (ht1.step h15)).mono ?_
    rintro e w6 ⟨rfl, hb6⟩
    go_wp2_with fail
    go_ret
    exact ⟨rfl, bstep hb0 (bstep h15 hb6)⟩

theorem weekSums (k : Nat → Int) (a : Option Addr) (n cap : Nat) (xs : List Int) (f t : Int) (w : World) (ht : Tab w) (hx : Ints .i64 w a n cap xs) (hb : IB xs) (_hf : -9223372036854775808 ≤ f ∧ f ≤ 9223372036854775807) (_ht : -9223372036854775808 ≤ t ∧ t ≤ 9223372036854775807) :
    Calls Tryd.prog 4 #[.agg #[.int .i64 (k 0), .int .i64 (k 1), .int .i64 (k 2), .int .i64 (k 3), .int .i64 (k 4), .int .i64 (k 5), .int .i64 (k 6), .slice a n cap], .agg #[.int .i64 f, .int .i64 t]] w fun e w' => e = .returned (.bool true) ∧ Below w.heap.size w w' := by
  have hx1 := (hx.alloc (.cells #[.int .i64 (k 0), .int .i64 (k 1), .int .i64 (k 2), .int .i64 (k 3), .int .i64 (k 4), .int .i64 (k 5), .int .i64 (k 6), .slice a n cap] 26)).alloc (.cells #[.int .i64 f, .int .i64 t] 37)
  have ht1 := (ht.alloc (.cells #[.int .i64 (k 0), .int .i64 (k 1), .int .i64 (k 2), .int .i64 (k 3), .int .i64 (k 4), .int .i64 (k 5), .int .i64 (k 6), .slice a n cap] 26)).alloc (.cells #[.int .i64 f, .int .i64 t] 37)
  have hb0 := balloc (balloc (Below.refl w.heap.size w) (.cells #[.int .i64 (k 0), .int .i64 (k 1), .int .i64 (k 2), .int .i64 (k 3), .int .i64 (k 4), .int .i64 (k 5), .int .i64 (k 6), .slice a n cap] 26)) (.cells #[.int .i64 f, .int .i64 t] 37)
  clear hx ht
  by_cases big : 300 < n
  · go_enter Tryd.func4, Tryd.ntmps4
    go_wp2_with fail
    refine (great_yes k a n cap _ big).mono ?_
    rintro e w1 ⟨rfl, hb1⟩
    go_wp2_with fail
    refine (awake_any _ (ht1.step hb1)).mono ?_
    rintro e w2 ⟨rfl, hb2⟩
    go_wp2_with fail
    go_ret
    exact ⟨rfl, bstep hb0 (bstep hb1 hb2)⟩
  by_cases hk : chk k xs = 0
  · have hk' := Lib.hid hk; clear hk
    go_enter Tryd.func4, Tryd.ntmps4
    go_wp2_with fail
    refine (great_no k a n cap _ big).mono ?_
    rintro e w1 ⟨rfl, hb1⟩
    obtain ⟨hc, hf⟩ := bcell hb1
    go_wp2_with fail
    refine (rcheck_any k a n cap xs _ (hx1.next hb1 (Nat.le_refl _)) hb).mono ?_
    rintro e w2 ⟨rfl, hb2⟩
    rw [hk'.out]
    have h12 := bstep hb1 hb2
    clear hc hf
    obtain ⟨hc, hf⟩ := bcell h12
    go_wp2_with fail
    refine (rsum_any k a n cap xs f t _ (hx1.next h12 (Nat.le_refl _)) _hf _ht hk'.out).mono ?_
    rintro e w3 ⟨rfl, hb3⟩
    have h13 := bstep h12 hb3
    clear hc hf
    obtain ⟨hc, hf⟩ := bcell h13
    go_wp2_with fail
    refine (Minutes_any k a n cap xs f t _ (ht1.step h13) (hx1.next h13 (Nat.le_refl _)) hb _hf _ht).mono ?_
    rintro e w4 ⟨rfl, hb4⟩
    have h14 := bstep h13 hb4
    clear hc hf
    obtain ⟨hc, hf⟩ := bcell h14
    go_wp2_with fail
    refine (Days_any k a n cap xs f t _ (ht1.step h14) (hx1.next h14 (Nat.le_refl _)) hb _hf _ht).mono ?_
    rintro e w5 ⟨rfl, hb5⟩
    have h15 := bstep h14 hb5
    clear hc hf
    go_wp2_with fail
    refine (awake_any _ (ht1.step h15)).mono ?_
    rintro e w6 ⟨rfl, hb6⟩
    go_wp2_with fail
    go_ret
    exact ⟨rfl, bstep hb0 (bstep h15 hb6)⟩
  · have hm : Hid (mins k xs f t = 0) := by show _ = _; unfold mins; rw [if_neg hk]
    have hd : Hid (days k xs f t = 0) := by show _ = _; unfold days; rw [if_neg hk]
    have hne : (chk k xs == 0) = false := by simp [hk]
    clear hk
    go_enter Tryd.func4, Tryd.ntmps4
    go_wp2_with fail
    refine (great_no k a n cap _ big).mono ?_
    rintro e w1 ⟨rfl, hb1⟩
    obtain ⟨hc, hf⟩ := bcell hb1
    go_wp2_with fail
    refine (rcheck_any k a n cap xs _ (hx1.next hb1 (Nat.le_refl _)) hb).mono ?_
    rintro e w2 ⟨rfl, hb2⟩
    have h13 := bstep hb1 hb2
    clear hc hf
    obtain ⟨hc, hf⟩ := bcell h13
    go_wp2_with fail
    refine (Minutes_any k a n cap xs f t _ (ht1.step h13) (hx1.next h13 (Nat.le_refl _)) hb _hf _ht).mono ?_
    rintro e w4 ⟨rfl, hb4⟩
    rw [hm.out]
    have h14 := bstep h13 hb4
    clear hc hf
    obtain ⟨hc, hf⟩ := bcell h14
    go_wp2_with fail
    refine (Days_any k a n cap xs f t _ (ht1.step h14) (hx1.next h14 (Nat.le_refl _)) hb _hf _ht).mono ?_
    rintro e w5 ⟨rfl, hb5⟩
    rw [hd.out]
    have h15 := bstep h14 hb5
    clear hc hf
    go_wp2_with fail
    refine (awake_any _ (ht1.step h15)).mono ?_
    rintro e w6 ⟨rfl, hb6⟩
    go_wp2_with fail
    go_ret
    exact ⟨rfl, bstep hb0 (bstep h15 hb6)⟩
end Go.Proofs.YtjpjeimpmfoldaaDoor.W
