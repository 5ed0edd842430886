/- The walks of the week: a pattern's minutes on a day, in a span. -/
import Derived.Test.YtjpjeimpmfoldaaDoorWkC
namespace Go.Proofs.YtjpjeimpmfoldaaDoor.W
open Go.RowKit Go.Proofs.YtjpjeimpmfoldaaDoor.M Go.Proofs.YtjpjeimpmfoldaaDoor.WL

theorem weekday_is (d i : Int) (w : World) (h0 : -25567 ≤ d) (h1 : d ≤ 84005) (h : (d + 25567) % 7 = i) :
    Calls Tryd.prog 26 #[.int .i64 d] w fun e w' => e = .returned (.int .i64 i) ∧ w = w' := by
  subst h; exact weekday_yes d w h0 h1

theorem on_in (k : Nat → Int) (a : Option Addr) (n cap : Nat) (xs : List Int) (d : Int) (w : World) (hx : Ints .i64 w a n cap xs) (hk : chk k xs = 0) (h0 : -25567 ≤ d) (h1 : d ≤ 84005) :
    Calls Tryd.prog 27 #[.agg #[.int .i64 (k 0), .int .i64 (k 1), .int .i64 (k 2), .int .i64 (k 3), .int .i64 (k 4), .int .i64 (k 5), .int .i64 (k 6), .slice a n cap], .int .i64 d] w fun e w' => e = .returned (.int .i64 (punch (W k) xs d)) ∧ Below w.heap.size w w' := by
  obtain ⟨_, hlen, _, hs⟩ := chk_zero hk
  have hn : n ≤ 4096 := by rw [← hx.len]; exact hlen
  clear hlen hk
  have hx1 := hx.alloc (.cells #[.int .i64 (k 0), .int .i64 (k 1), .int .i64 (k 2), .int .i64 (k 3), .int .i64 (k 4), .int .i64 (k 5), .int .i64 (k 6), .slice a n cap] 26)
  clear hx
  by_cases hm : d ∈ xs
  · have hr : punch (W k) xs d = 0 := by unfold punch; rw [if_pos hm]
    rw [hr]; clear hr
    have hdc : decide (d ∈ xs) = true := decide_eq_true hm
    clear hm
    go_enter Tryd.func27, Tryd.ntmps27
    go_wp2_with fail
    refine (search_any a n cap xs d _ hx1 hs hn).mono ?_
    rintro e w' ⟨j, rfl, rfl⟩
    rw [hdc]
    go_wp2_with fail
    go_ret
    exact ⟨rfl, balloc (Below.refl _ _) _⟩
  · have hr : punch (W k) xs d = k (wd d) := by unfold punch W; rw [if_neg hm]
    rw [hr]; clear hr
    have hdc : decide (d ∈ xs) = false := decide_eq_false hm
    clear hm
    rcases (by omega : (d + 25567) % 7 = 0 ∨ (d + 25567) % 7 = 1 ∨ (d + 25567) % 7 = 2 ∨ (d + 25567) % 7 = 3 ∨ (d + 25567) % 7 = 4 ∨ (d + 25567) % 7 = 5 ∨ (d + 25567) % 7 = 6) with h | h | h | h | h | h | h
    · have hw : wd d = 0 := by unfold wd; rw [h]; rfl
      rw [hw]; clear hw
      have hd := Lib.hid h; clear h
      go_enter Tryd.func27, Tryd.ntmps27
      go_wp2_with fail
      refine (search_any a n cap xs d _ hx1 hs hn).mono ?_
      rintro e w' ⟨j, rfl, rfl⟩
      rw [hdc]
      go_wp2_with (go_at_call 26; refine (weekday_is d 0 _ h0 h1 hd.out).mono ?_; rintro e w' ⟨rfl, rfl⟩)
      go_ret
      exact ⟨rfl, balloc (Below.refl _ _) _⟩
    · have hw : wd d = 1 := by unfold wd; rw [h]; rfl
      rw [hw]; clear hw
      have hd := Lib.hid h; clear h
      go_enter Tryd.func27, Tryd.ntmps27
      go_wp2_with fail
      refine (search_any a n cap xs d _ hx1 hs hn).mono ?_
      rintro e w' ⟨j, rfl, rfl⟩
      rw [hdc]
      go_wp2_with (go_at_call 26; refine (weekday_is d 1 _ h0 h1 hd.out).mono ?_; rintro e w' ⟨rfl, rfl⟩)
      go_ret
      exact ⟨rfl, balloc (Below.refl _ _) _⟩
    · have hw : wd d = 2 := by unfold wd; rw [h]; rfl
      rw [hw]; clear hw
      have hd := Lib.hid h; clear h
      go_enter Tryd.func27, Tryd.ntmps27
      go_wp2_with fail
      refine (search_any a n cap xs d _ hx1 hs hn).mono ?_
      rintro e w' ⟨j, rfl, rfl⟩
      rw [hdc]
      go_wp2_with (go_at_call 26; refine (weekday_is d 2 _ h0 h1 hd.out).mono ?_; rintro e w' ⟨rfl, rfl⟩)
      go_ret
      exact ⟨rfl, balloc (Below.refl _ _) _⟩
    · have hw : wd d = 3 := by unfold wd; rw [h]; rfl
      rw [hw]; clear hw
      have hd := Lib.hid h; clear h
      go_enter Tryd.func27, Tryd.ntmps27
      go_wp2_with fail
      refine (search_any a n cap xs d _ hx1 hs hn).mono ?_
      rintro e w' ⟨j, rfl, rfl⟩
      rw [hdc]
      go_wp2_with (go_at_call 26; refine (weekday_is d 3 _ h0 h1 hd.out).mono ?_; rintro e w' ⟨rfl, rfl⟩)
      go_ret
      exact ⟨rfl, balloc (Below.refl _ _) _⟩
    · have hw : wd d = 4 := by unfold wd; rw [h]; rfl
      rw [hw]; clear hw
      have hd := Lib.hid h; clear h
      go_enter Tryd.func27, Tryd.ntmps27
      go_wp2_with fail
      refine (search_any a n cap xs d _ hx1 hs hn).mono ?_
      rintro e w' ⟨j, rfl, rfl⟩
      rw [hdc]
      go_wp2_with (go_at_call 26; refine (weekday_is d 4 _ h0 h1 hd.out).mono ?_; rintro e w' ⟨rfl, rfl⟩)
      go_ret
      exact ⟨rfl, balloc (Below.refl _ _) _⟩
    · have hw : wd d = 5 := by unfold wd; rw [h]; rfl
      rw [hw]; clear hw
      have hd := Lib.hid h; clear h
      go_enter Tryd.func27, Tryd.ntmps27
      go_wp2_with fail
      refine (search_any a n cap xs d _ hx1 hs hn).mono ?_
      rintro e w' ⟨j, rfl, rfl⟩
      rw [hdc]
      go_wp2_with (go_at_call 26; refine (weekday_is d 5 _ h0 h1 hd.out).mono ?_; rintro e w' ⟨rfl, rfl⟩)
      go_ret
      exact ⟨rfl, balloc (Below.refl _ _) _⟩
    · have hw : wd d = 6 := by unfold wd; rw [h]; rfl
      rw [hw]; clear hw
      have hd := Lib.hid h; clear h
      go_enter Tryd.func27, Tryd.ntmps27
      go_wp2_with fail
      refine (search_any a n cap xs d _ hx1 hs hn).mono ?_
      rintro e w' ⟨j, rfl, rfl⟩
      rw [hdc]
      go_wp2_with (go_at_call 26; refine (weekday_is d 6 _ h0 h1 hd.out).mono ?_; rintro e w' ⟨rfl, rfl⟩)
      go_ret
      exact ⟨rfl, balloc (Below.refl _ _) _⟩

theorem On_any (k : Nat → Int) (a : Option Addr) (n cap : Nat) (xs : List Int) (d : Int) (w : World) (hx : Ints .i64 w a n cap xs) (hb : IB xs) :
    Calls Tryd.prog 15 #[.agg #[.int .i64 (k 0), .int .i64 (k 1), .int .i64 (k 2), .int .i64 (k 3), .int .i64 (k 4), .int .i64 (k 5), .int .i64 (k 6), .slice a n cap], .int .i64 d] w fun e w' => e = .returned (.int .i64 (on k xs d)) ∧ Below w.heap.size w w' := by
  have hx1 := hx.alloc (.cells #[.int .i64 (k 0), .int .i64 (k 1), .int .i64 (k 2), .int .i64 (k 3), .int .i64 (k 4), .int .i64 (k 5), .int .i64 (k 6), .slice a n cap] 26)
  clear hx
  by_cases hk : chk k xs = 0
  · by_cases hin : d < -25567 ∨ 84005 < d
    · have hr : on k xs d = 0 := by unfold on; rw [if_neg (by omega)]
      rw [hr]; clear hr
      have hk' := Lib.hid hk; clear hk
      go_enter Tryd.func15, Tryd.ntmps15
      go_wp2_with fail
      refine (check_any k a n cap xs _ hx1 hb).mono ?_
      rintro e w1 ⟨rfl, hb1⟩
      rw [hk'.out]
      go_wp2_with (go_at_call 26; refine (weekday_no d _ hin).mono ?_; rintro e w' ⟨rfl, rfl⟩)
      go_ret
      exact ⟨rfl, bstep (balloc (Below.refl _ _) _) hb1⟩
    · have h0 : -25567 ≤ d := by omega
      have h1 : d ≤ 84005 := by omega
      have hr : on k xs d = punch (W k) xs d := by unfold on; rw [if_pos ⟨hk, h0, h1⟩]
      rw [hr]; clear hr hin
      have hk' := Lib.hid hk; clear hk
      have m0 : ¬ (d + 25567) % 7 < 0 := by omega
      go_enter Tryd.func15, Tryd.ntmps15
      go_wp2_with fail
      refine (check_any k a n cap xs _ hx1 hb).mono ?_
      rintro e w1 ⟨rfl, hb1⟩
      rw [hk'.out]
      obtain ⟨hc1, hf1⟩ := bcell hb1
      go_wp2_with (go_at_call 26; refine (weekday_yes d _ h0 h1).mono ?_; rintro e w' ⟨rfl, rfl⟩)
      refine (on_in k a n cap xs d _ (hx1.next hb1 (Nat.le_refl _)) hk'.out h0 h1).mono ?_
      rintro e w2 ⟨rfl, hb2⟩
      go_wp2_with fail
      go_ret
      exact ⟨rfl, bstep (bstep (balloc (Below.refl _ _) _) hb1) hb2⟩
  · have hr : on k xs d = 0 := by unfold on; rw [if_neg (fun h => hk h.1)]
    rw [hr]; clear hr
    have hne : (chk k xs != 0) = true := by simp [hk]
    clear hk
    go_enter Tryd.func15, Tryd.ntmps15
    go_wp2_with fail
    refine (check_any k a n cap xs _ hx1 hb).mono ?_
    rintro e w1 ⟨rfl, hb1⟩
    go_wp2_with fail
    go_ret
    exact ⟨rfl, bstep (balloc (Below.refl _ _) _) hb1⟩
end Go.Proofs.YtjpjeimpmfoldaaDoor.W
