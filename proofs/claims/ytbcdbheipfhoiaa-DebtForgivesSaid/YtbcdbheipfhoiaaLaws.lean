/- The walks of the laws of debt. -/
import Derived.Test.YtbcdbheipfhoiaaWalkC
namespace Go.Proofs.Ytbcdbheipfhoiaa.W
open Go.RowKit Go.Proofs.Ytbcdbheipfhoiaa.M

theorem settles (o d : Int) (w : World) (ho : -9223372036854775808 ≤ o ∧ o ≤ 9223372036854775807) (hd : -9223372036854775808 ≤ d ∧ d ≤ 9223372036854775807) :
    Calls Try.prog 4 #[.int .i64 o, .int .i64 d] w fun e w' => e = .returned (.bool true) ∧ Below w.heap.size w w' := by
  obtain ⟨o', p, k, hs⟩ : ∃ o' p k, stl o d = (o', p, k) := ⟨_, _, _, rfl⟩
  have H := Lib.hid hs; clear hs
  go_enter Try.func4, Try.ntmps4
  go_wp2_with fail
  refine (settle_to o d o' p k _ ho hd H.out).mono ?_
  rintro e w1 ⟨rfl, hb1⟩
  go_wp2_with fail
  refine (refSettle_to o d o' p k _ ho hd H.out).mono ?_
  rintro e w2 ⟨rfl, rfl⟩
  go_wp2_with fail
  refine (awake_any _).mono ?_
  rintro e w3 ⟨rfl, hb3⟩
  obtain ⟨hc, hf⟩ := bcell hb3
  go_wp2
  go_ret
  exact ⟨rfl, bstep (balloc (bstep (Below.refl _ _) hb1) _) hb3⟩

theorem chains (a : Option Addr) (n cap : Nat) (xs : List Int) (w : World) (hx : Ints .i64 w a n cap xs) (hb : ∀ x ∈ xs, -9223372036854775808 ≤ x ∧ x ≤ 9223372036854775807) :
    Calls Try.prog 5 #[.slice a n cap] w fun e w' => e = .returned (.bool true) ∧ Below w.heap.size w w' := by
  by_cases hbig : 5000 < n
  · have hbig' : (5000 : Int) < (n : Int) := by omega
    go_enter Try.func5, Try.ntmps5
    go_wp2_with fail
    refine (awake_any _).mono ?_
    rintro e w3 ⟨rfl, hb3⟩
    go_wp2
    go_ret
    exact ⟨rfl, hb3⟩
  · have hbig' : ¬ (5000 : Int) < (n : Int) := by omega
    obtain ⟨o', ps, k, hs⟩ : ∃ o' ps k, chain xs = (o', ps, k) := ⟨_, _, _, rfl⟩
    go_enter Try.func5, Try.ntmps5
    go_wp2_with fail
    refine (chain_any _ _ _ _ _ hx hb).mono ?_
    rw [hs]
    rintro e w1 ⟨a1, cap1, rfl, hI1, hb1⟩
    have hx1 := (hx.next hb1 (Nat.le_refl _)).alloc (.cells #[.int .i64 o'] 25)
    go_wp2_with fail
    refine (refChain_any _ _ _ _ _ hx1 hb).mono ?_
    rw [hs]
    rintro e w2 ⟨a2, cap2, rfl, hI2, hb2⟩
    obtain ⟨hc2, hf2⟩ := bcell hb2
    have hz2 : w1.heap.size < w2.heap.size := by have := hb2.size; simp at this; omega
    clear hs
    go_wp2_with fail
    refine (awake_any _).mono ?_
    rintro e w3 ⟨rfl, hb3⟩
    have hI1' := ((hI1.alloc (.cells #[.int .i64 o'] 25)).next hb2 (Nat.le_refl _)).next hb3 (Nat.le_refl _)
    have hI2' := hI2.next hb3 (Nat.le_refl _)
    obtain ⟨hc3, hf3⟩ := bcell hb3
    go_wp2_with fail
    refine (same_yes _ _ _ _ _ _ _ hI1' hI2').mono ?_
    rintro e w4 ⟨rfl, hb4⟩
    go_wp2
    go_ret
    exact ⟨rfl, bstep (bstep (bstep (balloc hb1 _) hb2) hb3) hb4⟩

theorem forgives (o c : Int) (w : World) (ho : -9223372036854775808 ≤ o ∧ o ≤ 9223372036854775807) (hd : -9223372036854775808 ≤ c ∧ c ≤ 9223372036854775807) :
    Calls Try.prog 8 #[.int .i64 o, .int .i64 c] w fun e w' => e = .returned (.bool true) ∧ Below w.heap.size w w' := by
  by_cases h : o < 0 ∨ 1125899906842624 < o ∨ c < 0 ∨ o < c
  · go_enter Try.func8, Try.ntmps8
    go_wp2_with fail
    refine (forgive_no o c _ h).mono ?_
    rintro e w1 ⟨rfl, hb1⟩
    have H := Lib.hid h; clear h
    by_cases h1 : o < 0
    · go_wp2_with fail
      refine (awake_any _).mono ?_
      rintro e w3 ⟨rfl, hb3⟩
      obtain ⟨hc3, hf3⟩ := bcell hb3
      go_wp2
      go_ret
      exact ⟨rfl, bstep (balloc hb1 _) hb3⟩
    by_cases h2 : 1125899906842624 < o
    · go_wp2_with fail
      refine (awake_any _).mono ?_
      rintro e w3 ⟨rfl, hb3⟩
      obtain ⟨hc3, hf3⟩ := bcell hb3
      go_wp2
      go_ret
      exact ⟨rfl, bstep (balloc hb1 _) hb3⟩
    by_cases h3 : c < 0
    · go_wp2_with fail
      refine (awake_any _).mono ?_
      rintro e w3 ⟨rfl, hb3⟩
      obtain ⟨hc3, hf3⟩ := bcell hb3
      go_wp2
      go_ret
      exact ⟨rfl, bstep (balloc hb1 _) hb3⟩
    have h4 : o < c := by have := H.out; omega
    go_wp2_with fail
    refine (awake_any _).mono ?_
    rintro e w3 ⟨rfl, hb3⟩
    obtain ⟨hc3, hf3⟩ := bcell hb3
    go_wp2
    go_ret
    exact ⟨rfl, bstep (balloc hb1 _) hb3⟩
  · have h0 : 0 ≤ o := by omega
    have h1 : o ≤ 1125899906842624 := by omega
    have h2 : 0 ≤ c := by omega
    have h3 : c ≤ o := by omega
    clear h
    go_enter Try.func8, Try.ntmps8
    go_wp2_with fail
    refine (forgive_yes o c _ h1 h2 h3).mono ?_
    rintro e w1 ⟨rfl, hb1⟩
    go_wp2_with fail
    refine (awake_any _).mono ?_
    rintro e w3 ⟨rfl, hb3⟩
    obtain ⟨hc3, hf3⟩ := bcell hb3
    go_wp2
    go_ret
    exact ⟨rfl, bstep (balloc hb1 _) hb3⟩
end Go.Proofs.Ytbcdbheipfhoiaa.W
