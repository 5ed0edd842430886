/- The walks of the week: Minutes, Days; the reference's Check. -/
import Derived.Test.YtjpjeimpmfoldaaDoorWkF
import Derived.BigQuiet
namespace Go.Proofs.YtjpjeimpmfoldaaDoor.W
open Go.RowKit Go.Proofs.YtjpjeimpmfoldaaDoor.M Go.Proofs.YtjpjeimpmfoldaaDoor.WL

theorem Minutes_any (k : Nat → Int) (a : Option Addr) (n cap : Nat) (xs : List Int) (f t : Int) (w : World) (ht : Tab w) (hx : Ints .i64 w a n cap xs) (hb : IB xs) (_hf : -9223372036854775808 ≤ f ∧ f ≤ 9223372036854775807) (_ht : -9223372036854775808 ≤ t ∧ t ≤ 9223372036854775807) :
    Calls Tryd.prog 17 #[.agg #[.int .i64 (k 0), .int .i64 (k 1), .int .i64 (k 2), .int .i64 (k 3), .int .i64 (k 4), .int .i64 (k 5), .int .i64 (k 6), .slice a n cap], .agg #[.int .i64 f, .int .i64 t]] w fun e w' => e = .returned (.int .i64 (mins k xs f t)) ∧ Below w.heap.size w w' := by
  have hx1 := (hx.alloc (.cells #[.int .i64 (k 0), .int .i64 (k 1), .int .i64 (k 2), .int .i64 (k 3), .int .i64 (k 4), .int .i64 (k 5), .int .i64 (k 6), .slice a n cap] 26)).alloc (.cells #[.int .i64 f, .int .i64 t] 37)
  have ht1 := (ht.alloc (.cells #[.int .i64 (k 0), .int .i64 (k 1), .int .i64 (k 2), .int .i64 (k 3), .int .i64 (k 4), .int .i64 (k 5), .int .i64 (k 6), .slice a n cap] 26)).alloc (.cells #[.int .i64 f, .int .i64 t] 37)
  have hb0 := balloc (balloc (Below.refl w.heap.size w) (.cells #[.int .i64 (k 0), .int .i64 (k 1), .int .i64 (k 2), .int .i64 (k 3), .int .i64 (k 4), .int .i64 (k 5), .int .i64 (k 6), .slice a n cap] 26)) (.cells #[.int .i64 f, .int .i64 t] 37)
  clear hx ht
  go_enter Tryd.func17, Tryd.ntmps17
  go_wp2_with fail
  refine (worked_any k a n cap xs f t _ ht1 hx1 hb _hf _ht).mono ?_
  rintro e w1 ⟨rfl, hb1⟩
  go_wp2_with fail
  go_ret
  exact ⟨rfl, bstep hb0 hb1⟩
theorem Days_any (k : Nat → Int) (a : Option Addr) (n cap : Nat) (xs : List Int) (f t : Int) (w : World) (ht : Tab w) (hx : Ints .i64 w a n cap xs) (hb : IB xs) (_hf : -9223372036854775808 ≤ f ∧ f ≤ 9223372036854775807) (_ht : -9223372036854775808 ≤ t ∧ t ≤ 9223372036854775807) :
    Calls Tryd.prog 18 #[.agg #[.int .i64 (k 0), .int .i64 (k 1), .int .i64 (k 2), .int .i64 (k 3), .int .i64 (k 4), .int .i64 (k 5), .int .i64 (k 6), .slice a n cap], .agg #[.int .i64 f, .int .i64 t]] w fun e w' => e = .returned (.int .i64 (days k xs f t)) ∧ Below w.heap.size w w' := by
  have hx1 := (hx.alloc (.cells #[.int .i64 (k 0), .int .i64 (k 1), .int .i64 (k 2), .int .i64 (k 3), .int .i64 (k 4), .int .i64 (k 5), .int .i64 (k 6), .slice a n cap] 26)).alloc (.cells #[.int .i64 f, .int .i64 t] 37)
  have ht1 := (ht.alloc (.cells #[.int .i64 (k 0), .int .i64 (k 1), .int .i64 (k 2), .int .i64 (k 3), .int .i64 (k 4), .int .i64 (k 5), .int .i64 (k 6), .slice a n cap] 26)).alloc (.cells #[.int .i64 f, .int .i64 t] 37)
  have hb0 := balloc (balloc (Below.refl w.heap.size w) (.cells #[.int .i64 (k 0), .int .i64 (k 1), .int .i64 (k 2), .int .i64 (k 3), .int .i64 (k 4), .int .i64 (k 5), .int .i64 (k 6), .slice a n cap] 26)) (.cells #[.int .i64 f, .int .i64 t] 37)
  clear hx ht
  go_enter Tryd.func18, Tryd.ntmps18
  go_wp2_with fail
  refine (worked_any k a n cap xs f t _ ht1 hx1 hb _hf _ht).mono ?_
  rintro e w1 ⟨rfl, hb1⟩
  go_wp2_with fail
  go_ret
  exact ⟨rfl, bstep hb0 hb1⟩

theorem rcheck_bad (k : Nat → Int) (a : Option Addr) (n cap : Nat) (w : World) (h : ¬ ok k) :
    Calls Tryd.prog 12 #[.agg #[.int .i64 (k 0), .int .i64 (k 1), .int .i64 (k 2), .int .i64 (k 3), .int .i64 (k 4), .int .i64 (k 5), .int .i64 (k 6)], .slice a n cap] w fun e w' => e = .returned (.int .i64 2) ∧ Below w.heap.size w w' := by
  have H : Hid (¬ ok k) := h
  clear h
  go_enter Tryd.func12, Tryd.ntmps12
  go_wp2_with fail
  go_loop [5] (fun t => ∃ i : Nat, (i ≤ 7 ∧ t = .int .i64 i) ∧ RowKit.Hid ((0 < i → (0 ≤ k 0 ∧ k 0 ≤ 1440)) ∧ (1 < i → (0 ≤ k 1 ∧ k 1 ≤ 1440)) ∧ (2 < i → (0 ≤ k 2 ∧ k 2 ≤ 1440)) ∧ (3 < i → (0 ≤ k 3 ∧ k 3 ≤ 1440)) ∧ (4 < i → (0 ≤ k 4 ∧ k 4 ≤ 1440)) ∧ (5 < i → (0 ≤ k 5 ∧ k 5 ≤ 1440)) ∧ (6 < i → (0 ≤ k 6 ∧ k 6 ≤ 1440)))) (fun t => (8 - intOf t).toNat)
  case atStart => exact ⟨0, ⟨by omega, rfl⟩, Lib.hid (by omega)⟩
  case round =>
    obtain ⟨i, ⟨hi, rfl⟩, hg⟩ := hrel
    rcases (by omega : i = 0 ∨ i = 1 ∨ i = 2 ∨ i = 3 ∨ i = 4 ∨ i = 5 ∨ i = 6 ∨ i = 7) with rfl | rfl | rfl | rfl | rfl | rfl | rfl | rfl
    · rcases (by omega : k 0 < 0 ∨ 1440 < k 0 ∨ (0 ≤ k 0 ∧ k 0 ≤ 1440)) with c | c | ⟨c, c'⟩
      · go_wp2_with fail
        go_ret
        exact ⟨rfl, balloc (Below.refl _ _) _⟩
      · have c' : 0 ≤ k 0 := by omega
        go_wp2_with fail
        go_ret
        exact ⟨rfl, balloc (Below.refl _ _) _⟩
      · go_wp2_with fail
        go_round
        case rel => exact ⟨1, ⟨by omega, rfl⟩, Lib.hid (by have := hg.out; omega)⟩
        case measure => simp [intOf]
    · rcases (by omega : k 1 < 0 ∨ 1440 < k 1 ∨ (0 ≤ k 1 ∧ k 1 ≤ 1440)) with c | c | ⟨c, c'⟩
      · go_wp2_with fail
        go_ret
        exact ⟨rfl, balloc (Below.refl _ _) _⟩
      · have c' : 0 ≤ k 1 := by omega
        go_wp2_with fail
        go_ret
        exact ⟨rfl, balloc (Below.refl _ _) _⟩
      · go_wp2_with fail
        go_round
        case rel => exact ⟨2, ⟨by omega, rfl⟩, Lib.hid (by have := hg.out; omega)⟩
        case measure => simp [intOf]
    · rcases (by omega : k 2 < 0 ∨ 1440 < k 2 ∨ (0 ≤ k 2 ∧ k 2 ≤ 1440)) with c | c | ⟨c, c'⟩
      · go_wp2_with fail
        go_ret
        exact ⟨rfl, balloc (Below.refl _ _) _⟩
      · have c' : 0 ≤ k 2 := by omega
        go_wp2_with fail
        go_ret
        exact ⟨rfl, balloc (Below.refl _ _) _⟩
      · go_wp2_with fail
        go_round
        case rel => exact ⟨3, ⟨by omega, rfl⟩, Lib.hid (by have := hg.out; omega)⟩
        case measure => simp [intOf]
    · rcases (by omega : k 3 < 0 ∨ 1440 < k 3 ∨ (0 ≤ k 3 ∧ k 3 ≤ 1440)) with c | c | ⟨c, c'⟩
      · go_wp2_with fail
        go_ret
        exact ⟨rfl, balloc (Below.refl _ _) _⟩
      · have c' : 0 ≤ k 3 := by omega
        go_wp2_with fail
        go_ret
        exact ⟨rfl, balloc (Below.refl _ _) _⟩
      · go_wp2_with fail
        go_round
        case rel => exact ⟨4, ⟨by omega, rfl⟩, Lib.hid (by have := hg.out; omega)⟩
        case measure => simp [intOf]
    · rcases (by omega : k 4 < 0 ∨ 1440 < k 4 ∨ (0 ≤ k 4 ∧ k 4 ≤ 1440)) with c | c | ⟨c, c'⟩
      · go_wp2_with fail
        go_ret
        exact ⟨rfl, balloc (Below.refl _ _) _⟩
      · have c' : 0 ≤ k 4 := by omega
        go_wp2_with fail
        go_ret
        exact ⟨rfl, balloc (Below.refl _ _) _⟩
      · go_wp2_with fail
        go_round
        case rel => exact ⟨5, ⟨by omega, rfl⟩, Lib.hid (by have := hg.out; omega)⟩
        case measure => simp [intOf]
    · rcases (by omega : k 5 < 0 ∨ 1440 < k 5 ∨ (0 ≤ k 5 ∧ k 5 ≤ 1440)) with c | c | ⟨c, c'⟩
      · go_wp2_with fail
        go_ret
        exact ⟨rfl, balloc (Below.refl _ _) _⟩
      · have c' : 0 ≤ k 5 := by omega
        go_wp2_with fail
        go_ret
        exact ⟨rfl, balloc (Below.refl _ _) _⟩
      · go_wp2_with fail
        go_round
        case rel => exact ⟨6, ⟨by omega, rfl⟩, Lib.hid (by have := hg.out; omega)⟩
        case measure => simp [intOf]
    · rcases (by omega : k 6 < 0 ∨ 1440 < k 6 ∨ (0 ≤ k 6 ∧ k 6 ≤ 1440)) with c | c | ⟨c, c'⟩
      · go_wp2_with fail
        go_ret
        exact ⟨rfl, balloc (Below.refl _ _) _⟩
      · have c' : 0 ≤ k 6 := by omega
        go_wp2_with fail
        go_ret
        exact ⟨rfl, balloc (Below.refl _ _) _⟩
      · go_wp2_with fail
        go_round
        case rel => exact ⟨7, ⟨by omega, rfl⟩, Lib.hid (by have := hg.out; omega)⟩
        case measure => simp [intOf]
    · exact absurd hg.out (by have := H.out; unfold ok at this; omega)

theorem rcheck_many (k : Nat → Int) (a : Option Addr) (n cap : Nat) (w : World) (o : ok k) (big : (4096 : Int) < (n : Int)) :
    Calls Tryd.prog 12 #[.agg #[.int .i64 (k 0), .int .i64 (k 1), .int .i64 (k 2), .int .i64 (k 3), .int .i64 (k 4), .int .i64 (k 5), .int .i64 (k 6)], .slice a n cap] w fun e w' => e = .returned (.int .i64 5) ∧ Below w.heap.size w w' := by
  obtain ⟨⟨p0, q0⟩, ⟨p1, q1⟩, ⟨p2, q2⟩, ⟨p3, q3⟩, ⟨p4, q4⟩, ⟨p5, q5⟩, ⟨p6, q6⟩⟩ := o
  go_enter Tryd.func12, Tryd.ntmps12
  go_wp2_with fail
  go_loop [5] (fun t => ∃ i : Nat, i ≤ 7 ∧ t = .int .i64 i) (fun t => (8 - intOf t).toNat)
  case atStart => exact ⟨0, by omega, rfl⟩
  case round =>
    obtain ⟨i, hi, rfl⟩ := hrel
    rcases (by omega : i = 0 ∨ i = 1 ∨ i = 2 ∨ i = 3 ∨ i = 4 ∨ i = 5 ∨ i = 6 ∨ i = 7) with rfl | rfl | rfl | rfl | rfl | rfl | rfl | rfl
    · go_wp2_with fail
      go_round
      case rel => exact ⟨1, by omega, rfl⟩
      case measure => simp [intOf]
    · go_wp2_with fail
      go_round
      case rel => exact ⟨2, by omega, rfl⟩
      case measure => simp [intOf]
    · go_wp2_with fail
      go_round
      case rel => exact ⟨3, by omega, rfl⟩
      case measure => simp [intOf]
    · go_wp2_with fail
      go_round
      case rel => exact ⟨4, by omega, rfl⟩
      case measure => simp [intOf]
    · go_wp2_with fail
      go_round
      case rel => exact ⟨5, by omega, rfl⟩
      case measure => simp [intOf]
    · go_wp2_with fail
      go_round
      case rel => exact ⟨6, by omega, rfl⟩
      case measure => simp [intOf]
    · go_wp2_with fail
      go_round
      case rel => exact ⟨7, by omega, rfl⟩
      case measure => simp [intOf]
    · go_wp2_with fail
      go_ret
      exact ⟨rfl, balloc (Below.refl _ _) _⟩

set_option maxHeartbeats 1000000 in
theorem rcheck_list (k : Nat → Int) (a : Option Addr) (n cap : Nat) (xs : List Int) (w : World) (hx : Ints .i64 w a n cap xs) (hb : IB xs) (o : ok k) (big : ¬ (4096 : Int) < (n : Int)) :
    Calls Tryd.prog 12 #[.agg #[.int .i64 (k 0), .int .i64 (k 1), .int .i64 (k 2), .int .i64 (k 3), .int .i64 (k 4), .int .i64 (k 5), .int .i64 (k 6)], .slice a n cap] w fun e w' => e = .returned (.int .i64 (chkL none xs)) ∧ Below w.heap.size w w' := by
  have hl' := Lib.hid hx.len
  have hx1 := hx.alloc (.cells #[.int .i64 (k 0), .int .i64 (k 1), .int .i64 (k 2), .int .i64 (k 3), .int .i64 (k 4), .int .i64 (k 5), .int .i64 (k 6)] 22)
  have hb0 := balloc (Below.refl w.heap.size w) (.cells #[.int .i64 (k 0), .int .i64 (k 1), .int .i64 (k 2), .int .i64 (k 3), .int .i64 (k 4), .int .i64 (k 5), .int .i64 (k 6)] 22)
  clear hx
  obtain ⟨⟨p0, q0⟩, ⟨p1, q1⟩, ⟨p2, q2⟩, ⟨p3, q3⟩, ⟨p4, q4⟩, ⟨p5, q5⟩, ⟨p6, q6⟩⟩ := o
  go_enter Tryd.func12, Tryd.ntmps12
  go_wp2_with fail
  go_loop [5] (fun t => ∃ i : Nat, i ≤ 7 ∧ t = .int .i64 i) (fun t => (8 - intOf t).toNat)
  case atStart => exact ⟨0, by omega, rfl⟩
  case round =>
    obtain ⟨i, hi, rfl⟩ := hrel
    rcases (by omega : i = 0 ∨ i = 1 ∨ i = 2 ∨ i = 3 ∨ i = 4 ∨ i = 5 ∨ i = 6 ∨ i = 7) with rfl | rfl | rfl | rfl | rfl | rfl | rfl | rfl
    · go_wp2_with fail
      go_round
      case rel => exact ⟨1, by omega, rfl⟩
      case measure => simp [intOf]
    · go_wp2_with fail
      go_round
      case rel => exact ⟨2, by omega, rfl⟩
      case measure => simp [intOf]
    · go_wp2_with fail
      go_round
      case rel => exact ⟨3, by omega, rfl⟩
      case measure => simp [intOf]
    · go_wp2_with fail
      go_round
      case rel => exact ⟨4, by omega, rfl⟩
      case measure => simp [intOf]
    · go_wp2_with fail
      go_round
      case rel => exact ⟨5, by omega, rfl⟩
      case measure => simp [intOf]
    · go_wp2_with fail
      go_round
      case rel => exact ⟨6, by omega, rfl⟩
      case measure => simp [intOf]
    · go_wp2_with fail
      go_round
      case rel => exact ⟨7, by omega, rfl⟩
      case measure => simp [intOf]
    · go_wp2_with fail
      go_loopw [6] (fun s wr => ∃ (i q : Nat), i ≤ n ∧ s = .int .i64 i ∧ wr = (w.alloc (.cells #[.int .i64 (k 0), .int .i64 (k 1), .int .i64 (k 2), .int .i64 (k 3), .int .i64 (k 4), .int .i64 (k 5), .int .i64 (k 6)] 22)).drewN q ∧ Hid (chkL none xs = chkL (prev xs i) (xs.drop i))) (fun s _ => n - (intOf s).toNat)
      case atStart => exact ⟨0, 0, Nat.zero_le _, rfl, rfl, rfl⟩
      case round =>
        obtain ⟨i, q, hi, rfl, rfl, hch⟩ := hrel
        by_cases hlt : i < n
        · obtain ⟨b, off, rfl, hbl, hcell⟩ := hx1.at_ hlt
          have hd := getD_bd hb (j := i) (by rw [hl'.out]; exact hlt)
          have hch' : Hid (chkL none xs = if xs.getD i 0 < -25567 ∨ 84005 < xs.getD i 0 then 15 else if notAbove (prev xs i) (xs.getD i 0) = true then 8 else chkL (some (xs.getD i 0)) (xs.drop (i + 1))) := by
            have h := hch.out
            rw [drop_cons xs i (by rw [hl'.out]; exact hlt)] at h
            exact h
          clear hch
          have hps : Hid (prev xs (i + 1) = some (xs.getD i 0)) := by show _ = _; unfold prev; rw [if_neg (by omega)]; rfl
          by_cases i0 : i = 0
          · subst i0
            have hcell' : (w.alloc (.cells #[.int .i64 (k 0), .int .i64 (k 1), .int .i64 (k 2), .int .i64 (k 3), .int .i64 (k 4), .int .i64 (k 5), .int .i64 (k 6)] 22)).cell? ⟨b, off, none⟩ = some (.int .i64 (xs.getD 0 0)) := hcell
            clear hcell
            generalize xs.getD 0 0 = d at *
            by_cases hin : d < -25567 ∨ 84005 < d
            · have hfin : Hid (chkL none xs = 15) := by have h := hch'.out; rw [if_pos hin] at h; exact h
              clear hch'
              go_wp2_with (go_at_call 19; refine (rin_no d _ hin).mono ?_; rintro e w' ⟨rfl, rfl⟩)
              go_ret
              exact ⟨ret_int hfin.out.symm, below_drewN hb0 _⟩
            · have hfin : Hid (chkL none xs = chkL (prev xs 1) (xs.drop 1)) := by
                have h := hch'.out
                rw [if_neg hin, if_neg (by simp [prev, notAbove])] at h
                show _ = _
                rw [hps.out]
                exact h
              have h0 : -25567 ≤ d := by omega
              have h1 : d ≤ 84005 := by omega
              clear hch' hin
              go_wp2_with (go_at_call 19; refine (rin_yes d _ h0 h1).mono ?_; rintro e w' ⟨rfl, rfl⟩)
              go_quiet (fail)
              go_wp2_with fail
              go_roundw
              case rel => exact ⟨1, _, by omega, by go_num, rfl, hfin⟩
              case measure => simp [intOf]; omega
          · have ip : 0 < i := by omega
            have ip' : decide ((0 : Int) < (i : Int)) = true := by simp; omega
            have hc0 : (w.alloc (.cells #[.int .i64 (k 0), .int .i64 (k 1), .int .i64 (k 2), .int .i64 (k 3), .int .i64 (k 4), .int .i64 (k 5), .int .i64 (k 6)] 22)).cell? ⟨b, off + (i - 1), none⟩ = some (.int .i64 (xs.getD (i - 1) 0)) := by
              obtain ⟨b', off', hq, _, h⟩ := hx1.at_ (j := i - 1) (by omega)
              injection hq with hq
              injection hq with h1 h2
              subst h1 h2
              exact h
            have hd0 := getD_bd hb (j := i - 1) (by rw [hl'.out]; omega)
            have hpv : Hid (prev xs i = some (xs.getD (i - 1) 0)) := by show _ = _; unfold prev; rw [if_neg i0]
            generalize xs.getD (i - 1) 0 = d0 at *
            generalize xs.getD i 0 = d at *
            by_cases hin : d < -25567 ∨ 84005 < d
            · have hfin : Hid (chkL none xs = 15) := by have h := hch'.out; rw [if_pos hin] at h; exact h
              clear hch'
              go_wp2_with (go_at_call 19; refine (rin_no d _ hin).mono ?_; rintro e w' ⟨rfl, rfl⟩)
              go_ret
              exact ⟨ret_int hfin.out.symm, below_drewN hb0 _⟩
            · have h0 : -25567 ≤ d := by omega
              have h1 : d ≤ 84005 := by omega
              have i1 : (0 : Int) ≤ (i : Int) - 1 := by omega
              have s1 : IntKind.i64.wrap ((i : Int) - 1) = (i : Int) - 1 := IntWalk.i64_in _ (by omega)
              have s2 : ((i : Int) - 1).toNat = i - 1 := by omega
              by_cases hge : d ≤ d0
              · have hfin : Hid (chkL none xs = 8) := by
                  have h := hch'.out
                  rw [if_neg hin, hpv.out, if_pos (by simp [notAbove, hge])] at h; exact h
                clear hch' hin
                go_wp2_with (go_at_call 19; refine (rin_yes d _ h0 h1).mono ?_; rintro e w' ⟨rfl, rfl⟩)
                go_quiet (fail)
                go_wp2_with fail
                go_ret
                exact ⟨ret_int hfin.out.symm, below_drewN (below_drewN hb0 _) _⟩
              · have hfin : Hid (chkL none xs = chkL (prev xs (i + 1)) (xs.drop (i + 1))) := by
                  have h := hch'.out
                  rw [if_neg hin, hpv.out, if_neg (by simp [notAbove, hge])] at h
                  show _ = _
                  rw [hps.out]; exact h
                clear hch' hin
                go_wp2_with (go_at_call 19; refine (rin_yes d _ h0 h1).mono ?_; rintro e w' ⟨rfl, rfl⟩)
                go_quiet (fail)
                clear s1 s2 i1
                go_wp2_with fail
                go_roundw
                case rel => exact ⟨i + 1, _, by omega, by go_num, rfl, hfin⟩
                case measure => simp [intOf]; omega
        · obtain rfl : i = n := by omega
          have hfin : Hid (chkL none xs = 0) := by
            have h := hch.out
            rw [List.drop_of_length_le (by rw [hl'.out]; exact Nat.le_refl _), chkL] at h
            exact h
          clear hch
          go_wp2_with fail
          go_ret
          exact ⟨ret_int hfin.out.symm, below_drewN hb0 _⟩

theorem rcheck_any (k : Nat → Int) (a : Option Addr) (n cap : Nat) (xs : List Int) (w : World) (hx : Ints .i64 w a n cap xs) (hb : IB xs) :
    Calls Tryd.prog 12 #[.agg #[.int .i64 (k 0), .int .i64 (k 1), .int .i64 (k 2), .int .i64 (k 3), .int .i64 (k 4), .int .i64 (k 5), .int .i64 (k 6)], .slice a n cap] w fun e w' => e = .returned (.int .i64 (chk k xs)) ∧ Below w.heap.size w w' := by
  have hl := hx.len
  by_cases o : ok k
  · by_cases big : 4096 < n
    · have hr : chk k xs = 5 := by unfold chk; rw [if_pos o, if_pos (by omega)]
      rw [hr]
      exact rcheck_many k a n cap w o (by omega)
    · have hr : chk k xs = chkL none xs := by unfold chk; rw [if_pos o, if_neg (by omega)]
      rw [hr]
      exact rcheck_list k a n cap xs w hx hb o (by omega)
  · have hr : chk k xs = 2 := by unfold chk; rw [if_neg o]
    rw [hr]
    exact rcheck_bad k a n cap w o
end Go.Proofs.YtjpjeimpmfoldaaDoor.W
