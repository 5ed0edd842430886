/- The walks of the week: the reference's minutes on a day; the document's example. -/
import Derived.Test.YtjpjeimpmfoldaaDoorWkG
namespace Go.Proofs.YtjpjeimpmfoldaaDoor.W
open Go.RowKit Go.Proofs.YtjpjeimpmfoldaaDoor.M Go.Proofs.YtjpjeimpmfoldaaDoor.WL

theorem rweekday_is (d i : Int) (w : World) (h0 : -25567 ≤ d) (h1 : d ≤ 84005) (h : (d + 25567) % 7 = i) :
    Calls Tryd.prog 24 #[.int .i64 d] w fun e w' => e = .returned (.int .i64 i) ∧ w = w' := by
  subst h; exact rweekday d w h0 h1

theorem mem_drop {xs : List Int} {x : Int} (h : x ∈ xs) (i : Nat) (hn : ∀ j, j < i → xs.getD j 0 ≠ x) : x ∈ xs.drop i := by
  obtain ⟨t, ht, e⟩ := mem_getD h
  have hti : i ≤ t := by
    by_cases c : t < i
    · exact absurd e (hn t c)
    · omega
  rw [List.mem_drop_iff_getElem]
  refine ⟨t - i, by omega, ?_⟩
  have : xs[t] = x := by rw [← e]; simp [List.getD_eq_getElem?_getD, ht]
  simp only [show i + (t - i) = t by omega, this]

theorem rOn_any (k : Nat → Int) (a : Option Addr) (n cap : Nat) (xs : List Int) (d : Int) (w : World) (hx : Ints .i64 w a n cap xs) (hk : chk k xs = 0) :
    Calls Tryd.prog 13 #[.agg #[.int .i64 (k 0), .int .i64 (k 1), .int .i64 (k 2), .int .i64 (k 3), .int .i64 (k 4), .int .i64 (k 5), .int .i64 (k 6)], .slice a n cap, .int .i64 d] w fun e w' => e = .returned (.int .i64 (on k xs d)) ∧ Below w.heap.size w w' := by
  have hl' := Lib.hid hx.len
  have hn : n ≤ 4096 := by rw [← hx.len]; exact (chk_zero hk).2.1
  have hx1 := hx.alloc (.cells #[.int .i64 (k 0), .int .i64 (k 1), .int .i64 (k 2), .int .i64 (k 3), .int .i64 (k 4), .int .i64 (k 5), .int .i64 (k 6)] 22)
  have hb0 := balloc (Below.refl w.heap.size w) (.cells #[.int .i64 (k 0), .int .i64 (k 1), .int .i64 (k 2), .int .i64 (k 3), .int .i64 (k 4), .int .i64 (k 5), .int .i64 (k 6)] 22)
  clear hx
  by_cases hin : d < -25567 ∨ 84005 < d
  · have hr : on k xs d = 0 := by unfold on; rw [if_neg (by omega)]
    rw [hr]; clear hr hk
    go_enter Tryd.func13, Tryd.ntmps13
    go_wp2_with (go_at_call 19; refine (rin_no d _ hin).mono ?_; rintro e w' ⟨rfl, rfl⟩)
    go_ret
    exact ⟨rfl, hb0⟩
  · have h0 : -25567 ≤ d := by omega
    have h1 : d ≤ 84005 := by omega
    have hr : on k xs d = punch (W k) xs d := by unfold on; rw [if_pos ⟨hk, h0, h1⟩]
    rw [hr]; clear hr hk hin
    go_enter Tryd.func13, Tryd.ntmps13
    go_wp2_with (go_at_call 19; refine (rin_yes d _ h0 h1).mono ?_; rintro e w' ⟨rfl, rfl⟩)
    go_loop [7] (fun s => ∃ i : Nat, i ≤ n ∧ s = .int .i64 i ∧ Hid (∀ j, j < i → xs.getD j 0 ≠ d)) (fun s => n - (intOf s).toNat)
    case atStart => exact ⟨0, Nat.zero_le _, rfl, fun j hj => absurd hj (by omega)⟩
    case round =>
      obtain ⟨i, hi, rfl, hne⟩ := hrel
      by_cases hlt : i < n
      · obtain ⟨b, off, rfl, hbl, hcell⟩ := hx1.at_ hlt
        have hmem := getD_mem (xs := xs) (t := i) (by rw [hl'.out]; exact hlt)
        generalize hx0 : xs.getD i 0 = x at *
        have HX := Lib.hid hx0; clear hx0
        by_cases c : x = d
        · subst c
          have hr : Hid (punch (W k) xs x = 0) := by show _ = _; unfold punch; rw [if_pos hmem]
          have e1 : (x == x) = true := by simp
          clear hmem
          go_wp2_with fail
          go_ret
          exact ⟨ret_int hr.out.symm, hb0⟩
        · have e1 : (x == d) = false := by simp [c]
          clear hmem
          go_wp2_with fail
          go_round
          case rel => exact ⟨i + 1, by omega, by go_num, fun j hj => by
            by_cases e : j = i
            · subst e; rw [HX.out]; exact c
            · exact hne.out j (by omega)⟩
          case measure => simp [intOf]; omega
      · obtain rfl : i = n := by omega
        have hnot : d ∉ xs := fun h => by
          obtain ⟨t, ht, e⟩ := mem_getD h
          exact hne.out t (by rw [hl'.out] at ht; exact ht) e
        have hr : Hid (punch (W k) xs d = k (wd d)) := by show _ = _; unfold punch W; rw [if_neg hnot]
        clear hnot hne
        rcases (by omega : (d + 25567) % 7 = 0 ∨ (d + 25567) % 7 = 1 ∨ (d + 25567) % 7 = 2 ∨ (d + 25567) % 7 = 3 ∨ (d + 25567) % 7 = 4 ∨ (d + 25567) % 7 = 5 ∨ (d + 25567) % 7 = 6) with h | h | h | h | h | h | h
        · have hw : Hid (wd d = 0) := by show _ = _; unfold wd; rw [h]; rfl
          have hd := Lib.hid h; clear h
          go_wp2_with (go_at_call 24; refine (rweekday_is d 0 _ h0 h1 hd.out).mono ?_; rintro e w' ⟨rfl, rfl⟩)
          go_ret
          exact ⟨ret_int (by rw [hr.out, hw.out]), hb0⟩
        · have hw : Hid (wd d = 1) := by show _ = _; unfold wd; rw [h]; rfl
          have hd := Lib.hid h; clear h
          go_wp2_with (go_at_call 24; refine (rweekday_is d 1 _ h0 h1 hd.out).mono ?_; rintro e w' ⟨rfl, rfl⟩)
          go_ret
          exact ⟨ret_int (by rw [hr.out, hw.out]), hb0⟩
        · have hw : Hid (wd d = 2) := by show _ = _; unfold wd; rw [h]; rfl
          have hd := Lib.hid h; clear h
          go_wp2_with (go_at_call 24; refine (rweekday_is d 2 _ h0 h1 hd.out).mono ?_; rintro e w' ⟨rfl, rfl⟩)
          go_ret
          exact ⟨ret_int (by rw [hr.out, hw.out]), hb0⟩
        · have hw : Hid (wd d = 3) := by show _ = _; unfold wd; rw [h]; rfl
          have hd := Lib.hid h; clear h
          go_wp2_with (go_at_call 24; refine (rweekday_is d 3 _ h0 h1 hd.out).mono ?_; rintro e w' ⟨rfl, rfl⟩)
          go_ret
          exact ⟨ret_int (by rw [hr.out, hw.out]), hb0⟩
        · have hw : Hid (wd d = 4) := by show _ = _; unfold wd; rw [h]; rfl
          have hd := Lib.hid h; clear h
          go_wp2_with (go_at_call 24; refine (rweekday_is d 4 _ h0 h1 hd.out).mono ?_; rintro e w' ⟨rfl, rfl⟩)
          go_ret
          exact ⟨ret_int (by rw [hr.out, hw.out]), hb0⟩
        · have hw : Hid (wd d = 5) := by show _ = _; unfold wd; rw [h]; rfl
          have hd := Lib.hid h; clear h
          go_wp2_with (go_at_call 24; refine (rweekday_is d 5 _ h0 h1 hd.out).mono ?_; rintro e w' ⟨rfl, rfl⟩)
          go_ret
          exact ⟨ret_int (by rw [hr.out, hw.out]), hb0⟩
        · have hw : Hid (wd d = 6) := by show _ = _; unfold wd; rw [h]; rfl
          have hd := Lib.hid h; clear h
          go_wp2_with (go_at_call 24; refine (rweekday_is d 6 _ h0 h1 hd.out).mono ?_; rintro e w' ⟨rfl, rfl⟩)
          go_ret
          exact ⟨ret_int (by rw [hr.out, hw.out]), hb0⟩

theorem great_yes (k : Nat → Int) (a : Option Addr) (n cap : Nat) (w : World) (h : 300 < n) : Calls Tryd.prog 10 #[.agg #[.int .i64 (k 0), .int .i64 (k 1), .int .i64 (k 2), .int .i64 (k 3), .int .i64 (k 4), .int .i64 (k 5), .int .i64 (k 6), .slice a n cap]] w fun e w' => e = .returned (.bool true) ∧ Below w.heap.size w w' := by
  have h' : (300 : Int) < (n : Int) := by omega
  clear h
  go_enter Tryd.func10, Tryd.ntmps10
  go_wp2_with fail
  go_ret
  exact ⟨rfl, balloc (Below.refl _ _) _⟩

theorem great_no (k : Nat → Int) (a : Option Addr) (n cap : Nat) (w : World) (h : ¬ 300 < n) : Calls Tryd.prog 10 #[.agg #[.int .i64 (k 0), .int .i64 (k 1), .int .i64 (k 2), .int .i64 (k 3), .int .i64 (k 4), .int .i64 (k 5), .int .i64 (k 6), .slice a n cap]] w fun e w' => e = .returned (.bool false) ∧ Below w.heap.size w w' := by
  have h' : ¬ (300 : Int) < (n : Int) := by omega
  clear h
  go_enter Tryd.func10, Tryd.ntmps10
  go_wp2_with fail
  go_ret
  exact ⟨rfl, balloc (Below.refl _ _) _⟩

/-- The week of the document's example. -/
def k480 : Nat → Int := fun i => if i < 5 then 480 else 0
theorem ib480 : IB [19782] := by intro x hx; simp at hx; omega
theorem ex_minutes (a : Option Addr) (w : World) (ht : Tab w) (hx : Ints .i64 w a 1 1 [19782]) :
    Calls Tryd.prog 17 #[.agg #[.int .i64 480, .int .i64 480, .int .i64 480, .int .i64 480, .int .i64 480, .int .i64 0, .int .i64 0, .slice a 1 1], .agg #[.int .i64 19779, .int .i64 19786]] w fun e w' => e = .returned (.int .i64 1920) ∧ Below w.heap.size w w' := by
  have h := Minutes_any k480 a 1 1 [19782] 19779 19786 w ht hx ib480 (by omega) (by omega)
  rw [show mins k480 [19782] 19779 19786 = 1920 from by decide] at h
  exact h
theorem ex_days (a : Option Addr) (w : World) (ht : Tab w) (hx : Ints .i64 w a 1 1 [19782]) :
    Calls Tryd.prog 18 #[.agg #[.int .i64 480, .int .i64 480, .int .i64 480, .int .i64 480, .int .i64 480, .int .i64 0, .int .i64 0, .slice a 1 1], .agg #[.int .i64 19779, .int .i64 19786]] w fun e w' => e = .returned (.int .i64 4) ∧ Below w.heap.size w w' := by
  have h := Days_any k480 a 1 1 [19782] 19779 19786 w ht hx ib480 (by omega) (by omega)
  rw [show days k480 [19782] 19779 19786 = 4 from by decide] at h
  exact h
theorem ex_on1 (a : Option Addr) (w : World) (hx : Ints .i64 w a 1 1 [19782]) :
    Calls Tryd.prog 15 #[.agg #[.int .i64 480, .int .i64 480, .int .i64 480, .int .i64 480, .int .i64 480, .int .i64 0, .int .i64 0, .slice a 1 1], .int .i64 19782] w fun e w' => e = .returned (.int .i64 0) ∧ Below w.heap.size w w' := by
  have h := On_any k480 a 1 1 [19782] 19782 w hx ib480
  rw [show on k480 [19782] 19782 = 0 from by decide] at h
  exact h
theorem ex_on2 (a : Option Addr) (w : World) (hx : Ints .i64 w a 1 1 [19782]) :
    Calls Tryd.prog 15 #[.agg #[.int .i64 480, .int .i64 480, .int .i64 480, .int .i64 480, .int .i64 480, .int .i64 0, .int .i64 0, .slice a 1 1], .int .i64 19783] w fun e w' => e = .returned (.int .i64 480) ∧ Below w.heap.size w w' := by
  have h := On_any k480 a 1 1 [19782] 19783 w hx ib480
  rw [show on k480 [19782] 19783 = 480 from by decide] at h
  exact h
theorem awake_any (w : World) (ht : Tab w) : Calls Tryd.prog 11 #[] w fun e w' => e = .returned (.bool true) ∧ Below w.heap.size w w' := by
  have hx0 := Ints.made (k := .i64) (w := w) [19782] 27 (by decide)
  have hx1 := (hx0.alloc (.cells #[.int .i64 480, .int .i64 480, .int .i64 480, .int .i64 480, .int .i64 480, .int .i64 0, .int .i64 0, .slice (some ⟨w.heap.size, 0, none⟩) 1 1] 26)).alloc (.cells #[.int .i64 19779, .int .i64 19786] 37)
  have ht1 := ((ht.alloc (.cells #[.int .i64 19782] 27)).alloc (.cells #[.int .i64 480, .int .i64 480, .int .i64 480, .int .i64 480, .int .i64 480, .int .i64 0, .int .i64 0, .slice (some ⟨w.heap.size, 0, none⟩) 1 1] 26)).alloc (.cells #[.int .i64 19779, .int .i64 19786] 37)
  have hb0 := balloc (balloc (balloc (Below.refl w.heap.size w) (.cells #[.int .i64 19782] 27)) (.cells #[.int .i64 480, .int .i64 480, .int .i64 480, .int .i64 480, .int .i64 480, .int .i64 0, .int .i64 0, .slice (some ⟨w.heap.size, 0, none⟩) 1 1] 26)) (.cells #[.int .i64 19779, .int .i64 19786] 37)
  clear hx0 ht
  go_enter Tryd.func11, Tryd.ntmps11
  go_wp2_with fail
  refine (ex_minutes _ _ ht1 hx1).mono ?_
  rintro e w1 ⟨rfl, hb1⟩
  obtain ⟨hc, hf⟩ := bcell hb1
  go_wp2_with fail
  refine (ex_days _ _ (ht1.step hb1) (hx1.next hb1 (Nat.le_refl _))).mono ?_
  rintro e w2 ⟨rfl, hb2⟩
  clear hc hf
  have hb12 := bstep hb1 hb2
  obtain ⟨hc, hf⟩ := bcell hb12
  go_wp2_with fail
  refine (ex_on1 _ _ (hx1.next hb12 (Nat.le_refl _))).mono ?_
  rintro e w3 ⟨rfl, hb3⟩
  clear hc hf
  have hb13 := bstep hb12 hb3
  obtain ⟨hc, hf⟩ := bcell hb13
  go_wp2_with fail
  refine (ex_on2 _ _ (hx1.next hb13 (Nat.le_refl _))).mono ?_
  rintro e w4 ⟨rfl, hb4⟩
  go_wp2_with fail
  go_ret
  exact ⟨rfl, bstep hb0 (bstep hb13 hb4)⟩
end Go.Proofs.YtjpjeimpmfoldaaDoor.W
