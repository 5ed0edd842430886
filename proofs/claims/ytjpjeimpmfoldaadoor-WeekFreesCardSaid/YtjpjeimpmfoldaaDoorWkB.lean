/- The walks of the week: a pattern's check, its minutes on a day. -/
import Derived.Test.YtjpjeimpmfoldaaDoorWkA
import Derived.Test.YtjpjeimpmfoldaaDoorWkL
import Derived.Laws.Rows
import Derived.WalkLawsBesides
namespace Go.Proofs.YtjpjeimpmfoldaaDoor.W
open Go.RowKit Go.Proofs.YtjpjeimpmfoldaaDoor.M Go.Proofs.YtjpjeimpmfoldaaDoor.WL

def IB (xs : List Int) : Prop := ∀ x ∈ xs, -9223372036854775808 ≤ x ∧ x ≤ 9223372036854775807
def prev (xs : List Int) (i : Nat) : Option Int := if i = 0 then none else some (xs.getD (i - 1) 0)
theorem drop_cons (xs : List Int) (k : Nat) (h : k < xs.length) : xs.drop k = xs.getD k 0 :: xs.drop (k + 1) := by
  rw [List.drop_eq_getElem_cons h]
  simp [List.getD_eq_getElem?_getD, h]
theorem getD_bd {xs : List Int} (h : IB xs) {j : Nat} (hj : j < xs.length) : -9223372036854775808 ≤ xs.getD j 0 ∧ xs.getD j 0 ≤ 9223372036854775807 := by
  have h2 : xs.getD j 0 = xs[j] := by simp [List.getD_eq_getElem?_getD, hj]
  rw [h2]; exact h _ (List.getElem_mem _)

theorem right_not (k : Nat → Int) (w : World) (h : ¬ ok k) :
    Calls Tryd.prog 25 #[.agg #[.int .i64 (k 0), .int .i64 (k 1), .int .i64 (k 2), .int .i64 (k 3), .int .i64 (k 4), .int .i64 (k 5), .int .i64 (k 6)]] w fun e w' => e = .returned (.bool false) ∧ Below w.heap.size w w' := right_no _ _ _ _ _ _ _ w h
theorem right_ok (k : Nat → Int) (w : World) (h : ok k) :
    Calls Tryd.prog 25 #[.agg #[.int .i64 (k 0), .int .i64 (k 1), .int .i64 (k 2), .int .i64 (k 3), .int .i64 (k 4), .int .i64 (k 5), .int .i64 (k 6)]] w fun e w' => e = .returned (.bool true) ∧ Below w.heap.size w w' :=
  right_yes _ _ _ _ _ _ _ w h.1 h.2.1 h.2.2.1 h.2.2.2.1 h.2.2.2.2.1 h.2.2.2.2.2.1 h.2.2.2.2.2.2

theorem check_any (k : Nat → Int) (a : Option Addr) (n cap : Nat) (xs : List Int) (w : World) (hx : Ints .i64 w a n cap xs) (hb : IB xs) :
    Calls Tryd.prog 14 #[.agg #[.int .i64 (k 0), .int .i64 (k 1), .int .i64 (k 2), .int .i64 (k 3), .int .i64 (k 4), .int .i64 (k 5), .int .i64 (k 6), .slice a n cap]] w fun e w' => e = .returned (.int .i64 (chk k xs)) ∧ Below w.heap.size w w' := by
  have hl := hx.len
  have hcap := hx.2.1
  have hmax := hx.2.2.1
  unfold maxLen at hmax
  by_cases o : ok k
  · by_cases big : 4096 < n
    · have hr : chk k xs = 5 := by unfold chk; rw [if_pos o, if_pos (by omega)]
      rw [hr]; clear hr
      have big' : (4096 : Int) < (n : Int) := by omega
      clear hl
      go_enter Tryd.func14, Tryd.ntmps14
      go_wp2_with (go_at_call 25; refine (right_ok k _ o).mono ?_; rintro e w1 ⟨rfl, hb1⟩; obtain ⟨hc1, hf1⟩ := bcell hb1)
      go_ret
      exact ⟨rfl, bstep (balloc (Below.refl _ _) _) hb1⟩
    · have hr : chk k xs = chkL none xs := by unfold chk; rw [if_pos o, if_neg (by omega)]
      rw [hr]; clear hr
      have big' : ¬ (4096 : Int) < (n : Int) := by omega
      have hl' := Lib.hid hl; clear hl
      go_enter Tryd.func14, Tryd.ntmps14
      go_wp2_with (go_at_call 25; refine (right_ok k _ o).mono ?_; rintro e w1 ⟨rfl, hb1⟩; obtain ⟨hc1, hf1⟩ := bcell hb1)
      have hx1 : Ints .i64 w1 a n cap xs := (hx.alloc _).next hb1 (Nat.le_refl _)
      have hbel := bstep (balloc (Below.refl w.heap.size w) (.cells #[.int .i64 (k 0), .int .i64 (k 1), .int .i64 (k 2), .int .i64 (k 3), .int .i64 (k 4), .int .i64 (k 5), .int .i64 (k 6), .slice a n cap] 26)) hb1
      have h7 : w1.cell? ⟨w.heap.size, 7, none⟩ = some (.slice a n cap) := by rw [hc1 _ _ (by simp)]; simp
      clear hc1 hf1 hx
      go_loop [18] (fun s => ∃ i : Nat, i ≤ n ∧ s = .int .i64 i ∧ Hid (chkL none xs = chkL (prev xs i) (xs.drop i))) (fun s => n - (intOf s).toNat)
      case atStart => exact ⟨0, Nat.zero_le _, rfl, rfl⟩
      case round =>
        obtain ⟨i, hi, rfl, hch⟩ := hrel
        by_cases hlt : i < n
        · obtain ⟨b, off, rfl, hbl, hcell⟩ := hx1.at_ hlt
          have hd := getD_bd hb (j := i) (by rw [hl'.out]; exact hlt)
          have hch' : Hid (chkL none xs = if xs.getD i 0 < -25567 ∨ 84005 < xs.getD i 0 then 15 else if notAbove (prev xs i) (xs.getD i 0) = true then 8 else chkL (some (xs.getD i 0)) (xs.drop (i + 1))) := by
            have h := hch.out
            rw [drop_cons xs i (by rw [hl'.out]; exact hlt)] at h
            exact h
          clear hch
          have hps : Hid (prev xs (i + 1) = some (xs.getD i 0)) := by show _ = _; unfold prev; rw [if_neg (by omega)]; rfl
          by_cases i0 : i = 0
          · subst i0
            have hcell' : w1.cell? ⟨b, off, none⟩ = some (.int .i64 (xs.getD 0 0)) := hcell
            clear hcell
            generalize xs.getD 0 0 = d at *
            by_cases hin : d < -25567 ∨ 84005 < d
            · have hfin : Hid (chkL none xs = 15) := by have h := hch'.out; rw [if_pos hin] at h; exact h
              clear hch'
              go_wp2_with (go_at_call 26; refine (weekday_no d _ hin).mono ?_; rintro e w' ⟨rfl, rfl⟩)
              go_ret
              exact ⟨ret_int hfin.out.symm, hbel⟩
            · have hfin : Hid (chkL none xs = chkL (prev xs 1) (xs.drop 1)) := by
                have h := hch'.out
                rw [if_neg hin, if_neg (by simp [prev, notAbove])] at h
                show _ = _
                rw [hps.out]
                exact h
              have h0 : -25567 ≤ d := by omega
              have h1 : d ≤ 84005 := by omega
              have m0 : ¬ (d + 25567) % 7 < 0 := by omega
              clear hch' hin
              go_wp2_with (go_at_call 26; refine (weekday_yes d _ h0 h1).mono ?_; rintro e w' ⟨rfl, rfl⟩)
              go_round
              case rel => exact ⟨1, by omega, by go_num, hfin⟩
              case measure => simp [intOf]; omega
          · have ip : 0 < i := by omega
            have hc0 : w1.cell? ⟨b, off + (i - 1), none⟩ = some (.int .i64 (xs.getD (i - 1) 0)) := by
              obtain ⟨b', off', hq, _, h⟩ := hx1.at_ (j := i - 1) (by omega)
              injection hq with hq
              injection hq with h1 h2
              subst h1 h2
              exact h
            have hd0 := getD_bd hb (j := i - 1) (by rw [hl'.out]; omega)
            have hpv : Hid (prev xs i = some (xs.getD (i - 1) 0)) := by show _ = _; unfold prev; rw [if_neg i0]
            generalize xs.getD (i - 1) 0 = d0 at *
            generalize xs.getD i 0 = d at *
            by_cases hin : d < -25567 ∨ 84005 < d
            · have hfin : Hid (chkL none xs = 15) := by have h := hch'.out; rw [if_pos hin] at h; exact h
              clear hch'
              go_wp2_with (go_at_call 26; refine (weekday_no d _ hin).mono ?_; rintro e w' ⟨rfl, rfl⟩)
              go_ret
              exact ⟨ret_int hfin.out.symm, hbel⟩
            · have h0 : -25567 ≤ d := by omega
              have h1 : d ≤ 84005 := by omega
              have m0 : ¬ (d + 25567) % 7 < 0 := by omega
              have hc0' : w1.cell? ⟨b, off + (i - 1), none⟩ = some (.int .i64 d0) := hc0
              by_cases hge : d ≤ d0
              · have hfin : Hid (chkL none xs = 8) := by
                  have h := hch'.out
                  rw [if_neg hin, hpv.out, if_pos (by simp [notAbove, hge])] at h; exact h
                clear hch' hin
                go_wp2_with (go_at_call 26; refine (weekday_yes d _ h0 h1).mono ?_; rintro e w' ⟨rfl, rfl⟩)
                go_ret
                exact ⟨ret_int hfin.out.symm, hbel⟩
              · have hfin : Hid (chkL none xs = chkL (prev xs (i + 1)) (xs.drop (i + 1))) := by
                  have h := hch'.out
                  rw [if_neg hin, hpv.out, if_neg (by simp [notAbove, hge])] at h
                  show _ = _
                  rw [hps.out]; exact h
                clear hch' hin
                go_wp2_with (go_at_call 26; refine (weekday_yes d _ h0 h1).mono ?_; rintro e w' ⟨rfl, rfl⟩)
                go_round
                case rel => exact ⟨i + 1, by omega, by go_num, hfin⟩
                case measure => simp [intOf]; omega
        · obtain rfl : i = n := by omega
          have hfin : Hid (chkL none xs = 0) := by
            have h := hch.out
            rw [List.drop_of_length_le (by rw [hl'.out]; exact Nat.le_refl _), chkL] at h
            exact h
          clear hch
          go_wp2_with fail
          go_ret
          exact ⟨ret_int hfin.out.symm, hbel⟩
  · have hr : chk k xs = 2 := by unfold chk; rw [if_neg o]
    rw [hr]; clear hr
    clear hl
    go_enter Tryd.func14, Tryd.ntmps14
    go_wp2_with (go_at_call 25; refine (right_not k _ o).mono ?_; rintro e w1 ⟨rfl, hb1⟩; obtain ⟨hc1, hf1⟩ := bcell hb1)
    go_ret
    exact ⟨rfl, bstep (balloc (Below.refl _ _) _) hb1⟩
end Go.Proofs.YtjpjeimpmfoldaaDoor.W
