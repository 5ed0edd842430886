/- The walks of the week: a pattern's minutes, and days, in a span. -/
import Derived.Test.YtjpjeimpmfoldaaDoorWkE
import Derived.Outline
import Derived.WalkMore
namespace Go.Proofs.YtjpjeimpmfoldaaDoor.W
open Go.RowKit Go.Proofs.YtjpjeimpmfoldaaDoor.M Go.Proofs.YtjpjeimpmfoldaaDoor.WL

theorem of_first (w : World) (ht : Tab w) : Calls Tryd.prog 33 #[.agg #[.int .i64 1900, .int .i64 1, .int .i64 1]] w fun e w' => e = .returned (.tuple #[.int .i64 (-25567), .int .i64 0]) ∧ Below w.heap.size w w' := by
  have h := of_yes 1900 1 1 w ht (by unfold Cal.Valid Cal.len Cal.lp; omega)
  have e : Cal.day 1900 1 1 = -25567 := by decide
  rw [e] at h
  exact h
theorem of_last (w : World) (ht : Tab w) : Calls Tryd.prog 33 #[.agg #[.int .i64 2199, .int .i64 12, .int .i64 31]] w fun e w' => e = .returned (.tuple #[.int .i64 84005, .int .i64 0]) ∧ Below w.heap.size w w' := by
  have h := of_yes 2199 12 31 w ht (by unfold Cal.Valid Cal.len Cal.lp; omega)
  have e : Cal.day 2199 12 31 = 84005 := by decide
  rw [e] at h
  exact h

set_option maxHeartbeats 1000000 in
theorem worked_main (k : Nat → Int) (a : Option Addr) (n cap : Nat) (xs : List Int) (f t : Int) (w : World) (hx1 : Ints .i64 ((w.alloc (.cells #[.int .i64 (k 0), .int .i64 (k 1), .int .i64 (k 2), .int .i64 (k 3), .int .i64 (k 4), .int .i64 (k 5), .int .i64 (k 6), .slice a n cap] 26)).alloc (.cells #[.int .i64 f, .int .i64 t] 37)) a n cap xs) (ht1 : Tab ((w.alloc (.cells #[.int .i64 (k 0), .int .i64 (k 1), .int .i64 (k 2), .int .i64 (k 3), .int .i64 (k 4), .int .i64 (k 5), .int .i64 (k 6), .slice a n cap] 26)).alloc (.cells #[.int .i64 f, .int .i64 t] 37))) (hb : IB xs) (_hf : -9223372036854775808 ≤ f ∧ f ≤ 9223372036854775807) (_ht : -9223372036854775808 ≤ t ∧ t ≤ 9223372036854775807)
    (hk : chk k xs = 0) (hz' : same7 k (fun _ => 0) = false) :
    Calls Tryd.prog 28 #[.agg #[.int .i64 (k 0), .int .i64 (k 1), .int .i64 (k 2), .int .i64 (k 3), .int .i64 (k 4), .int .i64 (k 5), .int .i64 (k 6), .slice a n cap], .agg #[.int .i64 f, .int .i64 t]] w fun e w' => e = .returned (.tuple #[.int .i64 (mins k xs f t), .int .i64 (days k xs f t)]) ∧ Below w.heap.size w w' := by
  have hb0 := balloc (balloc (Below.refl w.heap.size w) (.cells #[.int .i64 (k 0), .int .i64 (k 1), .int .i64 (k 2), .int .i64 (k 3), .int .i64 (k 4), .int .i64 (k 5), .int .i64 (k 6), .slice a n cap] 26)) (.cells #[.int .i64 f, .int .i64 t] 37)
  have hgu : Tryd.prog.eqGuardType Tryd.prog.depth 23 = false := by kernel_rfl
  have he := fun w => eql_zero k w
  rw [hz'] at he
  clear hz'
  have hm : Hid (mins k xs f t = sumTo (punch (W k) xs) (lo f) (cnt f t)) := by show _ = _; unfold mins; rw [if_pos hk]
  have hd : Hid (days k xs f t = sumTo (punch (V k) xs) (lo f) (cnt f t)) := by show _ = _; unfold days; rw [if_pos hk]
  have hok := (chk_zero hk).1
  have hVP : Hid (∀ d, punch (V k) xs d = if punch (W k) xs d = 0 then 0 else 1) := fun d => V_punch hok xs d
  have hWB := fun d => punch_bd (W_bd hok) xs d
  have hVB := fun d => punch_bd (V_bd k) xs d
  have hMB := Lib.hid (fun j => sumTo_bd (lo f) hWB j)
  have hDB := Lib.hid (fun j => sumTo_bd (lo f) hVB j)
  have hWB' := Lib.hid hWB
  clear hWB hVB
  have hk' := Lib.hid hk; clear hk
  by_cases cf : f < -25567
  · have hlo : Hid (lo f = -25567) := by show _ = _; unfold lo; rw [if_pos cf]
    have l0 : -25567 ≤ -25567 := by omega
    by_cases ct : 84006 < t
    · have hhi : Hid (hi t = 84006) := by show _ = _; unfold hi; rw [if_pos ct]
      have h0 : 84006 ≤ 84006 := by omega
      have hcnt : Hid (∀ j : Nat, (-25567 + (j : Int) < 84006 ↔ j < cnt f t)) := by
        intro j; unfold cnt; rw [hlo.out, hhi.out]; omega
      go_enter Tryd.func28, Tryd.ntmps28
      go_wp2_with fail
      go_step3
      go_wp2_with fail
      refine (check_any k a n cap xs _ hx1 hb).mono ?_
      rintro e w1 ⟨rfl, hb1⟩
      rw [hk'.out]
      obtain ⟨hc1, hf1⟩ := bcell hb1
      go_wp2_with fail
      refine (of_first _ (ht1.step hb1)).mono ?_
      rintro e w2 ⟨rfl, hb2⟩
      have hb12 := bstep hb1 hb2
      clear hc1 hf1
      obtain ⟨hc2, hf2⟩ := bcell hb12
      go_wp2_with fail
      refine (of_last _ (ht1.step hb12)).mono ?_
      rintro e w3 ⟨rfl, hb3⟩
      have hb13 := bstep hb12 hb3
      clear hc2 hf2
      obtain ⟨hc3, hf3⟩ := bcell hb13
      go_wp2_with fail
      go_step3
      go_wp2_with fail
      have hx3 := hx1.next hb13 (Nat.le_refl _)
      have hcs : w3.cell? ⟨w.heap.size + 1, 1, none⟩ = some (.int .i64 t) := by rw [hc3 _ _ (by simp)]; simp
      have hcp : ∀ i, i < 8 → w3.cell? ⟨w.heap.size, i, none⟩ = #[.int .i64 (k 0), .int .i64 (k 1), .int .i64 (k 2), .int .i64 (k 3), .int .i64 (k 4), .int .i64 (k 5), .int .i64 (k 6), .slice a n cap][i]? := fun i hi => by rw [hc3 _ _ (by simp; omega)]; simp
      have hsz : w.heap.size + 1 < w3.heap.size := by have := hb13.size; simp at this; omega
      clear hc3 hf3
      go_loopw [10, 11, 12] (fun s10 s11 s12 wr => ∃ j : Nat, j ≤ cnt f t ∧ s12 = .int .i64 (-25567 + j) ∧ s10 = .int .i64 (sumTo (punch (W k) xs) (lo f) j) ∧ s11 = .int .i64 (sumTo (punch (V k) xs) (lo f) j) ∧ Below w3.heap.size w3 wr) (fun _ _ s12 _ => (84006 - intOf s12).toNat)
      case atStart => exact ⟨0, Nat.zero_le _, by simp, rfl, rfl, Below.refl _ _⟩
      case round =>
        obtain ⟨j, hj, rfl, rfl, rfl, hbr⟩ := hrel
        obtain ⟨hcr, hfr⟩ := bcell hbr
        have c1 : wr.cell? ⟨w.heap.size + 1, 1, none⟩ = some (.int .i64 t) := (hcr _ _ hsz).trans hcs
        have p0 : wr.cell? ⟨w.heap.size, 0, none⟩ = some (.int .i64 (k 0)) := (hcr _ _ (by omega)).trans (hcp 0 (by omega))
        have p1 : wr.cell? ⟨w.heap.size, 1, none⟩ = some (.int .i64 (k 1)) := (hcr _ _ (by omega)).trans (hcp 1 (by omega))
        have p2 : wr.cell? ⟨w.heap.size, 2, none⟩ = some (.int .i64 (k 2)) := (hcr _ _ (by omega)).trans (hcp 2 (by omega))
        have p3 : wr.cell? ⟨w.heap.size, 3, none⟩ = some (.int .i64 (k 3)) := (hcr _ _ (by omega)).trans (hcp 3 (by omega))
        have p4 : wr.cell? ⟨w.heap.size, 4, none⟩ = some (.int .i64 (k 4)) := (hcr _ _ (by omega)).trans (hcp 4 (by omega))
        have p5 : wr.cell? ⟨w.heap.size, 5, none⟩ = some (.int .i64 (k 5)) := (hcr _ _ (by omega)).trans (hcp 5 (by omega))
        have p6 : wr.cell? ⟨w.heap.size, 6, none⟩ = some (.int .i64 (k 6)) := (hcr _ _ (by omega)).trans (hcp 6 (by omega))
        have p7 : wr.cell? ⟨w.heap.size, 7, none⟩ = some (.slice a n cap) := (hcr _ _ (by omega)).trans (hcp 7 (by omega))
        clear hcr hfr
        have bm := hMB.out j
        have bd := hDB.out j
        have hj9 : cnt f t ≤ 109573 := cnt_bd f t
        by_cases hlt : j < cnt f t
        · have g0 : -25567 + (j : Int) < 84006 := (hcnt.out j).2 hlt
          have hx4 := hx3.next hbr (Nat.le_refl _)
          have hw := hWB'.out (-25567 + (j : Int))
          have hv := Lib.hid (hVP.out (-25567 + (j : Int)))
          have hM : Hid (sumTo (punch (W k) xs) (lo f) (j + 1) = sumTo (punch (W k) xs) (lo f) j + punch (W k) xs (-25567 + (j : Int))) := by show _ = _; rw [sumTo, hlo.out]
          have hD : Hid (sumTo (punch (V k) xs) (lo f) (j + 1) = sumTo (punch (V k) xs) (lo f) j + punch (V k) xs (-25567 + (j : Int))) := by show _ = _; rw [sumTo, hlo.out]
          have hon := Lib.hid (on_in k a n cap xs (-25567 + (j : Int)) wr hx4 hk'.out (by omega) (by omega))
          generalize punch (W k) xs (-25567 + (j : Int)) = x at *
          generalize sumTo (punch (W k) xs) (lo f) j = sm at *
          generalize sumTo (punch (V k) xs) (lo f) j = sd at *
          by_cases e : x = 0
          · subst e
            go_wp2_with fail
            refine hon.out.mono ?_
            rintro e w4 ⟨rfl, hb4⟩
            go_wp2_with fail
            go_roundw
            case rel => exact ⟨j + 1, by omega, by go_num, by rw [hM.out]; simp, by rw [hD.out, hv.out]; simp, bstep hbr hb4⟩
            case measure => simp [intOf]; omega
          · have e1 : (x == 0) = false := by simp [e]
            go_wp2_with fail
            refine hon.out.mono ?_
            rintro e w4 ⟨rfl, hb4⟩
            go_wp2_with fail
            go_roundw
            case rel => exact ⟨j + 1, by omega, by go_num, by rw [hM.out], by rw [hD.out, hv.out, if_neg e], bstep hbr hb4⟩
            case measure => simp [intOf]; omega
        · obtain rfl : j = cnt f t := by omega
          have g0 : ¬ (-25567 + ((cnt f t : Nat) : Int) < 84006) := fun h => by have := (hcnt.out (cnt f t)).1 h; omega
          go_wp2_with fail
          go_ret2
          exact ⟨by rw [hm.out, hd.out]; rfl, bstep hb0 (bstep hb13 hbr)⟩
    · have hhi : Hid (hi t = t) := by show _ = _; unfold hi; rw [if_neg ct]
      have h0 : t ≤ 84006 := by omega
      have hcnt : Hid (∀ j : Nat, (-25567 + (j : Int) < t ↔ j < cnt f t)) := by
        intro j; unfold cnt; rw [hlo.out, hhi.out]; omega
      go_enter Tryd.func28, Tryd.ntmps28
      go_wp2_with fail
      go_step3
      go_wp2_with fail
      refine (check_any k a n cap xs _ hx1 hb).mono ?_
      rintro e w1 ⟨rfl, hb1⟩
      rw [hk'.out]
      obtain ⟨hc1, hf1⟩ := bcell hb1
      go_wp2_with fail
      refine (of_first _ (ht1.step hb1)).mono ?_
      rintro e w2 ⟨rfl, hb2⟩
      have hb12 := bstep hb1 hb2
      clear hc1 hf1
      obtain ⟨hc2, hf2⟩ := bcell hb12
      go_wp2_with fail
      refine (of_last _ (ht1.step hb12)).mono ?_
      rintro e w3 ⟨rfl, hb3⟩
      have hb13 := bstep hb12 hb3
      clear hc2 hf2
      obtain ⟨hc3, hf3⟩ := bcell hb13
      go_wp2_with fail
      go_step3
      go_wp2_with fail
      have hx3 := hx1.next hb13 (Nat.le_refl _)
      have hcs : w3.cell? ⟨w.heap.size + 1, 1, none⟩ = some (.int .i64 t) := by rw [hc3 _ _ (by simp)]; simp
      have hcp : ∀ i, i < 8 → w3.cell? ⟨w.heap.size, i, none⟩ = #[.int .i64 (k 0), .int .i64 (k 1), .int .i64 (k 2), .int .i64 (k 3), .int .i64 (k 4), .int .i64 (k 5), .int .i64 (k 6), .slice a n cap][i]? := fun i hi => by rw [hc3 _ _ (by simp; omega)]; simp
      have hsz : w.heap.size + 1 < w3.heap.size := by have := hb13.size; simp at this; omega
      clear hc3 hf3
      go_loopw [10, 11, 12] (fun s10 s11 s12 wr => ∃ j : Nat, j ≤ cnt f t ∧ s12 = .int .i64 (-25567 + j) ∧ s10 = .int .i64 (sumTo (punch (W k) xs) (lo f) j) ∧ s11 = .int .i64 (sumTo (punch (V k) xs) (lo f) j) ∧ Below w3.heap.size w3 wr) (fun _ _ s12 _ => (84006 - intOf s12).toNat)
      case atStart => exact ⟨0, Nat.zero_le _, by simp, rfl, rfl, Below.refl _ _⟩
      case round =>
        obtain ⟨j, hj, rfl, rfl, rfl, hbr⟩ := hrel
        obtain ⟨hcr, hfr⟩ := bcell hbr
        have c1 : wr.cell? ⟨w.heap.size + 1, 1, none⟩ = some (.int .i64 t) := (hcr _ _ hsz).trans hcs
        have p0 : wr.cell? ⟨w.heap.size, 0, none⟩ = some (.int .i64 (k 0)) := (hcr _ _ (by omega)).trans (hcp 0 (by omega))
        have p1 : wr.cell? ⟨w.heap.size, 1, none⟩ = some (.int .i64 (k 1)) := (hcr _ _ (by omega)).trans (hcp 1 (by omega))
        have p2 : wr.cell? ⟨w.heap.size, 2, none⟩ = some (.int .i64 (k 2)) := (hcr _ _ (by omega)).trans (hcp 2 (by omega))
        have p3 : wr.cell? ⟨w.heap.size, 3, none⟩ = some (.int .i64 (k 3)) := (hcr _ _ (by omega)).trans (hcp 3 (by omega))
        have p4 : wr.cell? ⟨w.heap.size, 4, none⟩ = some (.int .i64 (k 4)) := (hcr _ _ (by omega)).trans (hcp 4 (by omega))
        have p5 : wr.cell? ⟨w.heap.size, 5, none⟩ = some (.int .i64 (k 5)) := (hcr _ _ (by omega)).trans (hcp 5 (by omega))
        have p6 : wr.cell? ⟨w.heap.size, 6, none⟩ = some (.int .i64 (k 6)) := (hcr _ _ (by omega)).trans (hcp 6 (by omega))
        have p7 : wr.cell? ⟨w.heap.size, 7, none⟩ = some (.slice a n cap) := (hcr _ _ (by omega)).trans (hcp 7 (by omega))
        clear hcr hfr
        have bm := hMB.out j
        have bd := hDB.out j
        have hj9 : cnt f t ≤ 109573 := cnt_bd f t
        by_cases hlt : j < cnt f t
        · have g0 : -25567 + (j : Int) < t := (hcnt.out j).2 hlt
          have hx4 := hx3.next hbr (Nat.le_refl _)
          have hw := hWB'.out (-25567 + (j : Int))
          have hv := Lib.hid (hVP.out (-25567 + (j : Int)))
          have hM : Hid (sumTo (punch (W k) xs) (lo f) (j + 1) = sumTo (punch (W k) xs) (lo f) j + punch (W k) xs (-25567 + (j : Int))) := by show _ = _; rw [sumTo, hlo.out]
          have hD : Hid (sumTo (punch (V k) xs) (lo f) (j + 1) = sumTo (punch (V k) xs) (lo f) j + punch (V k) xs (-25567 + (j : Int))) := by show _ = _; rw [sumTo, hlo.out]
          have hon := Lib.hid (on_in k a n cap xs (-25567 + (j : Int)) wr hx4 hk'.out (by omega) (by omega))
          generalize punch (W k) xs (-25567 + (j : Int)) = x at *
          generalize sumTo (punch (W k) xs) (lo f) j = sm at *
          generalize sumTo (punch (V k) xs) (lo f) j = sd at *
          by_cases e : x = 0
          · subst e
            go_wp2_with fail
            refine hon.out.mono ?_
            rintro e w4 ⟨rfl, hb4⟩
            go_wp2_with fail
            go_roundw
            case rel => exact ⟨j + 1, by omega, by go_num, by rw [hM.out]; simp, by rw [hD.out, hv.out]; simp, bstep hbr hb4⟩
            case measure => simp [intOf]; omega
          · have e1 : (x == 0) = false := by simp [e]
            go_wp2_with fail
            refine hon.out.mono ?_
            rintro e w4 ⟨rfl, hb4⟩
            go_wp2_with fail
            go_roundw
            case rel => exact ⟨j + 1, by omega, by go_num, by rw [hM.out], by rw [hD.out, hv.out, if_neg e], bstep hbr hb4⟩
            case measure => simp [intOf]; omega
        · obtain rfl : j = cnt f t := by omega
          have g0 : ¬ (-25567 + ((cnt f t : Nat) : Int) < t) := fun h => by have := (hcnt.out (cnt f t)).1 h; omega
          go_wp2_with fail
          go_ret2
          exact ⟨by rw [hm.out, hd.out]; rfl, bstep hb0 (bstep hb13 hbr)⟩
  · have hlo : Hid (lo f = f) := by show _ = _; unfold lo; rw [if_neg cf]
    have l0 : -25567 ≤ f := by omega
    by_cases ct : 84006 < t
    · have hhi : Hid (hi t = 84006) := by show _ = _; unfold hi; rw [if_pos ct]
      have h0 : 84006 ≤ 84006 := by omega
      have hcnt : Hid (∀ j : Nat, (f + (j : Int) < 84006 ↔ j < cnt f t)) := by
        intro j; unfold cnt; rw [hlo.out, hhi.out]; omega
      go_enter Tryd.func28, Tryd.ntmps28
      go_wp2_with fail
      go_step3
      go_wp2_with fail
      refine (check_any k a n cap xs _ hx1 hb).mono ?_
      rintro e w1 ⟨rfl, hb1⟩
      rw [hk'.out]
      obtain ⟨hc1, hf1⟩ := bcell hb1
      go_wp2_with fail
      refine (of_first _ (ht1.step hb1)).mono ?_
      rintro e w2 ⟨rfl, hb2⟩
      have hb12 := bstep hb1 hb2
      clear hc1 hf1
      obtain ⟨hc2, hf2⟩ := bcell hb12
      go_wp2_with fail
      refine (of_last _ (ht1.step hb12)).mono ?_
      rintro e w3 ⟨rfl, hb3⟩
      have hb13 := bstep hb12 hb3
      clear hc2 hf2
      obtain ⟨hc3, hf3⟩ := bcell hb13
      go_wp2_with fail
      go_step3
      go_wp2_with fail
      have hx3 := hx1.next hb13 (Nat.le_refl _)
      have hcs : w3.cell? ⟨w.heap.size + 1, 1, none⟩ = some (.int .i64 t) := by rw [hc3 _ _ (by simp)]; simp
      have hcp : ∀ i, i < 8 → w3.cell? ⟨w.heap.size, i, none⟩ = #[.int .i64 (k 0), .int .i64 (k 1), .int .i64 (k 2), .int .i64 (k 3), .int .i64 (k 4), .int .i64 (k 5), .int .i64 (k 6), .slice a n cap][i]? := fun i hi => by rw [hc3 _ _ (by simp; omega)]; simp
      have hsz : w.heap.size + 1 < w3.heap.size := by have := hb13.size; simp at this; omega
      clear hc3 hf3
      go_loopw [10, 11, 12] (fun s10 s11 s12 wr => ∃ j : Nat, j ≤ cnt f t ∧ s12 = .int .i64 (f + j) ∧ s10 = .int .i64 (sumTo (punch (W k) xs) (lo f) j) ∧ s11 = .int .i64 (sumTo (punch (V k) xs) (lo f) j) ∧ Below w3.heap.size w3 wr) (fun _ _ s12 _ => (84006 - intOf s12).toNat)
      case atStart => exact ⟨0, Nat.zero_le _, by simp, rfl, rfl, Below.refl _ _⟩
      case round =>
        obtain ⟨j, hj, rfl, rfl, rfl, hbr⟩ := hrel
        obtain ⟨hcr, hfr⟩ := bcell hbr
        have c1 : wr.cell? ⟨w.heap.size + 1, 1, none⟩ = some (.int .i64 t) := (hcr _ _ hsz).trans hcs
        have p0 : wr.cell? ⟨w.heap.size, 0, none⟩ = some (.int .i64 (k 0)) := (hcr _ _ (by omega)).trans (hcp 0 (by omega))
        have p1 : wr.cell? ⟨w.heap.size, 1, none⟩ = some (.int .i64 (k 1)) := (hcr _ _ (by omega)).trans (hcp 1 (by omega))
        have p2 : wr.cell? ⟨w.heap.size, 2, none⟩ = some (.int .i64 (k 2)) := (hcr _ _ (by omega)).trans (hcp 2 (by omega))
        have p3 : wr.cell? ⟨w.heap.size, 3, none⟩ = some (.int .i64 (k 3)) := (hcr _ _ (by omega)).trans (hcp 3 (by omega))
        have p4 : wr.cell? ⟨w.heap.size, 4, none⟩ = some (.int .i64 (k 4)) := (hcr _ _ (by omega)).trans (hcp 4 (by omega))
        have p5 : wr.cell? ⟨w.heap.size, 5, none⟩ = some (.int .i64 (k 5)) := (hcr _ _ (by omega)).trans (hcp 5 (by omega))
        have p6 : wr.cell? ⟨w.heap.size, 6, none⟩ = some (.int .i64 (k 6)) := (hcr _ _ (by omega)).trans (hcp 6 (by omega))
        have p7 : wr.cell? ⟨w.heap.size, 7, none⟩ = some (.slice a n cap) := (hcr _ _ (by omega)).trans (hcp 7 (by omega))
        clear hcr hfr
        have bm := hMB.out j
        have bd := hDB.out j
        have hj9 : cnt f t ≤ 109573 := cnt_bd f t
        by_cases hlt : j < cnt f t
        · have g0 : f + (j : Int) < 84006 := (hcnt.out j).2 hlt
          have hx4 := hx3.next hbr (Nat.le_refl _)
          have hw := hWB'.out (f + (j : Int))
          have hv := Lib.hid (hVP.out (f + (j : Int)))
          have hM : Hid (sumTo (punch (W k) xs) (lo f) (j + 1) = sumTo (punch (W k) xs) (lo f) j + punch (W k) xs (f + (j : Int))) := by show _ = _; rw [sumTo, hlo.out]
          have hD : Hid (sumTo (punch (V k) xs) (lo f) (j + 1) = sumTo (punch (V k) xs) (lo f) j + punch (V k) xs (f + (j : Int))) := by show _ = _; rw [sumTo, hlo.out]
          have hon := Lib.hid (on_in k a n cap xs (f + (j : Int)) wr hx4 hk'.out (by omega) (by omega))
          generalize punch (W k) xs (f + (j : Int)) = x at *
          generalize sumTo (punch (W k) xs) (lo f) j = sm at *
          generalize sumTo (punch (V k) xs) (lo f) j = sd at *
          by_cases e : x = 0
          · subst e
            go_wp2_with fail
            refine hon.out.mono ?_
            rintro e w4 ⟨rfl, hb4⟩
            go_wp2_with fail
            go_roundw
            case rel => exact ⟨j + 1, by omega, by go_num, by rw [hM.out]; simp, by rw [hD.out, hv.out]; simp, bstep hbr hb4⟩
            case measure => simp [intOf]; omega
          · have e1 : (x == 0) = false := by simp [e]
            go_wp2_with fail
            refine hon.out.mono ?_
            rintro e w4 ⟨rfl, hb4⟩
            go_wp2_with fail
            go_roundw
            case rel => exact ⟨j + 1, by omega, by go_num, by rw [hM.out], by rw [hD.out, hv.out, if_neg e], bstep hbr hb4⟩
            case measure => simp [intOf]; omega
        · obtain rfl : j = cnt f t := by omega
          have g0 : ¬ (f + ((cnt f t : Nat) : Int) < 84006) := fun h => by have := (hcnt.out (cnt f t)).1 h; omega
          go_wp2_with fail
          go_ret2
          exact ⟨by rw [hm.out, hd.out]; rfl, bstep hb0 (bstep hb13 hbr)⟩
    · have hhi : Hid (hi t = t) := by show _ = _; unfold hi; rw [if_neg ct]
      have h0 : t ≤ 84006 := by omega
      have hcnt : Hid (∀ j : Nat, (f + (j : Int) < t ↔ j < cnt f t)) := by
        intro j; unfold cnt; rw [hlo.out, hhi.out]; omega
      go_enter Tryd.func28, Tryd.ntmps28
      go_wp2_with fail
      go_step3
      go_wp2_with fail
      refine (check_any k a n cap xs _ hx1 hb).mono ?_
      rintro e w1 ⟨rfl, hb1⟩
      rw [hk'.out]
      obtain ⟨hc1, hf1⟩ := bcell hb1
      go_wp2_with fail
      refine (of_first _ (ht1.step hb1)).mono ?_
      rintro e w2 ⟨rfl, hb2⟩
      have hb12 := bstep hb1 hb2
      clear hc1 hf1
      obtain ⟨hc2, hf2⟩ := bcell hb12
      go_wp2_with fail
      refine (of_last _ (ht1.step hb12)).mono ?_
      rintro e w3 ⟨rfl, hb3⟩
      have hb13 := bstep hb12 hb3
      clear hc2 hf2
      obtain ⟨hc3, hf3⟩ := bcell hb13
      go_wp2_with fail
      go_step3
      go_wp2_with fail
      have hx3 := hx1.next hb13 (Nat.le_refl _)
      have hcs : w3.cell? ⟨w.heap.size + 1, 1, none⟩ = some (.int .i64 t) := by rw [hc3 _ _ (by simp)]; simp
      have hcp : ∀ i, i < 8 → w3.cell? ⟨w.heap.size, i, none⟩ = #[.int .i64 (k 0), .int .i64 (k 1), .int .i64 (k 2), .int .i64 (k 3), .int .i64 (k 4), .int .i64 (k 5), .int .i64 (k 6), .slice a n cap][i]? := fun i hi => by rw [hc3 _ _ (by simp; omega)]; simp
      have hsz : w.heap.size + 1 < w3.heap.size := by have := hb13.size; simp at this; omega
      clear hc3 hf3
      go_loopw [10, 11, 12] (fun s10 s11 s12 wr => ∃ j : Nat, j ≤ cnt f t ∧ s12 = .int .i64 (f + j) ∧ s10 = .int .i64 (sumTo (punch (W k) xs) (lo f) j) ∧ s11 = .int .i64 (sumTo (punch (V k) xs) (lo f) j) ∧ Below w3.heap.size w3 wr) (fun _ _ s12 _ => (84006 - intOf s12).toNat)
      case atStart => exact ⟨0, Nat.zero_le _, by simp, rfl, rfl, Below.refl _ _⟩
      case round =>
        obtain ⟨j, hj, rfl, rfl, rfl, hbr⟩ := hrel
        obtain ⟨hcr, hfr⟩ := bcell hbr
        have c1 : wr.cell? ⟨w.heap.size + 1, 1, none⟩ = some (.int .i64 t) := (hcr _ _ hsz).trans hcs
        have p0 : wr.cell? ⟨w.heap.size, 0, none⟩ = some (.int .i64 (k 0)) := (hcr _ _ (by omega)).trans (hcp 0 (by omega))
        have p1 : wr.cell? ⟨w.heap.size, 1, none⟩ = some (.int .i64 (k 1)) := (hcr _ _ (by omega)).trans (hcp 1 (by omega))
        have p2 : wr.cell? ⟨w.heap.size, 2, none⟩ = some (.int .i64 (k 2)) := (hcr _ _ (by omega)).trans (hcp 2 (by omega))
        have p3 : wr.cell? ⟨w.heap.size, 3, none⟩ = some (.int .i64 (k 3)) := (hcr _ _ (by omega)).trans (hcp 3 (by omega))
        have p4 : wr.cell? ⟨w.heap.size, 4, none⟩ = some (.int .i64 (k 4)) := (hcr _ _ (by omega)).trans (hcp 4 (by omega))
        have p5 : wr.cell? ⟨w.heap.size, 5, none⟩ = some (.int .i64 (k 5)) := (hcr _ _ (by omega)).trans (hcp 5 (by omega))
        have p6 : wr.cell? ⟨w.heap.size, 6, none⟩ = some (.int .i64 (k 6)) := (hcr _ _ (by omega)).trans (hcp 6 (by omega))
        have p7 : wr.cell? ⟨w.heap.size, 7, none⟩ = some (.slice a n cap) := (hcr _ _ (by omega)).trans (hcp 7 (by omega))
        clear hcr hfr
        have bm := hMB.out j
        have bd := hDB.out j
        have hj9 : cnt f t ≤ 109573 := cnt_bd f t
        by_cases hlt : j < cnt f t
        · have g0 : f + (j : Int) < t := (hcnt.out j).2 hlt
          have hx4 := hx3.next hbr (Nat.le_refl _)
          have hw := hWB'.out (f + (j : Int))
          have hv := Lib.hid (hVP.out (f + (j : Int)))
          have hM : Hid (sumTo (punch (W k) xs) (lo f) (j + 1) = sumTo (punch (W k) xs) (lo f) j + punch (W k) xs (f + (j : Int))) := by show _ = _; rw [sumTo, hlo.out]
          have hD : Hid (sumTo (punch (V k) xs) (lo f) (j + 1) = sumTo (punch (V k) xs) (lo f) j + punch (V k) xs (f + (j : Int))) := by show _ = _; rw [sumTo, hlo.out]
          have hon := Lib.hid (on_in k a n cap xs (f + (j : Int)) wr hx4 hk'.out (by omega) (by omega))
          generalize punch (W k) xs (f + (j : Int)) = x at *
          generalize sumTo (punch (W k) xs) (lo f) j = sm at *
          generalize sumTo (punch (V k) xs) (lo f) j = sd at *
          by_cases e : x = 0
          · subst e
            go_wp2_with fail
            refine hon.out.mono ?_
            rintro e w4 ⟨rfl, hb4⟩
            go_wp2_with fail
            go_roundw
            case rel => exact ⟨j + 1, by omega, by go_num, by rw [hM.out]; simp, by rw [hD.out, hv.out]; simp, bstep hbr hb4⟩
            case measure => simp [intOf]; omega
          · have e1 : (x == 0) = false := by simp [e]
            go_wp2_with fail
            refine hon.out.mono ?_
            rintro e w4 ⟨rfl, hb4⟩
            go_wp2_with fail
            go_roundw
            case rel => exact ⟨j + 1, by omega, by go_num, by rw [hM.out], by rw [hD.out, hv.out, if_neg e], bstep hbr hb4⟩
            case measure => simp [intOf]; omega
        · obtain rfl : j = cnt f t := by omega
          have g0 : ¬ (f + ((cnt f t : Nat) : Int) < t) := fun h => by have := (hcnt.out (cnt f t)).1 h; omega
          go_wp2_with fail
          go_ret2
          exact ⟨by rw [hm.out, hd.out]; rfl, bstep hb0 (bstep hb13 hbr)⟩

theorem worked_any (k : Nat → Int) (a : Option Addr) (n cap : Nat) (xs : List Int) (f t : Int) (w : World) (ht : Tab w) (hx : Ints .i64 w a n cap xs) (hb : IB xs) (_hf : -9223372036854775808 ≤ f ∧ f ≤ 9223372036854775807) (_ht : -9223372036854775808 ≤ t ∧ t ≤ 9223372036854775807) :
    Calls Tryd.prog 28 #[.agg #[.int .i64 (k 0), .int .i64 (k 1), .int .i64 (k 2), .int .i64 (k 3), .int .i64 (k 4), .int .i64 (k 5), .int .i64 (k 6), .slice a n cap], .agg #[.int .i64 f, .int .i64 t]] w fun e w' => e = .returned (.tuple #[.int .i64 (mins k xs f t), .int .i64 (days k xs f t)]) ∧ Below w.heap.size w w' := by
  have hx1 := (hx.alloc (.cells #[.int .i64 (k 0), .int .i64 (k 1), .int .i64 (k 2), .int .i64 (k 3), .int .i64 (k 4), .int .i64 (k 5), .int .i64 (k 6), .slice a n cap] 26)).alloc (.cells #[.int .i64 f, .int .i64 t] 37)
  have ht1 := (ht.alloc (.cells #[.int .i64 (k 0), .int .i64 (k 1), .int .i64 (k 2), .int .i64 (k 3), .int .i64 (k 4), .int .i64 (k 5), .int .i64 (k 6), .slice a n cap] 26)).alloc (.cells #[.int .i64 f, .int .i64 t] 37)
  have hb0 := balloc (balloc (Below.refl w.heap.size w) (.cells #[.int .i64 (k 0), .int .i64 (k 1), .int .i64 (k 2), .int .i64 (k 3), .int .i64 (k 4), .int .i64 (k 5), .int .i64 (k 6), .slice a n cap] 26)) (.cells #[.int .i64 f, .int .i64 t] 37)
  have hgu : Tryd.prog.eqGuardType Tryd.prog.depth 23 = false := by kernel_rfl
  clear hx ht
  by_cases hk : chk k xs = 0
  · by_cases hz : same7 k (fun _ => 0) = true
    · obtain ⟨r1, r2⟩ := none_worked (of_same7 hz) xs f t
      rw [r1, r2]
      clear r1 r2
      have hk' := Lib.hid hk; clear hk
      have he := fun w => eql_zero k w
      rw [hz] at he
      clear hz
      go_enter Tryd.func28, Tryd.ntmps28
      go_wp2_with fail
      go_step3
      go_wp2_with fail
      refine (check_any k a n cap xs _ hx1 hb).mono ?_
      rintro e w1 ⟨rfl, hb1⟩
      rw [hk'.out]
      obtain ⟨hc1, hf1⟩ := bcell hb1
      go_wp2_with fail
      rw [Exit.noGoto_ret]
      go_ret2
      exact ⟨rfl, bstep hb0 hb1⟩
    · have hz' : same7 k (fun _ => 0) = false := by simpa using hz
      clear hz
      exact worked_main k a n cap xs f t w hx1 ht1 hb _hf _ht hk hz'
  · have r1 : mins k xs f t = 0 := by unfold mins; rw [if_neg hk]
    have r2 : days k xs f t = 0 := by unfold days; rw [if_neg hk]
    rw [r1, r2]
    clear r1 r2
    have hne : (chk k xs != 0) = true := by simp [hk]
    clear hk
    go_enter Tryd.func28, Tryd.ntmps28
    go_wp2_with fail
    go_step3
    go_wp2_with fail
    refine (check_any k a n cap xs _ hx1 hb).mono ?_
    rintro e w1 ⟨rfl, hb1⟩
    go_wp2_with fail
    rw [Exit.noGoto_ret]
    go_ret2
    exact ⟨rfl, bstep hb0 hb1⟩
end Go.Proofs.YtjpjeimpmfoldaaDoor.W
