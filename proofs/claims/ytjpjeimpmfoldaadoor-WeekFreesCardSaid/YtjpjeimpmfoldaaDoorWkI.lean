/- The walk of the week: the reference's Sum. -/
import Derived.Test.YtjpjeimpmfoldaaDoorWkH
namespace Go.Proofs.YtjpjeimpmfoldaaDoor.W
open Go.RowKit Go.Proofs.YtjpjeimpmfoldaaDoor.M Go.Proofs.YtjpjeimpmfoldaaDoor.WL

theorem week_cells (k : Nat → Int) (i : Nat) (hi : i < 7) : (#[.int .i64 (k 0), .int .i64 (k 1), .int .i64 (k 2), .int .i64 (k 3), .int .i64 (k 4), .int .i64 (k 5), .int .i64 (k 6)] : Array Value)[i]? = some (.int .i64 (k i)) := by
  rcases (by omega : i = 0 ∨ i = 1 ∨ i = 2 ∨ i = 3 ∨ i = 4 ∨ i = 5 ∨ i = 6) with rfl | rfl | rfl | rfl | rfl | rfl | rfl <;> rfl
theorem take_getD {xs : List Int} {f : Int → Int} {a b : Int} (i : Nat) (h : i < xs.length) : taken f a b (xs.drop i) = (if a ≤ xs.getD i 0 ∧ xs.getD i 0 < b then f (xs.getD i 0) else 0) + taken f a b (xs.drop (i + 1)) := by
  rw [drop_cons xs i h, taken]

def SumOut (k : Nat → Int) (xs : List Int) (f t : Int) (w : World) (e : Ending) (w' : World) : Prop := e = .returned (.tuple #[.int .i64 (mins k xs f t), .int .i64 (days k xs f t)]) ∧ Below w.heap.size w w'

set_option maxHeartbeats 1000000 in
theorem rsum_any (k : Nat → Int) (a : Option Addr) (n cap : Nat) (xs : List Int) (f t : Int) (w : World) (hx : Ints .i64 w a n cap xs) (_hf : -9223372036854775808 ≤ f ∧ f ≤ 9223372036854775807) (_ht : -9223372036854775808 ≤ t ∧ t ≤ 9223372036854775807) (hk : chk k xs = 0) :
    Calls Tryd.prog 16 #[.agg #[.int .i64 (k 0), .int .i64 (k 1), .int .i64 (k 2), .int .i64 (k 3), .int .i64 (k 4), .int .i64 (k 5), .int .i64 (k 6)], .slice a n cap, .agg #[.int .i64 f, .int .i64 t]] w (SumOut k xs f t w) := by
  have hl' := Lib.hid hx.len
  obtain ⟨hok, hlen, hin, _⟩ := chk_zero hk
  have hn : n ≤ 4096 := by rw [← hx.len]; exact hlen
  have hin' := Lib.hid hin
  clear hlen hin
  obtain ⟨hr1, hr2⟩ := mins_ref' hk f t
  have HR := Lib.hid (And.intro hr1 hr2)
  clear hr1 hr2 hk
  have hWB' := Lib.hid (fun d => W_bd hok d)
  have hMB := Lib.hid (fun j => sumTo_bd (lo f) (W_bd hok) j)
  have hDB := Lib.hid (fun j => sumTo_bd (lo f) (V_bd k) j)
  have hx1 := (hx.alloc (.cells #[.int .i64 (k 0), .int .i64 (k 1), .int .i64 (k 2), .int .i64 (k 3), .int .i64 (k 4), .int .i64 (k 5), .int .i64 (k 6)] 22)).alloc (.cells #[.int .i64 f, .int .i64 t] 37)
  have hb0 := balloc (balloc (Below.refl w.heap.size w) (.cells #[.int .i64 (k 0), .int .i64 (k 1), .int .i64 (k 2), .int .i64 (k 3), .int .i64 (k 4), .int .i64 (k 5), .int .i64 (k 6)] 22)) (.cells #[.int .i64 f, .int .i64 t] 37)
  have hcw : ∀ i, i < 7 → ((w.alloc (.cells #[.int .i64 (k 0), .int .i64 (k 1), .int .i64 (k 2), .int .i64 (k 3), .int .i64 (k 4), .int .i64 (k 5), .int .i64 (k 6)] 22)).alloc (.cells #[.int .i64 f, .int .i64 t] 37)).cell? ⟨w.heap.size, i, none⟩ = some (.int .i64 (k i)) := fun i hi => by
    rw [← week_cells k i hi]; simp
  have hcw' := Lib.hid hcw
  clear hcw hx hok
  by_cases cf : f < -25567
  · have hlo : Hid (lo f = -25567) := by show _ = _; unfold lo; rw [if_pos cf]
    have l0 : -25567 ≤ -25567 := by omega
    by_cases ct : 84006 < t
    · have hhi : Hid (hi t = 84006) := by show _ = _; unfold hi; rw [if_pos ct]
      have h0 : 84006 ≤ 84006 := by omega
      have hcnt : Hid (∀ j : Nat, (-25567 + (j : Int) < 84006 ↔ j < cnt f t)) := by
        intro j; unfold cnt; rw [hlo.out, hhi.out]; omega
      go_enter Tryd.func16, Tryd.ntmps16
      go_wp2_with fail
      go_quiet (fail)
      go_wp2_with fail
      go_loopw [10, 11, 12] (fun s10 s11 s12 wr => ∃ j : Nat, j ≤ cnt f t ∧ s12 = .int .i64 (-25567 + j) ∧ s10 = .int .i64 (sumTo (W k) (lo f) j) ∧ s11 = .int .i64 (sumTo (V k) (lo f) j) ∧ Below w.heap.size w wr ∧ Hid (Ints .i64 wr a n cap xs) ∧ Hid (∀ i, i < 7 → wr.cell? ⟨w.heap.size, i, none⟩ = some (.int .i64 (k i)))) (fun _ _ s12 _ => (84006 - intOf s12).toNat)
      case atStart => exact ⟨0, Nat.zero_le _, by simp, rfl, rfl, below_drewN hb0 _, hx1.drewN _, hcw'.out⟩
      case round =>
        obtain ⟨j, hj, rfl, rfl, rfl, hbr, hxr, hcr⟩ := hrel
        have bm := hMB.out j
        have bd := hDB.out j
        have hj9 : cnt f t ≤ 109573 := cnt_bd f t
        by_cases hlt : j < cnt f t
        · have g0 : -25567 + (j : Int) < 84006 := (hcnt.out j).2 hlt
          have hw := hWB'.out (-25567 + (j : Int))
          have hM : Hid (sumTo (W k) (lo f) (j + 1) = sumTo (W k) (lo f) j + W k (-25567 + (j : Int))) := by show _ = _; rw [sumTo, hlo.out]
          have hD : Hid (sumTo (V k) (lo f) (j + 1) = sumTo (V k) (lo f) j + V k (-25567 + (j : Int))) := by show _ = _; rw [sumTo, hlo.out]
          have hcell := hcr.out _ (wd_lt (-25567 + (j : Int)))
          have hv : Hid (V k (-25567 + (j : Int)) = if 0 < W k (-25567 + (j : Int)) then 1 else 0) := rfl
          have hcell' : wr.cell? ⟨w.heap.size, ((-25567 + (j : Int) + 25567) % 7).toNat, none⟩ = some (.int .i64 (W k (-25567 + (j : Int)))) := hcell
          clear hcell
          have hwd := fun W => rweekday_is (-25567 + (j : Int)) ((-25567 + (j : Int) + 25567) % 7) W (by omega) (by omega) rfl
          have i0 : 0 ≤ (-25567 + (j : Int) + 25567) % 7 := by omega
          have i1 : (-25567 + (j : Int) + 25567) % 7 < 7 := by omega
          generalize (-25567 + (j : Int) + 25567) % 7 = i at *
          generalize W k (-25567 + (j : Int)) = x at *
          generalize sumTo (W k) (lo f) j = sm at *
          generalize sumTo (V k) (lo f) j = sd at *
          have HW := Lib.hid hwd
          clear hwd
          by_cases e : 0 < x
          · go_wp2_with fail
            refine (HW.out _).mono ?_
            rintro e w' ⟨rfl, rfl⟩
            go_wp2_with fail
            go_roundw
            case rel => exact ⟨j + 1, by omega, by go_num, by rw [hM.out], by rw [hD.out, hv.out, if_pos e], hbr, hxr, hcr⟩
            case measure => simp [intOf]; omega
          · go_wp2_with fail
            refine (HW.out _).mono ?_
            rintro e w' ⟨rfl, rfl⟩
            go_wp2_with fail
            go_roundw
            case rel => exact ⟨j + 1, by omega, by go_num, by rw [hM.out], by rw [hD.out, hv.out, if_neg (by omega)]; simp, hbr, hxr, hcr⟩
            case measure => simp [intOf]; omega
        · obtain rfl : j = cnt f t := by omega
          have g0 : ¬ (-25567 + ((cnt f t : Nat) : Int) < 84006) := fun h => by have := (hcnt.out (cnt f t)).1 h; omega
          generalize sumTo (W k) (lo f) (cnt f t) = sm at *
          generalize sumTo (V k) (lo f) (cnt f t) = sd at *
          go_wp2_with fail
          go_loopw [10, 11, 14] (fun s10 s11 s14 wr => ∃ (i : Nat) (p q : Int), i ≤ n ∧ s14 = .int .i64 i ∧ s10 = .int .i64 (sm - p) ∧ s11 = .int .i64 (sd - q) ∧ 0 ≤ p ∧ p ≤ 1440 * i ∧ 0 ≤ q ∧ q ≤ i ∧ Hid (taken (W k) (lo f) (hi t) xs = p + taken (W k) (lo f) (hi t) (xs.drop i)) ∧ Hid (taken (V k) (lo f) (hi t) xs = q + taken (V k) (lo f) (hi t) (xs.drop i)) ∧ Below w.heap.size w wr ∧ Hid (Ints .i64 wr a n cap xs) ∧ Hid (∀ i, i < 7 → wr.cell? ⟨w.heap.size, i, none⟩ = some (.int .i64 (k i)))) (fun _ _ s _ => n - (intOf s).toNat)
          case atStart => exact ⟨0, 0, 0, Nat.zero_le _, rfl, by simp, by simp, by omega, by omega, by omega, by omega, by show _ = _; simp, by show _ = _; simp, hbr, hxr, hcr⟩
          case round =>
            obtain ⟨i, p, q, hii, rfl, rfl, rfl, p0, p1, q0, q1, hp, hq, hbr, hxr, hcr⟩ := hrel
            by_cases hlt : i < n
            · obtain ⟨b, off, rfl, hbl, hcell⟩ := hxr.out.at_ hlt
              have hdin := hin'.out _ (getD_mem (xs := xs) (t := i) (by rw [hl'.out]; exact hlt))
              have hp' := Lib.hid (hp.out.trans (by rw [take_getD i (by rw [hl'.out]; exact hlt)]))
              have hq' := Lib.hid (hq.out.trans (by rw [take_getD i (by rw [hl'.out]; exact hlt)]))
              clear hp hq
              rw [hlo.out, hhi.out] at hp' hq'
              generalize xs.getD i 0 = d at *
              obtain ⟨d0, d1⟩ := hdin
              by_cases c1 : -25567 ≤ d
              · by_cases c2 : d < 84006
                · have hw := hWB'.out d
                  have hcell2 := hcr.out _ (wd_lt d)
                  have hv : Hid (V k d = if 0 < W k d then 1 else 0) := rfl
                  have hcell' : wr.cell? ⟨w.heap.size, ((d + 25567) % 7).toNat, none⟩ = some (.int .i64 (W k d)) := hcell2
                  clear hcell2
                  have hP : Hid (taken (W k) (-25567) (84006) xs = (p + W k d) + taken (W k) (-25567) (84006) (xs.drop (i + 1))) := by
                    have h := hp'.out; rw [if_pos ⟨c1, c2⟩] at h; show _ = _; omega
                  have hQ : Hid (taken (V k) (-25567) (84006) xs = (q + V k d) + taken (V k) (-25567) (84006) (xs.drop (i + 1))) := by
                    have h := hq'.out; rw [if_pos ⟨c1, c2⟩] at h; show _ = _; omega
                  clear hp' hq'
                  have hwd := fun W => rweekday_is d ((d + 25567) % 7) W (by omega) (by omega) rfl
                  have i0 : 0 ≤ (d + 25567) % 7 := by omega
                  have i1 : (d + 25567) % 7 < 7 := by omega
                  generalize (d + 25567) % 7 = u at *
                  generalize W k d = x at *
                  generalize V k d = v at *
                  have HW := Lib.hid hwd
                  clear hwd
                  by_cases e : 0 < x
                  · have hv1 : Hid (v = 1) := by have := hv.out; rw [if_pos e] at this; exact this
                    clear hv
                    go_wp2_with fail
                    refine (HW.out _).mono ?_
                    rintro e w' ⟨rfl, rfl⟩
                    go_wp2_with fail
                    go_roundw
                    case rel => exact ⟨i + 1, p + x, q + v, by omega, by go_num, by go_num, by rw [hv1.out]; go_num, by omega, by omega, by rw [hv1.out]; omega, by rw [hv1.out]; omega, by rw [hlo.out, hhi.out]; exact hP, by rw [hlo.out, hhi.out]; exact hQ, hbr, hxr, hcr⟩
                    case measure => simp [intOf]; omega
                  · have hv1 : Hid (v = 0) := by have := hv.out; rw [if_neg e] at this; exact this
                    clear hv
                    go_wp2_with fail
                    refine (HW.out _).mono ?_
                    rintro e w' ⟨rfl, rfl⟩
                    go_wp2_with fail
                    go_roundw
                    case rel => exact ⟨i + 1, p + x, q + v, by omega, by go_num, by go_num, by rw [hv1.out]; go_num, by omega, by omega, by rw [hv1.out]; omega, by rw [hv1.out]; omega, by rw [hlo.out, hhi.out]; exact hP, by rw [hlo.out, hhi.out]; exact hQ, hbr, hxr, hcr⟩
                    case measure => simp [intOf]; omega
                · exact absurd (show d < 84006 by omega) c2
              · exact absurd d0 c1
            · obtain rfl : i = n := by omega
              have hP : Hid (taken (W k) (lo f) (hi t) xs = p) := by
                have h := hp.out; rw [List.drop_of_length_le (by rw [hl'.out]; exact Nat.le_refl _), taken] at h; show _ = _; omega
              have hQ : Hid (taken (V k) (lo f) (hi t) xs = q) := by
                have h := hq.out; rw [List.drop_of_length_le (by rw [hl'.out]; exact Nat.le_refl _), taken] at h; show _ = _; omega
              clear hp hq
              go_wp2_with fail
              go_ret2
              exact ⟨by rw [HR.out.1, HR.out.2, hP.out, hQ.out]; rfl, hbr⟩
    · have hhi : Hid (hi t = t) := by show _ = _; unfold hi; rw [if_neg ct]
      have h0 : t ≤ 84006 := by omega
      have hcnt : Hid (∀ j : Nat, (-25567 + (j : Int) < t ↔ j < cnt f t)) := by
        intro j; unfold cnt; rw [hlo.out, hhi.out]; omega
      go_enter Tryd.func16, Tryd.ntmps16
      go_wp2_with fail
      go_quiet (fail)
      go_wp2_with fail
      go_loopw [10, 11, 12] (fun s10 s11 s12 wr => ∃ j : Nat, j ≤ cnt f t ∧ s12 = .int .i64 (-25567 + j) ∧ s10 = .int .i64 (sumTo (W k) (lo f) j) ∧ s11 = .int .i64 (sumTo (V k) (lo f) j) ∧ Below w.heap.size w wr ∧ Hid (Ints .i64 wr a n cap xs) ∧ Hid (∀ i, i < 7 → wr.cell? ⟨w.heap.size, i, none⟩ = some (.int .i64 (k i)))) (fun _ _ s12 _ => (84006 - intOf s12).toNat)
      case atStart => exact ⟨0, Nat.zero_le _, by simp, rfl, rfl, below_drewN hb0 _, hx1.drewN _, hcw'.out⟩
      case round =>
        obtain ⟨j, hj, rfl, rfl, rfl, hbr, hxr, hcr⟩ := hrel
        have bm := hMB.out j
        have bd := hDB.out j
        have hj9 : cnt f t ≤ 109573 := cnt_bd f t
        by_cases hlt : j < cnt f t
        · have g0 : -25567 + (j : Int) < t := (hcnt.out j).2 hlt
          have hw := hWB'.out (-25567 + (j : Int))
          have hM : Hid (sumTo (W k) (lo f) (j + 1) = sumTo (W k) (lo f) j + W k (-25567 + (j : Int))) := by show _ = _; rw [sumTo, hlo.out]
          have hD : Hid (sumTo (V k) (lo f) (j + 1) = sumTo (V k) (lo f) j + V k (-25567 + (j : Int))) := by show _ = _; rw [sumTo, hlo.out]
          have hcell := hcr.out _ (wd_lt (-25567 + (j : Int)))
          have hv : Hid (V k (-25567 + (j : Int)) = if 0 < W k (-25567 + (j : Int)) then 1 else 0) := rfl
          have hcell' : wr.cell? ⟨w.heap.size, ((-25567 + (j : Int) + 25567) % 7).toNat, none⟩ = some (.int .i64 (W k (-25567 + (j : Int)))) := hcell
          clear hcell
          have hwd := fun W => rweekday_is (-25567 + (j : Int)) ((-25567 + (j : Int) + 25567) % 7) W (by omega) (by omega) rfl
          have i0 : 0 ≤ (-25567 + (j : Int) + 25567) % 7 := by omega
          have i1 : (-25567 + (j : Int) + 25567) % 7 < 7 := by omega
          generalize (-25567 + (j : Int) + 25567) % 7 = i at *
          generalize W k (-25567 + (j : Int)) = x at *
          generalize sumTo (W k) (lo f) j = sm at *
          generalize sumTo (V k) (lo f) j = sd at *
          have HW := Lib.hid hwd
          clear hwd
          by_cases e : 0 < x
          · go_wp2_with fail
            refine (HW.out _).mono ?_
            rintro e w' ⟨rfl, rfl⟩
            go_wp2_with fail
            go_roundw
            case rel => exact ⟨j + 1, by omega, by go_num, by rw [hM.out], by rw [hD.out, hv.out, if_pos e], hbr, hxr, hcr⟩
            case measure => simp [intOf]; omega
          · go_wp2_with fail
            refine (HW.out _).mono ?_
            rintro e w' ⟨rfl, rfl⟩
            go_wp2_with fail
            go_roundw
            case rel => exact ⟨j + 1, by omega, by go_num, by rw [hM.out], by rw [hD.out, hv.out, if_neg (by omega)]; simp, hbr, hxr, hcr⟩
            case measure => simp [intOf]; omega
        · obtain rfl : j = cnt f t := by omega
          have g0 : ¬ (-25567 + ((cnt f t : Nat) : Int) < t) := fun h => by have := (hcnt.out (cnt f t)).1 h; omega
          generalize sumTo (W k) (lo f) (cnt f t) = sm at *
          generalize sumTo (V k) (lo f) (cnt f t) = sd at *
          go_wp2_with fail
          go_loopw [10, 11, 14] (fun s10 s11 s14 wr => ∃ (i : Nat) (p q : Int), i ≤ n ∧ s14 = .int .i64 i ∧ s10 = .int .i64 (sm - p) ∧ s11 = .int .i64 (sd - q) ∧ 0 ≤ p ∧ p ≤ 1440 * i ∧ 0 ≤ q ∧ q ≤ i ∧ Hid (taken (W k) (lo f) (hi t) xs = p + taken (W k) (lo f) (hi t) (xs.drop i)) ∧ Hid (taken (V k) (lo f) (hi t) xs = q + taken (V k) (lo f) (hi t) (xs.drop i)) ∧ Below w.heap.size w wr ∧ Hid (Ints .i64 wr a n cap xs) ∧ Hid (∀ i, i < 7 → wr.cell? ⟨w.heap.size, i, none⟩ = some (.int .i64 (k i)))) (fun _ _ s _ => n - (intOf s).toNat)
          case atStart => exact ⟨0, 0, 0, Nat.zero_le _, rfl, by simp, by simp, by omega, by omega, by omega, by omega, by show _ = _; simp, by show _ = _; simp, hbr, hxr, hcr⟩
          case round =>
            obtain ⟨i, p, q, hii, rfl, rfl, rfl, p0, p1, q0, q1, hp, hq, hbr, hxr, hcr⟩ := hrel
            by_cases hlt : i < n
            · obtain ⟨b, off, rfl, hbl, hcell⟩ := hxr.out.at_ hlt
              have hdin := hin'.out _ (getD_mem (xs := xs) (t := i) (by rw [hl'.out]; exact hlt))
              have hp' := Lib.hid (hp.out.trans (by rw [take_getD i (by rw [hl'.out]; exact hlt)]))
              have hq' := Lib.hid (hq.out.trans (by rw [take_getD i (by rw [hl'.out]; exact hlt)]))
              clear hp hq
              rw [hlo.out, hhi.out] at hp' hq'
              generalize xs.getD i 0 = d at *
              obtain ⟨d0, d1⟩ := hdin
              by_cases c1 : -25567 ≤ d
              · by_cases c2 : d < t
                · have hw := hWB'.out d
                  have hcell2 := hcr.out _ (wd_lt d)
                  have hv : Hid (V k d = if 0 < W k d then 1 else 0) := rfl
                  have hcell' : wr.cell? ⟨w.heap.size, ((d + 25567) % 7).toNat, none⟩ = some (.int .i64 (W k d)) := hcell2
                  clear hcell2
                  have hP : Hid (taken (W k) (-25567) (t) xs = (p + W k d) + taken (W k) (-25567) (t) (xs.drop (i + 1))) := by
                    have h := hp'.out; rw [if_pos ⟨c1, c2⟩] at h; show _ = _; omega
                  have hQ : Hid (taken (V k) (-25567) (t) xs = (q + V k d) + taken (V k) (-25567) (t) (xs.drop (i + 1))) := by
                    have h := hq'.out; rw [if_pos ⟨c1, c2⟩] at h; show _ = _; omega
                  clear hp' hq'
                  have hwd := fun W => rweekday_is d ((d + 25567) % 7) W (by omega) (by omega) rfl
                  have i0 : 0 ≤ (d + 25567) % 7 := by omega
                  have i1 : (d + 25567) % 7 < 7 := by omega
                  generalize (d + 25567) % 7 = u at *
                  generalize W k d = x at *
                  generalize V k d = v at *
                  have HW := Lib.hid hwd
                  clear hwd
                  by_cases e : 0 < x
                  · have hv1 : Hid (v = 1) := by have := hv.out; rw [if_pos e] at this; exact this
                    clear hv
                    go_wp2_with fail
                    refine (HW.out _).mono ?_
                    rintro e w' ⟨rfl, rfl⟩
                    go_wp2_with fail
                    go_roundw
                    case rel => exact ⟨i + 1, p + x, q + v, by omega, by go_num, by go_num, by rw [hv1.out]; go_num, by omega, by omega, by rw [hv1.out]; omega, by rw [hv1.out]; omega, by rw [hlo.out, hhi.out]; exact hP, by rw [hlo.out, hhi.out]; exact hQ, hbr, hxr, hcr⟩
                    case measure => simp [intOf]; omega
                  · have hv1 : Hid (v = 0) := by have := hv.out; rw [if_neg e] at this; exact this
                    clear hv
                    go_wp2_with fail
                    refine (HW.out _).mono ?_
                    rintro e w' ⟨rfl, rfl⟩
                    go_wp2_with fail
                    go_roundw
                    case rel => exact ⟨i + 1, p + x, q + v, by omega, by go_num, by go_num, by rw [hv1.out]; go_num, by omega, by omega, by rw [hv1.out]; omega, by rw [hv1.out]; omega, by rw [hlo.out, hhi.out]; exact hP, by rw [hlo.out, hhi.out]; exact hQ, hbr, hxr, hcr⟩
                    case measure => simp [intOf]; omega
                · have hP : Hid (taken (W k) (-25567) (t) xs = p + taken (W k) (-25567) (t) (xs.drop (i + 1))) := by
                    have h := hp'.out; rw [if_neg (fun h => c2 h.2)] at h; show _ = _; omega
                  have hQ : Hid (taken (V k) (-25567) (t) xs = q + taken (V k) (-25567) (t) (xs.drop (i + 1))) := by
                    have h := hq'.out; rw [if_neg (fun h => c2 h.2)] at h; show _ = _; omega
                  clear hp' hq'
                  go_wp2_with fail
                  go_roundw
                  case rel => exact ⟨i + 1, p, q, by omega, by go_num, rfl, rfl, by omega, by omega, by omega, by omega, by rw [hlo.out, hhi.out]; exact hP, by rw [hlo.out, hhi.out]; exact hQ, hbr, hxr, hcr⟩
                  case measure => simp [intOf]; omega
              · exact absurd d0 c1
            · obtain rfl : i = n := by omega
              have hP : Hid (taken (W k) (lo f) (hi t) xs = p) := by
                have h := hp.out; rw [List.drop_of_length_le (by rw [hl'.out]; exact Nat.le_refl _), taken] at h; show _ = _; omega
              have hQ : Hid (taken (V k) (lo f) (hi t) xs = q) := by
                have h := hq.out; rw [List.drop_of_length_le (by rw [hl'.out]; exact Nat.le_refl _), taken] at h; show _ = _; omega
              clear hp hq
              go_wp2_with fail
              go_ret2
              exact ⟨by rw [HR.out.1, HR.out.2, hP.out, hQ.out]; rfl, hbr⟩
  · have hlo : Hid (lo f = f) := by show _ = _; unfold lo; rw [if_neg cf]
    have l0 : -25567 ≤ f := by omega
    by_cases ct : 84006 < t
    · have hhi : Hid (hi t = 84006) := by show _ = _; unfold hi; rw [if_pos ct]
      have h0 : 84006 ≤ 84006 := by omega
      have hcnt : Hid (∀ j : Nat, (f + (j : Int) < 84006 ↔ j < cnt f t)) := by
        intro j; unfold cnt; rw [hlo.out, hhi.out]; omega
      go_enter Tryd.func16, Tryd.ntmps16
      go_wp2_with fail
      go_quiet (fail)
      go_wp2_with fail
      go_loopw [10, 11, 12] (fun s10 s11 s12 wr => ∃ j : Nat, j ≤ cnt f t ∧ s12 = .int .i64 (f + j) ∧ s10 = .int .i64 (sumTo (W k) (lo f) j) ∧ s11 = .int .i64 (sumTo (V k) (lo f) j) ∧ Below w.heap.size w wr ∧ Hid (Ints .i64 wr a n cap xs) ∧ Hid (∀ i, i < 7 → wr.cell? ⟨w.heap.size, i, none⟩ = some (.int .i64 (k i)))) (fun _ _ s12 _ => (84006 - intOf s12).toNat)
      case atStart => exact ⟨0, Nat.zero_le _, by simp, rfl, rfl, below_drewN hb0 _, hx1.drewN _, hcw'.out⟩
      case round =>
        obtain ⟨j, hj, rfl, rfl, rfl, hbr, hxr, hcr⟩ := hrel
        have bm := hMB.out j
        have bd := hDB.out j
        have hj9 : cnt f t ≤ 109573 := cnt_bd f t
        by_cases hlt : j < cnt f t
        · have g0 : f + (j : Int) < 84006 := (hcnt.out j).2 hlt
          have hw := hWB'.out (f + (j : Int))
          have hM : Hid (sumTo (W k) (lo f) (j + 1) = sumTo (W k) (lo f) j + W k (f + (j : Int))) := by show _ = _; rw [sumTo, hlo.out]
          have hD : Hid (sumTo (V k) (lo f) (j + 1) = sumTo (V k) (lo f) j + V k (f + (j : Int))) := by show _ = _; rw [sumTo, hlo.out]
          have hcell := hcr.out _ (wd_lt (f + (j : Int)))
          have hv : Hid (V k (f + (j : Int)) = if 0 < W k (f + (j : Int)) then 1 else 0) := rfl
          have hcell' : wr.cell? ⟨w.heap.size, ((f + (j : Int) + 25567) % 7).toNat, none⟩ = some (.int .i64 (W k (f + (j : Int)))) := hcell
          clear hcell
          have hwd := fun W => rweekday_is (f + (j : Int)) ((f + (j : Int) + 25567) % 7) W (by omega) (by omega) rfl
          have i0 : 0 ≤ (f + (j : Int) + 25567) % 7 := by omega
          have i1 : (f + (j : Int) + 25567) % 7 < 7 := by omega
          generalize (f + (j : Int) + 25567) % 7 = i at *
          generalize W k (f + (j : Int)) = x at *
          generalize sumTo (W k) (lo f) j = sm at *
          generalize sumTo (V k) (lo f) j = sd at *
          have HW := Lib.hid hwd
          clear hwd
          by_cases e : 0 < x
          · go_wp2_with fail
            refine (HW.out _).mono ?_
            rintro e w' ⟨rfl, rfl⟩
            go_wp2_with fail
            go_roundw
            case rel => exact ⟨j + 1, by omega, by go_num, by rw [hM.out], by rw [hD.out, hv.out, if_pos e], hbr, hxr, hcr⟩
            case measure => simp [intOf]; omega
          · go_wp2_with fail
            refine (HW.out _).mono ?_
            rintro e w' ⟨rfl, rfl⟩
            go_wp2_with fail
            go_roundw
            case rel => exact ⟨j + 1, by omega, by go_num, by rw [hM.out], by rw [hD.out, hv.out, if_neg (by omega)]; simp, hbr, hxr, hcr⟩
            case measure => simp [intOf]; omega
        · obtain rfl : j = cnt f t := by omega
          have g0 : ¬ (f + ((cnt f t : Nat) : Int) < 84006) := fun h => by have := (hcnt.out (cnt f t)).1 h; omega
          generalize sumTo (W k) (lo f) (cnt f t) = sm at *
          generalize sumTo (V k) (lo f) (cnt f t) = sd at *
          go_wp2_with fail
          go_loopw [10, 11, 14] (fun s10 s11 s14 wr => ∃ (i : Nat) (p q : Int), i ≤ n ∧ s14 = .int .i64 i ∧ s10 = .int .i64 (sm - p) ∧ s11 = .int .i64 (sd - q) ∧ 0 ≤ p ∧ p ≤ 1440 * i ∧ 0 ≤ q ∧ q ≤ i ∧ Hid (taken (W k) (lo f) (hi t) xs = p + taken (W k) (lo f) (hi t) (xs.drop i)) ∧ Hid (taken (V k) (lo f) (hi t) xs = q + taken (V k) (lo f) (hi t) (xs.drop i)) ∧ Below w.heap.size w wr ∧ Hid (Ints .i64 wr a n cap xs) ∧ Hid (∀ i, i < 7 → wr.cell? ⟨w.heap.size, i, none⟩ = some (.int .i64 (k i)))) (fun _ _ s _ => n - (intOf s).toNat)
          case atStart => exact ⟨0, 0, 0, Nat.zero_le _, rfl, by simp, by simp, by omega, by omega, by omega, by omega, by show _ = _; simp, by show _ = _; simp, hbr, hxr, hcr⟩
          case round =>
            obtain ⟨i, p, q, hii, rfl, rfl, rfl, p0, p1, q0, q1, hp, hq, hbr, hxr, hcr⟩ := hrel
            by_cases hlt : i < n
            · obtain ⟨b, off, rfl, hbl, hcell⟩ := hxr.out.at_ hlt
              have hdin := hin'.out _ (getD_mem (xs := xs) (t := i) (by rw [hl'.out]; exact hlt))
              have hp' := Lib.hid (hp.out.trans (by rw [take_getD i (by rw [hl'.out]; exact hlt)]))
              have hq' := Lib.hid (hq.out.trans (by rw [take_getD i (by rw [hl'.out]; exact hlt)]))
              clear hp hq
              rw [hlo.out, hhi.out] at hp' hq'
              generalize xs.getD i 0 = d at *
              obtain ⟨d0, d1⟩ := hdin
              by_cases c1 : f ≤ d
              · by_cases c2 : d < 84006
                · have hw := hWB'.out d
                  have hcell2 := hcr.out _ (wd_lt d)
                  have hv : Hid (V k d = if 0 < W k d then 1 else 0) := rfl
                  have hcell' : wr.cell? ⟨w.heap.size, ((d + 25567) % 7).toNat, none⟩ = some (.int .i64 (W k d)) := hcell2
                  clear hcell2
                  have hP : Hid (taken (W k) (f) (84006) xs = (p + W k d) + taken (W k) (f) (84006) (xs.drop (i + 1))) := by
                    have h := hp'.out; rw [if_pos ⟨c1, c2⟩] at h; show _ = _; omega
                  have hQ : Hid (taken (V k) (f) (84006) xs = (q + V k d) + taken (V k) (f) (84006) (xs.drop (i + 1))) := by
                    have h := hq'.out; rw [if_pos ⟨c1, c2⟩] at h; show _ = _; omega
                  clear hp' hq'
                  have hwd := fun W => rweekday_is d ((d + 25567) % 7) W (by omega) (by omega) rfl
                  have i0 : 0 ≤ (d + 25567) % 7 := by omega
                  have i1 : (d + 25567) % 7 < 7 := by omega
                  generalize (d + 25567) % 7 = u at *
                  generalize W k d = x at *
                  generalize V k d = v at *
                  have HW := Lib.hid hwd
                  clear hwd
                  by_cases e : 0 < x
                  · have hv1 : Hid (v = 1) := by have := hv.out; rw [if_pos e] at this; exact this
                    clear hv
                    go_wp2_with fail
                    refine (HW.out _).mono ?_
                    rintro e w' ⟨rfl, rfl⟩
                    go_wp2_with fail
                    go_roundw
                    case rel => exact ⟨i + 1, p + x, q + v, by omega, by go_num, by go_num, by rw [hv1.out]; go_num, by omega, by omega, by rw [hv1.out]; omega, by rw [hv1.out]; omega, by rw [hlo.out, hhi.out]; exact hP, by rw [hlo.out, hhi.out]; exact hQ, hbr, hxr, hcr⟩
                    case measure => simp [intOf]; omega
                  · have hv1 : Hid (v = 0) := by have := hv.out; rw [if_neg e] at this; exact this
                    clear hv
                    go_wp2_with fail
                    refine (HW.out _).mono ?_
                    rintro e w' ⟨rfl, rfl⟩
                    go_wp2_with fail
                    go_roundw
                    case rel => exact ⟨i + 1, p + x, q + v, by omega, by go_num, by go_num, by rw [hv1.out]; go_num, by omega, by omega, by rw [hv1.out]; omega, by rw [hv1.out]; omega, by rw [hlo.out, hhi.out]; exact hP, by rw [hlo.out, hhi.out]; exact hQ, hbr, hxr, hcr⟩
                    case measure => simp [intOf]; omega
                · exact absurd (show d < 84006 by omega) c2
              · have hP : Hid (taken (W k) (f) (84006) xs = p + taken (W k) (f) (84006) (xs.drop (i + 1))) := by
                  have h := hp'.out; rw [if_neg (fun h => c1 h.1)] at h; show _ = _; omega
                have hQ : Hid (taken (V k) (f) (84006) xs = q + taken (V k) (f) (84006) (xs.drop (i + 1))) := by
                  have h := hq'.out; rw [if_neg (fun h => c1 h.1)] at h; show _ = _; omega
                clear hp' hq'
                go_wp2_with fail
                go_roundw
                case rel => exact ⟨i + 1, p, q, by omega, by go_num, rfl, rfl, by omega, by omega, by omega, by omega, by rw [hlo.out, hhi.out]; exact hP, by rw [hlo.out, hhi.out]; exact hQ, hbr, hxr, hcr⟩
                case measure => simp [intOf]; omega
            · obtain rfl : i = n := by omega
              have hP : Hid (taken (W k) (lo f) (hi t) xs = p) := by
                have h := hp.out; rw [List.drop_of_length_le (by rw [hl'.out]; exact Nat.le_refl _), taken] at h; show _ = _; omega
              have hQ : Hid (taken (V k) (lo f) (hi t) xs = q) := by
                have h := hq.out; rw [List.drop_of_length_le (by rw [hl'.out]; exact Nat.le_refl _), taken] at h; show _ = _; omega
              clear hp hq
              go_wp2_with fail
              go_ret2
              exact ⟨by rw [HR.out.1, HR.out.2, hP.out, hQ.out]; rfl, hbr⟩
    · have hhi : Hid (hi t = t) := by show _ = _; unfold hi; rw [if_neg ct]
      have h0 : t ≤ 84006 := by omega
      have hcnt : Hid (∀ j : Nat, (f + (j : Int) < t ↔ j < cnt f t)) := by
        intro j; unfold cnt; rw [hlo.out, hhi.out]; omega
      go_enter Tryd.func16, Tryd.ntmps16
      go_wp2_with fail
      go_quiet (fail)
      go_wp2_with fail
      go_loopw [10, 11, 12] (fun s10 s11 s12 wr => ∃ j : Nat, j ≤ cnt f t ∧ s12 = .int .i64 (f + j) ∧ s10 = .int .i64 (sumTo (W k) (lo f) j) ∧ s11 = .int .i64 (sumTo (V k) (lo f) j) ∧ Below w.heap.size w wr ∧ Hid (Ints .i64 wr a n cap xs) ∧ Hid (∀ i, i < 7 → wr.cell? ⟨w.heap.size, i, none⟩ = some (.int .i64 (k i)))) (fun _ _ s12 _ => (84006 - intOf s12).toNat)
      case atStart => exact ⟨0, Nat.zero_le _, by simp, rfl, rfl, below_drewN hb0 _, hx1.drewN _, hcw'.out⟩
      case round =>
        obtain ⟨j, hj, rfl, rfl, rfl, hbr, hxr, hcr⟩ := hrel
        have bm := hMB.out j
        have bd := hDB.out j
        have hj9 : cnt f t ≤ 109573 := cnt_bd f t
        by_cases hlt : j < cnt f t
        · have g0 : f + (j : Int) < t := (hcnt.out j).2 hlt
          have hw := hWB'.out (f + (j : Int))
          have hM : Hid (sumTo (W k) (lo f) (j + 1) = sumTo (W k) (lo f) j + W k (f + (j : Int))) := by show _ = _; rw [sumTo, hlo.out]
          have hD : Hid (sumTo (V k) (lo f) (j + 1) = sumTo (V k) (lo f) j + V k (f + (j : Int))) := by show _ = _; rw [sumTo, hlo.out]
          have hcell := hcr.out _ (wd_lt (f + (j : Int)))
          have hv : Hid (V k (f + (j : Int)) = if 0 < W k (f + (j : Int)) then 1 else 0) := rfl
          have hcell' : wr.cell? ⟨w.heap.size, ((f + (j : Int) + 25567) % 7).toNat, none⟩ = some (.int .i64 (W k (f + (j : Int)))) := hcell
          clear hcell
          have hwd := fun W => rweekday_is (f + (j : Int)) ((f + (j : Int) + 25567) % 7) W (by omega) (by omega) rfl
          have i0 : 0 ≤ (f + (j : Int) + 25567) % 7 := by omega
          have i1 : (f + (j : Int) + 25567) % 7 < 7 := by omega
          generalize (f + (j : Int) + 25567) % 7 = i at *
          generalize W k (f + (j : Int)) = x at *
          generalize sumTo (W k) (lo f) j = sm at *
          generalize sumTo (V k) (lo f) j = sd at *
          have HW := Lib.hid hwd
          clear hwd
          by_cases e : 0 < x
          · go_wp2_with fail
            refine (HW.out _).mono ?_
            rintro e w' ⟨rfl, rfl⟩
            go_wp2_with fail
            go_roundw
            case rel => exact ⟨j + 1, by omega, by go_num, by rw [hM.out], by rw [hD.out, hv.out, if_pos e], hbr, hxr, hcr⟩
            case measure => simp [intOf]; omega
          · go_wp2_with fail
            refine (HW.out _).mono ?_
            rintro e w' ⟨rfl, rfl⟩
            go_wp2_with fail
            go_roundw
            case rel => exact ⟨j + 1, by omega, by go_num, by rw [hM.out], by rw [hD.out, hv.out, if_neg (by omega)]; simp, hbr, hxr, hcr⟩
            case measure => simp [intOf]; omega
        · obtain rfl : j = cnt f t := by omega
          have g0 : ¬ (f + ((cnt f t : Nat) : Int) < t) := fun h => by have := (hcnt.out (cnt f t)).1 h; omega
          generalize sumTo (W k) (lo f) (cnt f t) = sm at *
          generalize sumTo (V k) (lo f) (cnt f t) = sd at *
          go_wp2_with fail
          go_loopw [10, 11, 14] (fun s10 s11 s14 wr => ∃ (i : Nat) (p q : Int), i ≤ n ∧ s14 = .int .i64 i ∧ s10 = .int .i64 (sm - p) ∧ s11 = .int .i64 (sd - q) ∧ 0 ≤ p ∧ p ≤ 1440 * i ∧ 0 ≤ q ∧ q ≤ i ∧ Hid (taken (W k) (lo f) (hi t) xs = p + taken (W k) (lo f) (hi t) (xs.drop i)) ∧ Hid (taken (V k) (lo f) (hi t) xs = q + taken (V k) (lo f) (hi t) (xs.drop i)) ∧ Below w.heap.size w wr ∧ Hid (Ints .i64 wr a n cap xs) ∧ Hid (∀ i, i < 7 → wr.cell? ⟨w.heap.size, i, none⟩ = some (.int .i64 (k i)))) (fun _ _ s _ => n - (intOf s).toNat)
          case atStart => exact ⟨0, 0, 0, Nat.zero_le _, rfl, by simp, by simp, by omega, by omega, by omega, by omega, by show _ = _; simp, by show _ = _; simp, hbr, hxr, hcr⟩
          case round =>
            obtain ⟨i, p, q, hii, rfl, rfl, rfl, p0, p1, q0, q1, hp, hq, hbr, hxr, hcr⟩ := hrel
            by_cases hlt : i < n
            · obtain ⟨b, off, rfl, hbl, hcell⟩ := hxr.out.at_ hlt
              have hdin := hin'.out _ (getD_mem (xs := xs) (t := i) (by rw [hl'.out]; exact hlt))
              have hp' := Lib.hid (hp.out.trans (by rw [take_getD i (by rw [hl'.out]; exact hlt)]))
              have hq' := Lib.hid (hq.out.trans (by rw [take_getD i (by rw [hl'.out]; exact hlt)]))
              clear hp hq
              rw [hlo.out, hhi.out] at hp' hq'
              generalize xs.getD i 0 = d at *
              obtain ⟨d0, d1⟩ := hdin
              by_cases c1 : f ≤ d
              · by_cases c2 : d < t
                · have hw := hWB'.out d
                  have hcell2 := hcr.out _ (wd_lt d)
                  have hv : Hid (V k d = if 0 < W k d then 1 else 0) := rfl
                  have hcell' : wr.cell? ⟨w.heap.size, ((d + 25567) % 7).toNat, none⟩ = some (.int .i64 (W k d)) := hcell2
                  clear hcell2
                  have hP : Hid (taken (W k) (f) (t) xs = (p + W k d) + taken (W k) (f) (t) (xs.drop (i + 1))) := by
                    have h := hp'.out; rw [if_pos ⟨c1, c2⟩] at h; show _ = _; omega
                  have hQ : Hid (taken (V k) (f) (t) xs = (q + V k d) + taken (V k) (f) (t) (xs.drop (i + 1))) := by
                    have h := hq'.out; rw [if_pos ⟨c1, c2⟩] at h; show _ = _; omega
                  clear hp' hq'
                  have hwd := fun W => rweekday_is d ((d + 25567) % 7) W (by omega) (by omega) rfl
                  have i0 : 0 ≤ (d + 25567) % 7 := by omega
                  have i1 : (d + 25567) % 7 < 7 := by omega
                  generalize (d + 25567) % 7 = u at *
                  generalize W k d = x at *
                  generalize V k d = v at *
                  have HW := Lib.hid hwd
                  clear hwd
                  by_cases e : 0 < x
                  · have hv1 : Hid (v = 1) := by have := hv.out; rw [if_pos e] at this; exact this
                    clear hv
                    go_wp2_with fail
                    refine (HW.out _).mono ?_
                    rintro e w' ⟨rfl, rfl⟩
                    go_wp2_with fail
                    go_roundw
                    case rel => exact ⟨i + 1, p + x, q + v, by omega, by go_num, by go_num, by rw [hv1.out]; go_num, by omega, by omega, by rw [hv1.out]; omega, by rw [hv1.out]; omega, by rw [hlo.out, hhi.out]; exact hP, by rw [hlo.out, hhi.out]; exact hQ, hbr, hxr, hcr⟩
                    case measure => simp [intOf]; omega
                  · have hv1 : Hid (v = 0) := by have := hv.out; rw [if_neg e] at this; exact this
                    clear hv
                    go_wp2_with fail
                    refine (HW.out _).mono ?_
                    rintro e w' ⟨rfl, rfl⟩
                    go_wp2_with fail
                    go_roundw
                    case rel => exact ⟨i + 1, p + x, q + v, by omega, by go_num, by go_num, by rw [hv1.out]; go_num, by omega, by omega, by rw [hv1.out]; omega, by rw [hv1.out]; omega, by rw [hlo.out, hhi.out]; exact hP, by rw [hlo.out, hhi.out]; exact hQ, hbr, hxr, hcr⟩
                    case measure => simp [intOf]; omega
                · have hP : Hid (taken (W k) (f) (t) xs = p + taken (W k) (f) (t) (xs.drop (i + 1))) := by
                    have h := hp'.out; rw [if_neg (fun h => c2 h.2)] at h; show _ = _; omega
                  have hQ : Hid (taken (V k) (f) (t) xs = q + taken (V k) (f) (t) (xs.drop (i + 1))) := by
                    have h := hq'.out; rw [if_neg (fun h => c2 h.2)] at h; show _ = _; omega
                  clear hp' hq'
                  go_wp2_with fail
                  go_roundw
                  case rel => exact ⟨i + 1, p, q, by omega, by go_num, rfl, rfl, by omega, by omega, by omega, by omega, by rw [hlo.out, hhi.out]; exact hP, by rw [hlo.out, hhi.out]; exact hQ, hbr, hxr, hcr⟩
                  case measure => simp [intOf]; omega
              · have hP : Hid (taken (W k) (f) (t) xs = p + taken (W k) (f) (t) (xs.drop (i + 1))) := by
                  have h := hp'.out; rw [if_neg (fun h => c1 h.1)] at h; show _ = _; omega
                have hQ : Hid (taken (V k) (f) (t) xs = q + taken (V k) (f) (t) (xs.drop (i + 1))) := by
                  have h := hq'.out; rw [if_neg (fun h => c1 h.1)] at h; show _ = _; omega
                clear hp' hq'
                go_wp2_with fail
                go_roundw
                case rel => exact ⟨i + 1, p, q, by omega, by go_num, rfl, rfl, by omega, by omega, by omega, by omega, by rw [hlo.out, hhi.out]; exact hP, by rw [hlo.out, hhi.out]; exact hQ, hbr, hxr, hcr⟩
                case measure => simp [intOf]; omega
            · obtain rfl : i = n := by omega
              have hP : Hid (taken (W k) (lo f) (hi t) xs = p) := by
                have h := hp.out; rw [List.drop_of_length_le (by rw [hl'.out]; exact Nat.le_refl _), taken] at h; show _ = _; omega
              have hQ : Hid (taken (V k) (lo f) (hi t) xs = q) := by
                have h := hq.out; rw [List.drop_of_length_le (by rw [hl'.out]; exact Nat.le_refl _), taken] at h; show _ = _; omega
              clear hp hq
              go_wp2_with fail
              go_ret2
              exact ⟨by rw [HR.out.1, HR.out.2, hP.out, hQ.out]; rfl, hbr⟩
end Go.Proofs.YtjpjeimpmfoldaaDoor.W
