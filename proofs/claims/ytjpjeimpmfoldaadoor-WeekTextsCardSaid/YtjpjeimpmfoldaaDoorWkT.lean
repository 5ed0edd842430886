/- The walk of the week's Parse. -/
import Derived.Test.YtjpjeimpmfoldaaDoorWkJ
import Derived.Test.YtjpjeimpmfoldaaDoorWkP
namespace Go.Proofs.YtjpjeimpmfoldaaDoor.W
open Go.RowKit Go.Proofs.YtjpjeimpmfoldaaDoor.M Go.Proofs.YtjpjeimpmfoldaaDoor.WL Go.Proofs.YtjpjeimpmfoldaaDoor.WP
set_option linter.unusedVariables false

/-- What memory holds at each round: the answer's seven cells, all 0; the week's; the text's bytes. -/
structure PSt (w wr : World) (l : List UInt8) (k : Nat → Int) : Prop where
  bel : Below w.heap.size w wr
  size : w.heap.size + 2 < wr.heap.size
  ans : ∀ i, i < 7 → wr.cell? ⟨w.heap.size, i, none⟩ = some (.int .i64 0)
  ansf : ∀ i, i < 7 → wr.frozen? ⟨w.heap.size, i, none⟩ = false
  wk : ∀ i, i < 7 → wr.cell? ⟨w.heap.size + 1, i, none⟩ = some (.int .i64 (k i))
  wkf : ∀ i, i < 7 → wr.frozen? ⟨w.heap.size + 1, i, none⟩ = false
  txt : ∀ j, j < l.length → wr.cell? ⟨w.heap.size + 2, j, none⟩ = some (.int .u8 ((l.getD j 0).toNat : Int))
  bd : ∀ i, 0 ≤ k i ∧ k i ≤ 1441

theorem PSt.put {w wr : World} {l : List UInt8} {k : Nat → Int} (h : PSt w wr l k) (p : Nat) (hp : p < 7) (v : Int) (hv : 0 ≤ v ∧ v ≤ 1441) : PSt w (wr.setCell ⟨w.heap.size + 1, p, none⟩ (.int .i64 v)) l (upd k p v) where
  bel := bset h.bel (by simp) _
  size := by simpa using h.size
  ans := fun i hi => by rw [World.cell?_setCell_other _ _ _ _ (by simp)]; exact h.ans i hi
  ansf := fun i hi => by simpa using h.ansf i hi
  wk := fun i hi => by
    by_cases c : i = p
    · subst c; rw [upd_same]; exact World.cell?_setCell_same _ _ _ (h.wk i hi)
    · rw [upd_other _ _ _ _ c, World.cell?_setCell_other _ _ _ _ (by simp; try omega)]; exact h.wk i hi
  wkf := fun i hi => by simpa using h.wkf i hi
  txt := fun j hj => by rw [World.cell?_setCell_other _ _ _ _ (by simp)]; exact h.txt j hj
  bd := fun i => by
    by_cases c : i = p
    · subst c; rw [upd_same]; exact hv
    · rw [upd_other _ _ _ _ c]; exact h.bd i

def ParseOut (l : List UInt8) (w : World) (e : Ending) (w' : World) : Prop :=
  e = .returned (.tuple #[.agg #[.int .i64 ((fin (run l 0 0 0 zero)).1 0), .int .i64 ((fin (run l 0 0 0 zero)).1 1), .int .i64 ((fin (run l 0 0 0 zero)).1 2), .int .i64 ((fin (run l 0 0 0 zero)).1 3), .int .i64 ((fin (run l 0 0 0 zero)).1 4), .int .i64 ((fin (run l 0 0 0 zero)).1 5), .int .i64 ((fin (run l 0 0 0 zero)).1 6)], .int .i64 (fin (run l 0 0 0 zero)).2]) ∧ Below w.heap.size w w'
theorem drop_cons8' (xs : List UInt8) (k : Nat) (h : k < xs.length) : xs.drop k = xs.getD k 0 :: xs.drop (k + 1) := by
  rw [List.drop_eq_getElem_cons h]
  simp [List.getD_eq_getElem?_getD, h]
theorem parse_done {l : List UInt8} {w : World} {e : Ending} {w' : World} (q : (Nat → Int) × Int) (hq : Hid (fin (run l 0 0 0 zero) = q)) (he : e = .returned (.tuple #[.agg #[.int .i64 (q.1 0), .int .i64 (q.1 1), .int .i64 (q.1 2), .int .i64 (q.1 3), .int .i64 (q.1 4), .int .i64 (q.1 5), .int .i64 (q.1 6)], .int .i64 q.2])) (hb : Below w.heap.size w w') : ParseOut l w e w' := by
  unfold ParseOut; rw [hq.out]; exact ⟨he, hb⟩

set_option maxRecDepth 100000 in
set_option maxHeartbeats 4000000 in
theorem parse_any (s : ByteArray) (w : World) (hs : s.size ≤ 300) :
    Calls Tryd.prog 20 #[.string s] w (ParseOut s.data.toList w) := by
  obtain ⟨cap, W1, hcv, hb1, hz1, hcell⟩ := bytes_of (P := Tryd.prog) ((w.alloc (.cells #[.int .i64 0, .int .i64 0, .int .i64 0, .int .i64 0, .int .i64 0, .int .i64 0, .int .i64 0] 23)).alloc (.cells #[.int .i64 0, .int .i64 0, .int .i64 0, .int .i64 0, .int .i64 0, .int .i64 0, .int .i64 0] 23)) 9 58 5 s Tryd.underlying9 Tryd.underlying58 Tryd.underlying5
  have hlen : s.data.toList.length = s.size := by simp
  generalize hl : s.data.toList = l at *
  clear hl
  have hlen' := Lib.hid hlen; clear hlen
  have hst : PSt w W1 l zero := ⟨(balloc (balloc (Below.refl w.heap.size w) _) _).trans (hb1.mono (by simp; omega)), by simpa using hz1,
    fun i hi => by rw [hb1.cell (p := ⟨w.heap.size, i, none⟩) (by simp; omega)]; rcases (by omega : i = 0 ∨ i = 1 ∨ i = 2 ∨ i = 3 ∨ i = 4 ∨ i = 5 ∨ i = 6) with rfl | rfl | rfl | rfl | rfl | rfl | rfl <;> go_simp,
    fun i hi => by rw [hb1.frozen (p := ⟨w.heap.size, i, none⟩) (by simp; omega)]; go_simp,
    fun i hi => by rw [hb1.cell (p := ⟨w.heap.size + 1, i, none⟩) (by simp)]; rcases (by omega : i = 0 ∨ i = 1 ∨ i = 2 ∨ i = 3 ∨ i = 4 ∨ i = 5 ∨ i = 6) with rfl | rfl | rfl | rfl | rfl | rfl | rfl <;> go_simp <;> rfl,
    fun i hi => by rw [hb1.frozen (p := ⟨w.heap.size + 1, i, none⟩) (by simp)]; go_simp,
    fun j hj => by simpa using hcell j hj, fun i => by simp [zero]⟩
  have Hst := Lib.hid hst
  clear hst hb1 hz1 hcell
  go_enter Tryd.func20, Tryd.ntmps20
  go_wp2
  clear hcv
  go_loopw [5, 6, 7, 13] (fun s5 s6 s7 s13 wr => ∃ (j p dg : Nat) (f : UInt8) (k : Nat → Int), j ≤ s.size ∧ dg ≤ j ∧ s13 = .int .i64 j ∧ s5 = .int .i64 p ∧ p ≤ 6 ∧ s6 = .int .i64 dg ∧ s7 = .int .u8 f.toNat ∧ Hid (PSt w wr l k) ∧ Hid (run l 0 0 0 zero = run (l.drop j) p dg f k)) (fun _ _ _ i _ => s.size - (intOf i).toNat)
  case atStart => exact ⟨0, 0, 0, 0, zero, Nat.zero_le _, Nat.le_refl _, rfl, rfl, by omega, rfl, rfl, Hst, rfl⟩
  case round =>
    obtain ⟨j, p, dg, f, k, hj, hdj, rfl, rfl, hp, rfl, rfl, hst, hrn⟩ := hrel
    by_cases c : j < s.size
    · have hc := hst.out.txt j (by rw [hlen'.out]; exact c)
      have hn := hrn.out
      rw [drop_cons8' l j (by rw [hlen'.out]; exact c)] at hn
      have HN := Lib.hid hn
      clear hn hrn
      have hbk := hst.out.bd p
      generalize l.getD j 0 = b at *
      have hb256 : (b.toNat : Int) < 256 := by have := b.toNat_lt; omega
      have hsz := hst.out.size
      by_cases d32 : b.toNat = 32
      · have e32 : ((b.toNat : Int) == 32) = true := beq_iff_eq.2 (by omega)
        have q32 : (b.toNat : Int) < 48 := by omega
        by_cases g0 : 0 < dg
        · by_cases g6 : p < 6
          · have hfin : Hid (run l 0 0 0 zero = run (l.drop (j + 1)) (p + 1) 0 f k) := HN.out.trans (run_blank ⟨d32, g0, g6⟩)
            clear HN d32
            go_wp2_with fail
            go_roundw
            case rel => exact ⟨j + 1, p + 1, 0, f, k, by omega, by omega, by go_num, by go_num, by omega, rfl, rfl, hst, hfin⟩
            case measure => simp [intOf]; omega
          · have hfin : Hid (fin (run l 0 0 0 zero) = (zero, 3)) := by show _ = _; rw [HN.out, run_stop (by omega) (by omega)]; rfl
            have d6 : decide ((p : Int) < 6) = false := by simp; omega
            clear HN d32
            have a0 := hst.out.ans 0 (by omega)
            have z0 := hst.out.ansf 0 (by omega)
            have a1 := hst.out.ans 1 (by omega)
            have z1 := hst.out.ansf 1 (by omega)
            have a2 := hst.out.ans 2 (by omega)
            have z2 := hst.out.ansf 2 (by omega)
            have a3 := hst.out.ans 3 (by omega)
            have z3 := hst.out.ansf 3 (by omega)
            have a4 := hst.out.ans 4 (by omega)
            have z4 := hst.out.ansf 4 (by omega)
            have a5 := hst.out.ans 5 (by omega)
            have z5 := hst.out.ansf 5 (by omega)
            have a6 := hst.out.ans 6 (by omega)
            have z6 := hst.out.ansf 6 (by omega)
            go_wp2_with fail
            refine bodyPost_ret (v := .tuple #[.agg #[.int .i64 0, .int .i64 0, .int .i64 0, .int .i64 0, .int .i64 0, .int .i64 0, .int .i64 0], .int .i64 3]) (by simp [results, Tryd.results20, go_sem, a0, a1, a2, a3, a4, a5, a6]) rfl ?_
            exact parse_done (zero, 3) hfin rfl (by repeat (first | refine bset ?_ (by simp) _ | exact hst.out.bel))
        · have hfin : Hid (fin (run l 0 0 0 zero) = (zero, 3)) := by show _ = _; rw [HN.out, run_stop (by omega) (by omega)]; rfl
          have d0 : decide ((0 : Int) < (dg : Int)) = false := by simp; omega
          clear HN d32
          have a0 := hst.out.ans 0 (by omega)
          have z0 := hst.out.ansf 0 (by omega)
          have a1 := hst.out.ans 1 (by omega)
          have z1 := hst.out.ansf 1 (by omega)
          have a2 := hst.out.ans 2 (by omega)
          have z2 := hst.out.ansf 2 (by omega)
          have a3 := hst.out.ans 3 (by omega)
          have z3 := hst.out.ansf 3 (by omega)
          have a4 := hst.out.ans 4 (by omega)
          have z4 := hst.out.ansf 4 (by omega)
          have a5 := hst.out.ans 5 (by omega)
          have z5 := hst.out.ansf 5 (by omega)
          have a6 := hst.out.ans 6 (by omega)
          have z6 := hst.out.ansf 6 (by omega)
          go_wp2_with fail
          refine bodyPost_ret (v := .tuple #[.agg #[.int .i64 0, .int .i64 0, .int .i64 0, .int .i64 0, .int .i64 0, .int .i64 0, .int .i64 0], .int .i64 3]) (by simp [results, Tryd.results20, go_sem, a0, a1, a2, a3, a4, a5, a6]) rfl ?_
          exact parse_done (zero, 3) hfin rfl (by repeat (first | refine bset ?_ (by simp) _ | exact hst.out.bel))
      · have e32 : ((b.toNat : Int) == 32) = false := beq_eq_false_iff_ne.2 (by omega)
        by_cases lo : b.toNat < 48
        · have hfin : Hid (fin (run l 0 0 0 zero) = (zero, 3)) := by show _ = _; rw [HN.out, run_stop (by omega) (by omega)]; rfl
          have lo' : (b.toNat : Int) < 48 := by omega
          clear HN d32 lo
          have a0 := hst.out.ans 0 (by omega)
          have z0 := hst.out.ansf 0 (by omega)
          have a1 := hst.out.ans 1 (by omega)
          have z1 := hst.out.ansf 1 (by omega)
          have a2 := hst.out.ans 2 (by omega)
          have z2 := hst.out.ansf 2 (by omega)
          have a3 := hst.out.ans 3 (by omega)
          have z3 := hst.out.ansf 3 (by omega)
          have a4 := hst.out.ans 4 (by omega)
          have z4 := hst.out.ansf 4 (by omega)
          have a5 := hst.out.ans 5 (by omega)
          have z5 := hst.out.ansf 5 (by omega)
          have a6 := hst.out.ans 6 (by omega)
          have z6 := hst.out.ansf 6 (by omega)
          go_wp2_with fail
          refine bodyPost_ret (v := .tuple #[.agg #[.int .i64 0, .int .i64 0, .int .i64 0, .int .i64 0, .int .i64 0, .int .i64 0, .int .i64 0], .int .i64 3]) (by simp [results, Tryd.results20, go_sem, a0, a1, a2, a3, a4, a5, a6]) rfl ?_
          exact parse_done (zero, 3) hfin rfl (by repeat (first | refine bset ?_ (by simp) _ | exact hst.out.bel))
        by_cases hi : 57 < b.toNat
        · have hfin : Hid (fin (run l 0 0 0 zero) = (zero, 3)) := by show _ = _; rw [HN.out, run_stop (by omega) (by omega)]; rfl
          have lo' : ¬ (b.toNat : Int) < 48 := by omega
          have hi' : 57 < (b.toNat : Int) := by omega
          clear HN d32 lo hi
          have a0 := hst.out.ans 0 (by omega)
          have z0 := hst.out.ansf 0 (by omega)
          have a1 := hst.out.ans 1 (by omega)
          have z1 := hst.out.ansf 1 (by omega)
          have a2 := hst.out.ans 2 (by omega)
          have z2 := hst.out.ansf 2 (by omega)
          have a3 := hst.out.ans 3 (by omega)
          have z3 := hst.out.ansf 3 (by omega)
          have a4 := hst.out.ans 4 (by omega)
          have z4 := hst.out.ansf 4 (by omega)
          have a5 := hst.out.ans 5 (by omega)
          have z5 := hst.out.ansf 5 (by omega)
          have a6 := hst.out.ans 6 (by omega)
          have z6 := hst.out.ansf 6 (by omega)
          go_wp2_with fail
          refine bodyPost_ret (v := .tuple #[.agg #[.int .i64 0, .int .i64 0, .int .i64 0, .int .i64 0, .int .i64 0, .int .i64 0, .int .i64 0], .int .i64 3]) (by simp [results, Tryd.results20, go_sem, a0, a1, a2, a3, a4, a5, a6]) rfl ?_
          exact parse_done (zero, 3) hfin rfl (by repeat (first | refine bset ?_ (by simp) _ | exact hst.out.bel))
        have lo' : 48 ≤ (b.toNat : Int) := by omega
        have hi' : (b.toNat : Int) ≤ 57 := by omega
        by_cases g0 : 0 < dg
        · have gi0 : (0 : Int) < (dg : Int) := by omega
          by_cases f48 : f.toNat = 48
          · have hfin : Hid (fin (run l 0 0 0 zero) = (zero, 3)) := by show _ = _; rw [HN.out, run_stop (by omega) (by omega)]; rfl
            have e48 : ((f.toNat : Int) == 48) = true := beq_iff_eq.2 (by omega)
            clear HN d32 lo hi f48
            have a0 := hst.out.ans 0 (by omega)
            have z0 := hst.out.ansf 0 (by omega)
            have a1 := hst.out.ans 1 (by omega)
            have z1 := hst.out.ansf 1 (by omega)
            have a2 := hst.out.ans 2 (by omega)
            have z2 := hst.out.ansf 2 (by omega)
            have a3 := hst.out.ans 3 (by omega)
            have z3 := hst.out.ansf 3 (by omega)
            have a4 := hst.out.ans 4 (by omega)
            have z4 := hst.out.ansf 4 (by omega)
            have a5 := hst.out.ans 5 (by omega)
            have z5 := hst.out.ansf 5 (by omega)
            have a6 := hst.out.ans 6 (by omega)
            have z6 := hst.out.ansf 6 (by omega)
            go_wp2_with fail
            refine bodyPost_ret (v := .tuple #[.agg #[.int .i64 0, .int .i64 0, .int .i64 0, .int .i64 0, .int .i64 0, .int .i64 0, .int .i64 0], .int .i64 3]) (by simp [results, Tryd.results20, go_sem, a0, a1, a2, a3, a4, a5, a6]) rfl ?_
            exact parse_done (zero, 3) hfin rfl (by repeat (first | refine bset ?_ (by simp) _ | exact hst.out.bel))
          · have hfin : Hid (run l 0 0 0 zero = run (l.drop (j + 1)) p (dg + 1) f (upd k p (mn (10 * k p + ((b.toNat : Int) - 48)) 1441))) := by
              show _ = _; rw [HN.out, run_digit (by omega), if_neg (by omega)]
            have e48 : ((f.toNat : Int) == 48) = false := beq_eq_false_iff_ne.2 (by omega)
            have z0 : ((dg : Int) == 0) = false := beq_eq_false_iff_ne.2 (by omega)
            clear HN d32 lo hi f48
            have hcp := hst.out.wk p (by omega)
            have hfp := hst.out.wkf p (by omega)
            by_cases m : 1441 < 10 * k p + ((b.toNat : Int) - 48)
            · have hm : Hid (mn (10 * k p + ((b.toNat : Int) - 48)) 1441 = 1441) := by show _ = _; unfold mn; rw [if_pos m]
              go_wp2_with fail
              go_roundw
              case rel => exact ⟨j + 1, p, dg + 1, f, _, by omega, by omega, by go_num, rfl, by omega, by go_num, rfl, hst.out.put p (by omega) 1441 (by omega), by rw [hm.out] at hfin; exact hfin⟩
              case measure => simp [intOf]; omega
            · have hm : Hid (mn (10 * k p + ((b.toNat : Int) - 48)) 1441 = 10 * k p + ((b.toNat : Int) - 48)) := by show _ = _; unfold mn; rw [if_neg m]
              go_wp2_with fail
              go_roundw
              case rel => exact ⟨j + 1, p, dg + 1, f, _, by omega, by omega, by go_num, rfl, by omega, by go_num, rfl, hst.out.put p (by omega) (10 * k p + ((b.toNat : Int) - 48)) (by omega), by rw [hm.out] at hfin; exact hfin⟩
              case measure => simp [intOf]; omega
        · have hd0 : dg = 0 := by omega
          subst hd0
          have hfin : Hid (run l 0 0 0 zero = run (l.drop (j + 1)) p 1 b (upd k p (mn (10 * k p + ((b.toNat : Int) - 48)) 1441))) := by
            show _ = _; rw [HN.out, run_digit (by omega), if_pos rfl]
          clear HN d32 lo hi g0
          have hcp := hst.out.wk p (by omega)
          have hfp := hst.out.wkf p (by omega)
          by_cases m : 1441 < 10 * k p + ((b.toNat : Int) - 48)
          · have hm : Hid (mn (10 * k p + ((b.toNat : Int) - 48)) 1441 = 1441) := by show _ = _; unfold mn; rw [if_pos m]
            go_wp2_with fail
            go_roundw
            case rel => exact ⟨j + 1, p, 1, b, _, by omega, by omega, by go_num, rfl, by omega, by go_num, rfl, hst.out.put p (by omega) 1441 (by omega), by rw [hm.out] at hfin; exact hfin⟩
            case measure => simp [intOf]; omega
          · have hm : Hid (mn (10 * k p + ((b.toNat : Int) - 48)) 1441 = 10 * k p + ((b.toNat : Int) - 48)) := by show _ = _; unfold mn; rw [if_neg m]
            go_wp2_with fail
            go_roundw
            case rel => exact ⟨j + 1, p, 1, b, _, by omega, by omega, by go_num, rfl, by omega, by go_num, rfl, hst.out.put p (by omega) (10 * k p + ((b.toNat : Int) - 48)) (by omega), by rw [hm.out] at hfin; exact hfin⟩
            case measure => simp [intOf]; omega
    · obtain rfl : j = s.size := by omega
      have hnil := hrn.out
      rw [List.drop_of_length_le (by rw [hlen'.out]; exact Nat.le_refl _), run_nil] at hnil
      have HN := Lib.hid hnil
      clear hnil hrn
      have hsz := hst.out.size
      by_cases p6 : p = 6
      · subst p6
        by_cases g0 : 0 < dg
        · have hsome : Hid (run l 0 0 0 zero = some k) := by show _ = _; rw [HN.out, if_pos ⟨rfl, g0⟩]
          have z0 : ((dg : Int) == 0) = false := beq_eq_false_iff_ne.2 (by omega)
          clear HN
          have a0 := hst.out.ans 0 (by omega)
          have z0 := hst.out.ansf 0 (by omega)
          have a1 := hst.out.ans 1 (by omega)
          have z1 := hst.out.ansf 1 (by omega)
          have a2 := hst.out.ans 2 (by omega)
          have z2 := hst.out.ansf 2 (by omega)
          have a3 := hst.out.ans 3 (by omega)
          have z3 := hst.out.ansf 3 (by omega)
          have a4 := hst.out.ans 4 (by omega)
          have z4 := hst.out.ansf 4 (by omega)
          have a5 := hst.out.ans 5 (by omega)
          have z5 := hst.out.ansf 5 (by omega)
          have a6 := hst.out.ans 6 (by omega)
          have z6 := hst.out.ansf 6 (by omega)
          have k0 := hst.out.wk 0 (by omega)
          have k1 := hst.out.wk 1 (by omega)
          have k2 := hst.out.wk 2 (by omega)
          have k3 := hst.out.wk 3 (by omega)
          have k4 := hst.out.wk 4 (by omega)
          have k5 := hst.out.wk 5 (by omega)
          have k6 := hst.out.wk 6 (by omega)
          by_cases o : ok k
          · have hfin : Hid (fin (run l 0 0 0 zero) = (k, 0)) := by show _ = _; rw [hsome.out, fin_some, if_pos o]
            go_wp2_with fail
            refine (right_ok k _ o).mono ?_
            rintro e w1 ⟨rfl, hb1⟩
            obtain ⟨hc1, hf1⟩ := bcell hb1
            have hsz0 : w.heap.size < wr.heap.size := by omega
            have hsz1 : w.heap.size + 1 < wr.heap.size := by omega
            go_wp2_with fail
            refine bodyPost_ret (v := .tuple #[.agg #[.int .i64 (k 0), .int .i64 (k 1), .int .i64 (k 2), .int .i64 (k 3), .int .i64 (k 4), .int .i64 (k 5), .int .i64 (k 6)], .int .i64 0]) (by simp [results, Tryd.results20, go_sem, hc1, a0, a1, a2, a3, a4, a5, a6, hsz0]) rfl ?_
            exact parse_done (k, 0) hfin rfl (by repeat (first | refine bset ?_ (by simp) _ | exact bstep hst.out.bel hb1))
          · have hfin : Hid (fin (run l 0 0 0 zero) = (zero, 2)) := by show _ = _; rw [hsome.out, fin_some, if_neg o]
            go_wp2_with fail
            refine (right_not k _ o).mono ?_
            rintro e w1 ⟨rfl, hb1⟩
            obtain ⟨hc1, hf1⟩ := bcell hb1
            have hsz0 : w.heap.size < wr.heap.size := by omega
            have hsz1 : w.heap.size + 1 < wr.heap.size := by omega
            go_wp2_with fail
            refine bodyPost_ret (v := .tuple #[.agg #[.int .i64 0, .int .i64 0, .int .i64 0, .int .i64 0, .int .i64 0, .int .i64 0, .int .i64 0], .int .i64 2]) (by simp [results, Tryd.results20, go_sem, hc1, a0, a1, a2, a3, a4, a5, a6, hsz0]) rfl ?_
            exact parse_done (zero, 2) hfin rfl (by repeat (first | refine bset ?_ (by simp) _ | exact bstep hst.out.bel hb1))
        · have hd0 : dg = 0 := by omega
          subst hd0
          have hfin : Hid (fin (run l 0 0 0 zero) = (zero, 3)) := by show _ = _; rw [HN.out, if_neg (by omega)]; rfl
          clear HN
          have a0 := hst.out.ans 0 (by omega)
          have z0 := hst.out.ansf 0 (by omega)
          have a1 := hst.out.ans 1 (by omega)
          have z1 := hst.out.ansf 1 (by omega)
          have a2 := hst.out.ans 2 (by omega)
          have z2 := hst.out.ansf 2 (by omega)
          have a3 := hst.out.ans 3 (by omega)
          have z3 := hst.out.ansf 3 (by omega)
          have a4 := hst.out.ans 4 (by omega)
          have z4 := hst.out.ansf 4 (by omega)
          have a5 := hst.out.ans 5 (by omega)
          have z5 := hst.out.ansf 5 (by omega)
          have a6 := hst.out.ans 6 (by omega)
          have z6 := hst.out.ansf 6 (by omega)
          go_wp2_with fail
          refine bodyPost_ret (v := .tuple #[.agg #[.int .i64 0, .int .i64 0, .int .i64 0, .int .i64 0, .int .i64 0, .int .i64 0, .int .i64 0], .int .i64 3]) (by simp [results, Tryd.results20, go_sem, a0, a1, a2, a3, a4, a5, a6]) rfl ?_
          exact parse_done (zero, 3) hfin rfl (by repeat (first | refine bset ?_ (by simp) _ | exact hst.out.bel))
      · have hfin : Hid (fin (run l 0 0 0 zero) = (zero, 3)) := by show _ = _; rw [HN.out, if_neg (by omega)]; rfl
        have p6' : ((p : Int) != 6) = true := by simp; omega
        clear HN
        have a0 := hst.out.ans 0 (by omega)
        have z0 := hst.out.ansf 0 (by omega)
        have a1 := hst.out.ans 1 (by omega)
        have z1 := hst.out.ansf 1 (by omega)
        have a2 := hst.out.ans 2 (by omega)
        have z2 := hst.out.ansf 2 (by omega)
        have a3 := hst.out.ans 3 (by omega)
        have z3 := hst.out.ansf 3 (by omega)
        have a4 := hst.out.ans 4 (by omega)
        have z4 := hst.out.ansf 4 (by omega)
        have a5 := hst.out.ans 5 (by omega)
        have z5 := hst.out.ansf 5 (by omega)
        have a6 := hst.out.ans 6 (by omega)
        have z6 := hst.out.ansf 6 (by omega)
        go_wp2_with fail
        refine bodyPost_ret (v := .tuple #[.agg #[.int .i64 0, .int .i64 0, .int .i64 0, .int .i64 0, .int .i64 0, .int .i64 0, .int .i64 0], .int .i64 3]) (by simp [results, Tryd.results20, go_sem, a0, a1, a2, a3, a4, a5, a6]) rfl ?_
        exact parse_done (zero, 3) hfin rfl (by repeat (first | refine bset ?_ (by simp) _ | exact hst.out.bel))
end Go.Proofs.YtjpjeimpmfoldaaDoor.W
