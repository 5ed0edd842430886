/- The walk of the reference's Parse of a week. -/
import Derived.Test.YtjpjeimpmfoldaaDoorWkT
import Derived.RegionTactic
namespace Go.Proofs.YtjpjeimpmfoldaaDoor.W
open Go.RowKit Go.Proofs.YtjpjeimpmfoldaaDoor.M Go.Proofs.YtjpjeimpmfoldaaDoor.WL Go.Proofs.YtjpjeimpmfoldaaDoor.WP
set_option linter.unusedVariables false

structure RSt (w wr : World) (k : Nat → Int) : Prop where
  bel : Below w.heap.size w wr
  size : w.heap.size + 1 < wr.heap.size
  ans : ∀ i, i < 7 → wr.cell? ⟨w.heap.size, i, none⟩ = some (.int .i64 0)
  ansf : ∀ i, i < 7 → wr.frozen? ⟨w.heap.size, i, none⟩ = false
  wk : ∀ i, i < 7 → wr.cell? ⟨w.heap.size + 1, i, none⟩ = some (.int .i64 (k i))
  wkf : ∀ i, i < 7 → wr.frozen? ⟨w.heap.size + 1, i, none⟩ = false
  bd : ∀ i, 0 ≤ k i ∧ k i ≤ 100000
theorem RSt.drew {w wr : World} {k : Nat → Int} (h : RSt w wr k) : RSt w wr.drew k := ⟨h.bel.drew, h.size, h.ans, h.ansf, h.wk, h.wkf, h.bd⟩
theorem RSt.put {w wr : World} {k : Nat → Int} (h : RSt w wr k) (p : Nat) (hp : p < 7) (v : Int) (hv : 0 ≤ v ∧ v ≤ 100000) : RSt w (wr.setCell ⟨w.heap.size + 1, p, none⟩ (.int .i64 v)) (upd k p v) where
  bel := bset h.bel (by simp) _
  size := by simpa using h.size
  ans := fun i hi => by rw [World.cell?_setCell_other _ _ _ _ (by simp)]; exact h.ans i hi
  ansf := fun i hi => by simpa using h.ansf i hi
  wk := fun i hi => by
    by_cases c : i = p
    · subst c; rw [upd_same]; exact World.cell?_setCell_same _ _ _ (h.wk i hi)
    · rw [upd_other _ _ _ _ c, World.cell?_setCell_other _ _ _ _ (by simp; try omega)]; exact h.wk i hi
  wkf := fun i hi => by simpa using h.wkf i hi
  bd := fun i => by
    by_cases c : i = p
    · subst c; rw [upd_same]; exact hv
    · rw [upd_other _ _ _ _ c]; exact h.bd i
theorem rparse_done {l : List UInt8} {w : World} {e : Ending} {w' : World} (q : (Nat → Int) × Int) (hq : Hid (rrun l 0 0 0 false zero = q)) (he : e = .returned (.tuple #[.agg #[.int .i64 (q.1 0), .int .i64 (q.1 1), .int .i64 (q.1 2), .int .i64 (q.1 3), .int .i64 (q.1 4), .int .i64 (q.1 5), .int .i64 (q.1 6)], .int .i64 q.2])) (hb : Below w.heap.size w w') : ParseOut l w e w' :=
  parse_done q (by show _ = _; rw [← parse_ref]; exact hq.out) he hb
theorem getD_byte (s : ByteArray) (j : Nat) (h : j < s.size) : s.data.toList.getD j 0 = s[j] := by
  have hj : j < s.data.toList.length := by simpa using h
  rw [List.getD_eq_getElem?_getD, List.getElem?_eq_getElem hj]
  simp; rfl

theorem blank_f (r : List UInt8) (p : Nat) (f : UInt8) (big : Bool) (k : Nat → Int) : rrun r p 0 f big k = rrun r p 0 0 big k := by
  cases r with
  | nil => rw [rrun_nil, rrun_nil, if_pos (.inl rfl), if_pos (.inl rfl)]
  | cons b r =>
    by_cases c : b.toNat = 32
    · rw [rrun_end c (.inl rfl), rrun_end c (.inl rfl)]
    · by_cases e : b.toNat < 48 ∨ 57 < b.toNat ∨ 6 < p
      · rw [rrun_bad c e, rrun_bad c e]
      · rw [rrun_digit e, rrun_digit e, if_pos rfl, if_pos rfl]
/-- Behind the text's end. -/
def endR (p : Nat) (big : Bool) (k : Nat → Int) : (Nat → Int) × Int := if p ≠ 7 then (zero, 3) else if big = true then (zero, 2) else (k, 0)
theorem rrun_end_ok {p dg : Nat} {f : UInt8} {big : Bool} {k : Nat → Int} (h : ¬ (dg = 0 ∨ (f.toNat = 48 ∧ 1 < dg) ∨ 6 < p)) : rrun [] p dg f big k = endR (p + 1) (big || decide (1440 < k p)) k := by
  rw [rrun_nil, if_neg h]
  unfold endR
  by_cases c : p = 6
  · subst c
    have n1 : ¬ (6 ≠ 6) := by omega
    have n2 : ¬ (6 + 1 ≠ 7) := by omega
    rw [if_neg n1, if_neg n2]
    simp only [Bool.or_eq_true, decide_eq_true_eq]
  · have n1 : p ≠ 6 := c
    have n2 : p + 1 ≠ 7 := by omega
    rw [if_pos n1, if_pos n2]
theorem rrun_nil_bad {p dg : Nat} {f : UInt8} {big : Bool} {k : Nat → Int} (h : dg = 0 ∨ (f.toNat = 48 ∧ 1 < dg) ∨ 6 < p) : rrun [] p dg f big k = (zero, 3) := by rw [rrun_nil, if_pos h]

set_option maxRecDepth 100000 in
set_option maxHeartbeats 8000000 in
theorem rparse_any (s : ByteArray) (w : World) (hs : s.size ≤ 300) :
    Calls Tryd.prog 21 #[.string s] w (ParseOut s.data.toList w) := by
  have hlen : s.data.toList.length = s.size := by simp
  have hG := Lib.hid (fun j h => getD_byte s j h)
  have hst : RSt w ((w.alloc (.cells #[.int .i64 0, .int .i64 0, .int .i64 0, .int .i64 0, .int .i64 0, .int .i64 0, .int .i64 0] 22)).alloc (.cells #[.int .i64 0, .int .i64 0, .int .i64 0, .int .i64 0, .int .i64 0, .int .i64 0, .int .i64 0] 22)) zero := ⟨balloc (balloc (Below.refl w.heap.size w) _) _, by simp,
    fun i hi => by rcases (by omega : i = 0 ∨ i = 1 ∨ i = 2 ∨ i = 3 ∨ i = 4 ∨ i = 5 ∨ i = 6) with rfl | rfl | rfl | rfl | rfl | rfl | rfl <;> go_simp,
    fun i hi => by go_simp,
    fun i hi => by rcases (by omega : i = 0 ∨ i = 1 ∨ i = 2 ∨ i = 3 ∨ i = 4 ∨ i = 5 ∨ i = 6) with rfl | rfl | rfl | rfl | rfl | rfl | rfl <;> go_simp <;> rfl,
    fun i hi => by go_simp,
    fun i => by simp [zero]⟩
  have Hst := Lib.hid hst
  clear hst
  generalize hl : s.data.toList = l at *
  clear hl
  have hlen' := Lib.hid hlen; clear hlen
  go_enter Tryd.func21, Tryd.ntmps21
  go_wp2_with fail
  go_loopw [5, 6, 7, 8] (fun s5 s6 s7 s8 wr => ∃ (i p fr dg : Nat) (f : UInt8) (big : Bool) (k : Nat → Int), i ≤ s.size + 1 ∧ fr ≤ i ∧ s8 = .int .i64 i ∧ s5 = .int .i64 p ∧ p ≤ 8 ∧ s6 = .int .i64 fr ∧ s7 = .bool big ∧ Hid (RSt w wr k) ∧ Hid (fr + dg = i ∧ (0 < dg → l.getD fr 0 = f) ∧ ((i ≤ s.size ∧ rrun l 0 0 0 false zero = rrun (l.drop i) p dg f big k) ∨ (i = s.size + 1 ∧ rrun l 0 0 0 false zero = endR p big k)))) (fun _ _ _ i _ => s.size + 2 - (intOf i).toNat)
  case atStart => exact ⟨0, 0, 0, 0, 0, false, zero, by omega, by omega, rfl, rfl, by omega, rfl, rfl, Hst, ⟨rfl, fun h => absurd h (by omega), .inl ⟨by omega, rfl⟩⟩⟩
  case round =>
    obtain ⟨i, p, fr, dg, f, big, k, hi, hfi, rfl, rfl, hp, rfl, rfl, hst, hrel2⟩ := hrel
    obtain ⟨hfd, hff, hrr⟩ := hrel2.out
    clear hrel2
    have hfd' := Lib.hid hfd
    have hff' := Lib.hid hff
    clear hff
    have hsz := hst.out.size
    rcases hrr with ⟨hle, hrn⟩ | ⟨hend, hrn⟩
    · have HN := Lib.hid hrn
      clear hrn
      have hbk := hst.out.bd p
      by_cases c : i < s.size
      · have hn := HN.out
        rw [drop_cons8' l i (by rw [hlen'.out]; exact c)] at hn
        have HN := Lib.hid hn
        clear hn
        have hgi := hG.out i c
        generalize hb : l.getD i 0 = b at *
        have hsi : s[i] = b := hgi.symm
        have HB := Lib.hid hb
        clear hb hgi
        have hb256 : (b.toNat : Int) < 256 := by have := b.toNat_lt; omega
        by_cases d32 : b.toNat = 32
        · have e32 : ((b.toNat : Int) != 32) = false := by rw [d32]; rfl
          have hbad : Hid ((dg = 0 ∨ (f.toNat = 48 ∧ 1 < dg) ∨ 6 < p) → rrun l 0 0 0 false zero = (zero, 3)) := fun h => HN.out.trans (rrun_end d32 h)
          have hok : Hid (¬ (dg = 0 ∨ (f.toNat = 48 ∧ 1 < dg) ∨ 6 < p) → i + 1 + 0 = i + 1 ∧ (0 < 0 → l.getD (i + 1) 0 = 0) ∧ ((i + 1 ≤ s.size ∧ rrun l 0 0 0 false zero = rrun (l.drop (i + 1)) (p + 1) 0 0 (big || decide (1440 < k p)) k) ∨ (i + 1 = s.size + 1 ∧ rrun l 0 0 0 false zero = endR (p + 1) (big || decide (1440 < k p)) k))) := fun h => ⟨rfl, fun h => absurd h (by omega), .inl ⟨by omega, HN.out.trans ((rrun_blank d32 h).trans (blank_f _ _ _ _ _))⟩⟩
          clear HN d32
          by_cases g0 : dg = 0
          · have eif : ((i : Int) == (fr : Int)) = true := beq_iff_eq.2 (by omega)
            have hfin := Lib.hid (hbad.out (by omega))
            clear hok hbad
            have a0 := hst.out.ans 0 (by omega)
            have z0 := hst.out.ansf 0 (by omega)
            have a1 := hst.out.ans 1 (by omega)
            have z1 := hst.out.ansf 1 (by omega)
            have a2 := hst.out.ans 2 (by omega)
            have z2 := hst.out.ansf 2 (by omega)
            have a3 := hst.out.ans 3 (by omega)
            have z3 := hst.out.ansf 3 (by omega)
            have a4 := hst.out.ans 4 (by omega)
            have z4 := hst.out.ansf 4 (by omega)
            have a5 := hst.out.ans 5 (by omega)
            have z5 := hst.out.ansf 5 (by omega)
            have a6 := hst.out.ans 6 (by omega)
            have z6 := hst.out.ansf 6 (by omega)
            go_wp2_with fail
            refine bodyPost_ret (v := .tuple #[.agg #[.int .i64 0, .int .i64 0, .int .i64 0, .int .i64 0, .int .i64 0, .int .i64 0, .int .i64 0], .int .i64 3]) (by simp [results, Tryd.results21, go_sem, a0, a1, a2, a3, a4, a5, a6]) rfl ?_
            exact rparse_done (zero, 3) hfin rfl (by repeat (first | refine bset ?_ (by simp) _ | exact hst.out.bel))
          have eif : ((i : Int) == (fr : Int)) = false := beq_eq_false_iff_ne.2 (by omega)
          have hfl : fr < s.size := by omega
          have hsf : s[fr] = f := (hG.out fr hfl).symm.trans (hff'.out (by omega))
          by_cases f48 : f.toNat = 48
          · have e48 : ((f.toNat : Int) == 48) = true := beq_iff_eq.2 (by omega)
            by_cases g1 : 1 < dg
            · have eg : (fr : Int) + 1 < (i : Int) := by omega
              have hfin := Lib.hid (hbad.out (by omega))
              clear hok hbad
              have a0 := hst.out.ans 0 (by omega)
              have z0 := hst.out.ansf 0 (by omega)
              have a1 := hst.out.ans 1 (by omega)
              have z1 := hst.out.ansf 1 (by omega)
              have a2 := hst.out.ans 2 (by omega)
              have z2 := hst.out.ansf 2 (by omega)
              have a3 := hst.out.ans 3 (by omega)
              have z3 := hst.out.ansf 3 (by omega)
              have a4 := hst.out.ans 4 (by omega)
              have z4 := hst.out.ansf 4 (by omega)
              have a5 := hst.out.ans 5 (by omega)
              have z5 := hst.out.ansf 5 (by omega)
              have a6 := hst.out.ans 6 (by omega)
              have z6 := hst.out.ansf 6 (by omega)
              go_wp2_with fail
              refine bodyPost_ret (v := .tuple #[.agg #[.int .i64 0, .int .i64 0, .int .i64 0, .int .i64 0, .int .i64 0, .int .i64 0, .int .i64 0], .int .i64 3]) (by simp [results, Tryd.results21, go_sem, a0, a1, a2, a3, a4, a5, a6]) rfl ?_
              exact rparse_done (zero, 3) hfin rfl (by repeat (first | refine bset ?_ (by simp) _ | exact hst.out.bel))
            have eg : ¬ ((fr : Int) + 1 < (i : Int)) := by omega
            by_cases p6 : 6 < p
            · have p6' : (6 : Int) < (p : Int) := by omega
              have hfin := Lib.hid (hbad.out (by omega))
              clear hok hbad
              have a0 := hst.out.ans 0 (by omega)
              have z0 := hst.out.ansf 0 (by omega)
              have a1 := hst.out.ans 1 (by omega)
              have z1 := hst.out.ansf 1 (by omega)
              have a2 := hst.out.ans 2 (by omega)
              have z2 := hst.out.ansf 2 (by omega)
              have a3 := hst.out.ans 3 (by omega)
              have z3 := hst.out.ansf 3 (by omega)
              have a4 := hst.out.ans 4 (by omega)
              have z4 := hst.out.ansf 4 (by omega)
              have a5 := hst.out.ans 5 (by omega)
              have z5 := hst.out.ansf 5 (by omega)
              have a6 := hst.out.ans 6 (by omega)
              have z6 := hst.out.ansf 6 (by omega)
              go_wp2_with fail
              refine bodyPost_ret (v := .tuple #[.agg #[.int .i64 0, .int .i64 0, .int .i64 0, .int .i64 0, .int .i64 0, .int .i64 0, .int .i64 0], .int .i64 3]) (by simp [results, Tryd.results21, go_sem, a0, a1, a2, a3, a4, a5, a6]) rfl ?_
              exact rparse_done (zero, 3) hfin rfl (by repeat (first | refine bset ?_ (by simp) _ | exact hst.out.bel))
            have p6' : ¬ ((6 : Int) < (p : Int)) := by omega
            have hgo := Lib.hid (hok.out (by omega))
            have hcp := hst.out.wk p (by omega)
            clear hok hbad
            cases big
            · go_wp2_with fail
              go_roundw
              case rel => exact ⟨i + 1, p + 1, i + 1, 0, 0, _, k, by omega, by omega, by go_num, by go_num, by omega, by go_num, rfl, hst, Lib.hid (by simpa using hgo.out)⟩
              case measure => simp [intOf]; omega
            · go_wp2_with fail
              go_roundw
              case rel => exact ⟨i + 1, p + 1, i + 1, 0, 0, _, k, by omega, by omega, by go_num, by go_num, by omega, by go_num, rfl, hst, Lib.hid (by simpa using hgo.out)⟩
              case measure => simp [intOf]; omega
          · have e48 : ((f.toNat : Int) == 48) = false := beq_eq_false_iff_ne.2 (by omega)
            by_cases p6 : 6 < p
            · have p6' : (6 : Int) < (p : Int) := by omega
              have hfin := Lib.hid (hbad.out (by omega))
              clear hok hbad
              have a0 := hst.out.ans 0 (by omega)
              have z0 := hst.out.ansf 0 (by omega)
              have a1 := hst.out.ans 1 (by omega)
              have z1 := hst.out.ansf 1 (by omega)
              have a2 := hst.out.ans 2 (by omega)
              have z2 := hst.out.ansf 2 (by omega)
              have a3 := hst.out.ans 3 (by omega)
              have z3 := hst.out.ansf 3 (by omega)
              have a4 := hst.out.ans 4 (by omega)
              have z4 := hst.out.ansf 4 (by omega)
              have a5 := hst.out.ans 5 (by omega)
              have z5 := hst.out.ansf 5 (by omega)
              have a6 := hst.out.ans 6 (by omega)
              have z6 := hst.out.ansf 6 (by omega)
              go_wp2_with fail
              refine bodyPost_ret (v := .tuple #[.agg #[.int .i64 0, .int .i64 0, .int .i64 0, .int .i64 0, .int .i64 0, .int .i64 0, .int .i64 0], .int .i64 3]) (by simp [results, Tryd.results21, go_sem, a0, a1, a2, a3, a4, a5, a6]) rfl ?_
              exact rparse_done (zero, 3) hfin rfl (by repeat (first | refine bset ?_ (by simp) _ | exact hst.out.bel))
            have p6' : ¬ ((6 : Int) < (p : Int)) := by omega
            have hgo := Lib.hid (hok.out (by omega))
            have hcp := hst.out.wk p (by omega)
            clear hok hbad
            cases big
            · go_wp2_with fail
              go_roundw
              case rel => exact ⟨i + 1, p + 1, i + 1, 0, 0, _, k, by omega, by omega, by go_num, by go_num, by omega, by go_num, rfl, hst, Lib.hid (by simpa using hgo.out)⟩
              case measure => simp [intOf]; omega
            · go_wp2_with fail
              go_roundw
              case rel => exact ⟨i + 1, p + 1, i + 1, 0, 0, _, k, by omega, by omega, by go_num, by go_num, by omega, by go_num, rfl, hst, Lib.hid (by simpa using hgo.out)⟩
              case measure => simp [intOf]; omega
        · have e32 : ((b.toNat : Int) != 32) = true := by rw [bne_iff_ne]; omega
          by_cases lo : b.toNat < 48
          · have hfin : Hid (rrun l 0 0 0 false zero = (zero, 3)) := HN.out.trans (rrun_bad d32 (.inl lo))
            have lo' : (b.toNat : Int) < 48 := by omega
            clear HN d32 lo
            have a0 := hst.out.ans 0 (by omega)
            have z0 := hst.out.ansf 0 (by omega)
            have a1 := hst.out.ans 1 (by omega)
            have z1 := hst.out.ansf 1 (by omega)
            have a2 := hst.out.ans 2 (by omega)
            have z2 := hst.out.ansf 2 (by omega)
            have a3 := hst.out.ans 3 (by omega)
            have z3 := hst.out.ansf 3 (by omega)
            have a4 := hst.out.ans 4 (by omega)
            have z4 := hst.out.ansf 4 (by omega)
            have a5 := hst.out.ans 5 (by omega)
            have z5 := hst.out.ansf 5 (by omega)
            have a6 := hst.out.ans 6 (by omega)
            have z6 := hst.out.ansf 6 (by omega)
            go_wp2_with fail
            refine bodyPost_ret (v := .tuple #[.agg #[.int .i64 0, .int .i64 0, .int .i64 0, .int .i64 0, .int .i64 0, .int .i64 0, .int .i64 0], .int .i64 3]) (by simp [results, Tryd.results21, go_sem, a0, a1, a2, a3, a4, a5, a6]) rfl ?_
            exact rparse_done (zero, 3) hfin rfl (by repeat (first | refine bset ?_ (by simp) _ | exact hst.out.bel))
          by_cases hi7 : 57 < b.toNat
          · have hfin : Hid (rrun l 0 0 0 false zero = (zero, 3)) := HN.out.trans (rrun_bad d32 (.inr (.inl hi7)))
            have lo' : ¬ (b.toNat : Int) < 48 := by omega
            have hi' : 57 < (b.toNat : Int) := by omega
            clear HN d32 lo hi7
            have a0 := hst.out.ans 0 (by omega)
            have z0 := hst.out.ansf 0 (by omega)
            have a1 := hst.out.ans 1 (by omega)
            have z1 := hst.out.ansf 1 (by omega)
            have a2 := hst.out.ans 2 (by omega)
            have z2 := hst.out.ansf 2 (by omega)
            have a3 := hst.out.ans 3 (by omega)
            have z3 := hst.out.ansf 3 (by omega)
            have a4 := hst.out.ans 4 (by omega)
            have z4 := hst.out.ansf 4 (by omega)
            have a5 := hst.out.ans 5 (by omega)
            have z5 := hst.out.ansf 5 (by omega)
            have a6 := hst.out.ans 6 (by omega)
            have z6 := hst.out.ansf 6 (by omega)
            go_wp2_with fail
            refine bodyPost_ret (v := .tuple #[.agg #[.int .i64 0, .int .i64 0, .int .i64 0, .int .i64 0, .int .i64 0, .int .i64 0, .int .i64 0], .int .i64 3]) (by simp [results, Tryd.results21, go_sem, a0, a1, a2, a3, a4, a5, a6]) rfl ?_
            exact rparse_done (zero, 3) hfin rfl (by repeat (first | refine bset ?_ (by simp) _ | exact hst.out.bel))
          have lo' : 48 ≤ (b.toNat : Int) := by omega
          have hi' : (b.toNat : Int) ≤ 57 := by omega
          by_cases p6 : 6 < p
          · have hfin : Hid (rrun l 0 0 0 false zero = (zero, 3)) := HN.out.trans (rrun_bad d32 (.inr (.inr p6)))
            clear HN d32 lo hi7
            have a0 := hst.out.ans 0 (by omega)
            have z0 := hst.out.ansf 0 (by omega)
            have a1 := hst.out.ans 1 (by omega)
            have z1 := hst.out.ansf 1 (by omega)
            have a2 := hst.out.ans 2 (by omega)
            have z2 := hst.out.ansf 2 (by omega)
            have a3 := hst.out.ans 3 (by omega)
            have z3 := hst.out.ansf 3 (by omega)
            have a4 := hst.out.ans 4 (by omega)
            have z4 := hst.out.ansf 4 (by omega)
            have a5 := hst.out.ans 5 (by omega)
            have z5 := hst.out.ansf 5 (by omega)
            have a6 := hst.out.ans 6 (by omega)
            have z6 := hst.out.ansf 6 (by omega)
            go_wp2_with fail
            refine bodyPost_ret (v := .tuple #[.agg #[.int .i64 0, .int .i64 0, .int .i64 0, .int .i64 0, .int .i64 0, .int .i64 0, .int .i64 0], .int .i64 3]) (by simp [results, Tryd.results21, go_sem, a0, a1, a2, a3, a4, a5, a6]) rfl ?_
            exact rparse_done (zero, 3) hfin rfl (by repeat (first | refine bset ?_ (by simp) _ | exact hst.out.bel))
          have hdig : Hid (rrun l 0 0 0 false zero = rrun (l.drop (i + 1)) p (dg + 1) (if dg = 0 then b else f) big (upd k p (mn (10 * k p + ((b.toNat : Int) - 48)) 100000))) := HN.out.trans (rrun_digit (by omega))
          have hfirst : Hid (0 < dg + 1 → l.getD fr 0 = if dg = 0 then b else f) := fun _ => by
            by_cases z : dg = 0
            · rw [if_pos z, ← HB.out]; congr 1; have := hfd'.out; omega
            · rw [if_neg z]; exact hff'.out (by omega)
          have hcp := hst.out.wk p (by omega)
          have hfp := hst.out.wkf p (by omega)
          have x0 : (0 : Int) ≤ (p : Int) := by omega
          have x1 : (p : Int) < 7 := by omega
          have x2 : (0 : Int) ≤ (i : Int) := by omega
          have x3 : (i : Int) < (s.size : Int) := by omega
          have y0 : IntKind.i64.wrap (10 * k p) = 10 * k p := IntWalk.i64_in _ (by omega)
          have y1 : IntKind.i64.wrap (10 * k p + ((b.toNat : Int) - 48)) = 10 * k p + ((b.toNat : Int) - 48) := IntWalk.i64_in _ (by omega)
          have y2 : IntKind.i64.wrap ((b.toNat : Int) - 48) = (b.toNat : Int) - 48 := IntWalk.i64_in _ (by omega)
          have y3 : IntKind.u8.wrap ((b.toNat : Int) - 48) = (b.toNat : Int) - 48 := by simp [IntKind.wrap, IntKind.signed, IntKind.bits]; omega
          clear HN d32 lo hi7
          by_cases m : 100000 < 10 * k p + ((b.toNat : Int) - 48)
          · have hm : Hid (mn (10 * k p + ((b.toNat : Int) - 48)) 100000 = 100000) := by show _ = _; unfold mn; rw [if_pos m]
            go_wp2_with fail
            go_region
            go_wp2_with fail
            go_roundw
            case rel => exact ⟨i + 1, p, fr, dg + 1, _, big, _, by omega, by omega, by go_num, rfl, by omega, rfl, rfl, (hst.out.put p (by omega) 100000 (by omega)).drew, ⟨by have := hfd'.out; omega, hfirst.out, .inl ⟨by omega, by rw [hm.out] at hdig; exact hdig.out⟩⟩⟩
            case measure => simp [intOf]; omega
          · have hm : Hid (mn (10 * k p + ((b.toNat : Int) - 48)) 100000 = 10 * k p + ((b.toNat : Int) - 48)) := by show _ = _; unfold mn; rw [if_neg m]
            go_wp2_with fail
            go_region
            go_wp2_with fail
            go_roundw
            case rel => exact ⟨i + 1, p, fr, dg + 1, _, big, _, by omega, by omega, by go_num, rfl, by omega, rfl, rfl, (hst.out.put p (by omega) (10 * k p + ((b.toNat : Int) - 48)) (by omega)).drew, ⟨by have := hfd'.out; omega, hfirst.out, .inl ⟨by omega, by rw [hm.out] at hdig; exact hdig.out⟩⟩⟩
            case measure => simp [intOf]; omega
      · have hii : i = s.size := by omega
        have hn := HN.out
        rw [List.drop_of_length_le (by rw [hlen'.out]; omega)] at hn
        have HN := Lib.hid hn
        clear hn
        have c1 : ¬ ((i : Int) < (s.size : Int)) := by omega
        have c2 : (i : Int) ≤ (s.size : Int) := by omega
        have hbad : Hid ((dg = 0 ∨ (f.toNat = 48 ∧ 1 < dg) ∨ 6 < p) → rrun l 0 0 0 false zero = (zero, 3)) := fun h => HN.out.trans (rrun_nil_bad h)
        have hok : Hid (¬ (dg = 0 ∨ (f.toNat = 48 ∧ 1 < dg) ∨ 6 < p) → i + 1 + 0 = i + 1 ∧ (0 < 0 → l.getD (i + 1) 0 = 0) ∧ ((i + 1 ≤ s.size ∧ rrun l 0 0 0 false zero = rrun (l.drop (i + 1)) (p + 1) 0 0 (big || decide (1440 < k p)) k) ∨ (i + 1 = s.size + 1 ∧ rrun l 0 0 0 false zero = endR (p + 1) (big || decide (1440 < k p)) k))) := fun h => ⟨rfl, fun h => absurd h (by omega), .inr ⟨by omega, HN.out.trans (rrun_end_ok h)⟩⟩
        have hii1 : s.size ≤ i := by omega
        clear HN hii
        by_cases g0 : dg = 0
        · have eif : ((i : Int) == (fr : Int)) = true := beq_iff_eq.2 (by omega)
          have hfin := Lib.hid (hbad.out (by omega))
          clear hok hbad
          have a0 := hst.out.ans 0 (by omega)
          have z0 := hst.out.ansf 0 (by omega)
          have a1 := hst.out.ans 1 (by omega)
          have z1 := hst.out.ansf 1 (by omega)
          have a2 := hst.out.ans 2 (by omega)
          have z2 := hst.out.ansf 2 (by omega)
          have a3 := hst.out.ans 3 (by omega)
          have z3 := hst.out.ansf 3 (by omega)
          have a4 := hst.out.ans 4 (by omega)
          have z4 := hst.out.ansf 4 (by omega)
          have a5 := hst.out.ans 5 (by omega)
          have z5 := hst.out.ansf 5 (by omega)
          have a6 := hst.out.ans 6 (by omega)
          have z6 := hst.out.ansf 6 (by omega)
          go_wp2_with fail
          refine bodyPost_ret (v := .tuple #[.agg #[.int .i64 0, .int .i64 0, .int .i64 0, .int .i64 0, .int .i64 0, .int .i64 0, .int .i64 0], .int .i64 3]) (by simp [results, Tryd.results21, go_sem, a0, a1, a2, a3, a4, a5, a6]) rfl ?_
          exact rparse_done (zero, 3) hfin rfl (by repeat (first | refine bset ?_ (by simp) _ | exact hst.out.bel))
        have eif : ((i : Int) == (fr : Int)) = false := beq_eq_false_iff_ne.2 (by omega)
        have hfl : fr < s.size := by omega
        have hsf : s[fr] = f := (hG.out fr hfl).symm.trans (hff'.out (by omega))
        by_cases f48 : f.toNat = 48
        · have e48 : ((f.toNat : Int) == 48) = true := beq_iff_eq.2 (by omega)
          by_cases g1 : 1 < dg
          · have eg : (fr : Int) + 1 < (i : Int) := by omega
            have hfin := Lib.hid (hbad.out (by omega))
            clear hok hbad
            have a0 := hst.out.ans 0 (by omega)
            have z0 := hst.out.ansf 0 (by omega)
            have a1 := hst.out.ans 1 (by omega)
            have z1 := hst.out.ansf 1 (by omega)
            have a2 := hst.out.ans 2 (by omega)
            have z2 := hst.out.ansf 2 (by omega)
            have a3 := hst.out.ans 3 (by omega)
            have z3 := hst.out.ansf 3 (by omega)
            have a4 := hst.out.ans 4 (by omega)
            have z4 := hst.out.ansf 4 (by omega)
            have a5 := hst.out.ans 5 (by omega)
            have z5 := hst.out.ansf 5 (by omega)
            have a6 := hst.out.ans 6 (by omega)
            have z6 := hst.out.ansf 6 (by omega)
            go_wp2_with fail
            refine bodyPost_ret (v := .tuple #[.agg #[.int .i64 0, .int .i64 0, .int .i64 0, .int .i64 0, .int .i64 0, .int .i64 0, .int .i64 0], .int .i64 3]) (by simp [results, Tryd.results21, go_sem, a0, a1, a2, a3, a4, a5, a6]) rfl ?_
            exact rparse_done (zero, 3) hfin rfl (by repeat (first | refine bset ?_ (by simp) _ | exact hst.out.bel))
          have eg : ¬ ((fr : Int) + 1 < (i : Int)) := by omega
          by_cases p6 : 6 < p
          · have p6' : (6 : Int) < (p : Int) := by omega
            have hfin := Lib.hid (hbad.out (by omega))
            clear hok hbad
            have a0 := hst.out.ans 0 (by omega)
            have z0 := hst.out.ansf 0 (by omega)
            have a1 := hst.out.ans 1 (by omega)
            have z1 := hst.out.ansf 1 (by omega)
            have a2 := hst.out.ans 2 (by omega)
            have z2 := hst.out.ansf 2 (by omega)
            have a3 := hst.out.ans 3 (by omega)
            have z3 := hst.out.ansf 3 (by omega)
            have a4 := hst.out.ans 4 (by omega)
            have z4 := hst.out.ansf 4 (by omega)
            have a5 := hst.out.ans 5 (by omega)
            have z5 := hst.out.ansf 5 (by omega)
            have a6 := hst.out.ans 6 (by omega)
            have z6 := hst.out.ansf 6 (by omega)
            go_wp2_with fail
            refine bodyPost_ret (v := .tuple #[.agg #[.int .i64 0, .int .i64 0, .int .i64 0, .int .i64 0, .int .i64 0, .int .i64 0, .int .i64 0], .int .i64 3]) (by simp [results, Tryd.results21, go_sem, a0, a1, a2, a3, a4, a5, a6]) rfl ?_
            exact rparse_done (zero, 3) hfin rfl (by repeat (first | refine bset ?_ (by simp) _ | exact hst.out.bel))
          have p6' : ¬ ((6 : Int) < (p : Int)) := by omega
          have hgo := Lib.hid (hok.out (by omega))
          have hcp := hst.out.wk p (by omega)
          clear hok hbad
          cases big
          · go_wp2_with fail
            go_roundw
            case rel => exact ⟨i + 1, p + 1, i + 1, 0, 0, _, k, by omega, by omega, by go_num, by go_num, by omega, by go_num, rfl, hst, Lib.hid (by simpa using hgo.out)⟩
            case measure => simp [intOf]; omega
          · go_wp2_with fail
            go_roundw
            case rel => exact ⟨i + 1, p + 1, i + 1, 0, 0, _, k, by omega, by omega, by go_num, by go_num, by omega, by go_num, rfl, hst, Lib.hid (by simpa using hgo.out)⟩
            case measure => simp [intOf]; omega
        · have e48 : ((f.toNat : Int) == 48) = false := beq_eq_false_iff_ne.2 (by omega)
          by_cases p6 : 6 < p
          · have p6' : (6 : Int) < (p : Int) := by omega
            have hfin := Lib.hid (hbad.out (by omega))
            clear hok hbad
            have a0 := hst.out.ans 0 (by omega)
            have z0 := hst.out.ansf 0 (by omega)
            have a1 := hst.out.ans 1 (by omega)
            have z1 := hst.out.ansf 1 (by omega)
            have a2 := hst.out.ans 2 (by omega)
            have z2 := hst.out.ansf 2 (by omega)
            have a3 := hst.out.ans 3 (by omega)
            have z3 := hst.out.ansf 3 (by omega)
            have a4 := hst.out.ans 4 (by omega)
            have z4 := hst.out.ansf 4 (by omega)
            have a5 := hst.out.ans 5 (by omega)
            have z5 := hst.out.ansf 5 (by omega)
            have a6 := hst.out.ans 6 (by omega)
            have z6 := hst.out.ansf 6 (by omega)
            go_wp2_with fail
            refine bodyPost_ret (v := .tuple #[.agg #[.int .i64 0, .int .i64 0, .int .i64 0, .int .i64 0, .int .i64 0, .int .i64 0, .int .i64 0], .int .i64 3]) (by simp [results, Tryd.results21, go_sem, a0, a1, a2, a3, a4, a5, a6]) rfl ?_
            exact rparse_done (zero, 3) hfin rfl (by repeat (first | refine bset ?_ (by simp) _ | exact hst.out.bel))
          have p6' : ¬ ((6 : Int) < (p : Int)) := by omega
          have hgo := Lib.hid (hok.out (by omega))
          have hcp := hst.out.wk p (by omega)
          clear hok hbad
          cases big
          · go_wp2_with fail
            go_roundw
            case rel => exact ⟨i + 1, p + 1, i + 1, 0, 0, _, k, by omega, by omega, by go_num, by go_num, by omega, by go_num, rfl, hst, Lib.hid (by simpa using hgo.out)⟩
            case measure => simp [intOf]; omega
          · go_wp2_with fail
            go_roundw
            case rel => exact ⟨i + 1, p + 1, i + 1, 0, 0, _, k, by omega, by omega, by go_num, by go_num, by omega, by go_num, rfl, hst, Lib.hid (by simpa using hgo.out)⟩
            case measure => simp [intOf]; omega
    · have HN := Lib.hid hrn
      clear hrn hfd
      subst hend
      have c2 : ¬ (((s.size + 1 : Nat) : Int) ≤ (s.size : Int)) := by omega
      by_cases p7 : p = 7
      · subst p7
        cases big
        · have hfin : Hid (rrun l 0 0 0 false zero = (k, 0)) := HN.out
          clear HN
          have a0 := hst.out.ans 0 (by omega)
          have z0 := hst.out.ansf 0 (by omega)
          have a1 := hst.out.ans 1 (by omega)
          have z1 := hst.out.ansf 1 (by omega)
          have a2 := hst.out.ans 2 (by omega)
          have z2 := hst.out.ansf 2 (by omega)
          have a3 := hst.out.ans 3 (by omega)
          have z3 := hst.out.ansf 3 (by omega)
          have a4 := hst.out.ans 4 (by omega)
          have z4 := hst.out.ansf 4 (by omega)
          have a5 := hst.out.ans 5 (by omega)
          have z5 := hst.out.ansf 5 (by omega)
          have a6 := hst.out.ans 6 (by omega)
          have z6 := hst.out.ansf 6 (by omega)
          have k0 := hst.out.wk 0 (by omega)
          have k1 := hst.out.wk 1 (by omega)
          have k2 := hst.out.wk 2 (by omega)
          have k3 := hst.out.wk 3 (by omega)
          have k4 := hst.out.wk 4 (by omega)
          have k5 := hst.out.wk 5 (by omega)
          have k6 := hst.out.wk 6 (by omega)
          go_wp2_with fail
          refine bodyPost_ret (v := .tuple #[.agg #[.int .i64 (k 0), .int .i64 (k 1), .int .i64 (k 2), .int .i64 (k 3), .int .i64 (k 4), .int .i64 (k 5), .int .i64 (k 6)], .int .i64 0]) (by simp [results, Tryd.results21, go_sem, a0, a1, a2, a3, a4, a5, a6]) rfl ?_
          exact rparse_done (k, 0) hfin rfl (by repeat (first | refine bset ?_ (by simp) _ | exact hst.out.bel))
        · have hfin : Hid (rrun l 0 0 0 false zero = (zero, 2)) := HN.out
          clear HN
          have a0 := hst.out.ans 0 (by omega)
          have z0 := hst.out.ansf 0 (by omega)
          have a1 := hst.out.ans 1 (by omega)
          have z1 := hst.out.ansf 1 (by omega)
          have a2 := hst.out.ans 2 (by omega)
          have z2 := hst.out.ansf 2 (by omega)
          have a3 := hst.out.ans 3 (by omega)
          have z3 := hst.out.ansf 3 (by omega)
          have a4 := hst.out.ans 4 (by omega)
          have z4 := hst.out.ansf 4 (by omega)
          have a5 := hst.out.ans 5 (by omega)
          have z5 := hst.out.ansf 5 (by omega)
          have a6 := hst.out.ans 6 (by omega)
          have z6 := hst.out.ansf 6 (by omega)
          have k0 := hst.out.wk 0 (by omega)
          have k1 := hst.out.wk 1 (by omega)
          have k2 := hst.out.wk 2 (by omega)
          have k3 := hst.out.wk 3 (by omega)
          have k4 := hst.out.wk 4 (by omega)
          have k5 := hst.out.wk 5 (by omega)
          have k6 := hst.out.wk 6 (by omega)
          go_wp2_with fail
          refine bodyPost_ret (v := .tuple #[.agg #[.int .i64 0, .int .i64 0, .int .i64 0, .int .i64 0, .int .i64 0, .int .i64 0, .int .i64 0], .int .i64 2]) (by simp [results, Tryd.results21, go_sem, a0, a1, a2, a3, a4, a5, a6]) rfl ?_
          exact rparse_done (zero, 2) hfin rfl (by repeat (first | refine bset ?_ (by simp) _ | exact hst.out.bel))
      · have hfin : Hid (rrun l 0 0 0 false zero = (zero, 3)) := by show _ = _; rw [HN.out]; unfold endR; rw [if_pos p7]
        have p7' : ((p : Int) != 7) = true := by rw [bne_iff_ne]; omega
        clear HN
        have a0 := hst.out.ans 0 (by omega)
        have z0 := hst.out.ansf 0 (by omega)
        have a1 := hst.out.ans 1 (by omega)
        have z1 := hst.out.ansf 1 (by omega)
        have a2 := hst.out.ans 2 (by omega)
        have z2 := hst.out.ansf 2 (by omega)
        have a3 := hst.out.ans 3 (by omega)
        have z3 := hst.out.ansf 3 (by omega)
        have a4 := hst.out.ans 4 (by omega)
        have z4 := hst.out.ansf 4 (by omega)
        have a5 := hst.out.ans 5 (by omega)
        have z5 := hst.out.ansf 5 (by omega)
        have a6 := hst.out.ans 6 (by omega)
        have z6 := hst.out.ansf 6 (by omega)
        go_wp2_with fail
        refine bodyPost_ret (v := .tuple #[.agg #[.int .i64 0, .int .i64 0, .int .i64 0, .int .i64 0, .int .i64 0, .int .i64 0, .int .i64 0], .int .i64 3]) (by simp [results, Tryd.results21, go_sem, a0, a1, a2, a3, a4, a5, a6]) rfl ?_
        exact rparse_done (zero, 3) hfin rfl (by repeat (first | refine bset ?_ (by simp) _ | exact hst.out.bel))
end Go.Proofs.YtjpjeimpmfoldaaDoor.W
