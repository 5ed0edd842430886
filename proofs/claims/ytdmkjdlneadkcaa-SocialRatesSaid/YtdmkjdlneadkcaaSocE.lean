/- The walk of SocialCeiling. -/
import Derived.Test.YtdmkjdlneadkcaaSocP
import Derived.Test.YtdmkjdlneadkcaaSocLC
namespace Go.Proofs.Ytdmkjdlneadkcaa.W
open Go.RowKit Go.Proofs.Ytdmkjdlneadkcaa.M Go.Proofs.Ytdmkjdlneadkcaa.B Go.Proofs.Ytdmkjdlneadkcaa.S
set_option linter.unusedVariables false

/-- A scheme that lies in memory. -/
structure SchAt (w : World) (g : Nat) (s : ByteArray) (a b c : Int) : Prop where
  lt : g < w.heap.size
  c0 : w.cell? ⟨g, 0, none⟩ = some (.string s)
  c1 : w.cell? ⟨g, 1, none⟩ = some (.int .i64 a)
  c2 : w.cell? ⟨g, 2, none⟩ = some (.int .i64 b)
  c3 : w.cell? ⟨g, 3, none⟩ = some (.int .i64 c)
theorem SchAt.next {B : Nat} {w w' : World} {g : Nat} {s : ByteArray} {a b c : Int} (h : SchAt w g s a b c) (hb : Below B w w') (hB : g < B) : SchAt w' g s a b c :=
  ⟨Nat.lt_of_lt_of_le h.lt hb.size, bc hb hB h.c0, bc hb hB h.c1, bc hb hB h.c2, bc hb hB h.c3⟩
theorem SchAt.step {w w' : World} {g : Nat} {s : ByteArray} {a b c : Int} (h : SchAt w g s a b c) (hb : Below w.heap.size w w') : SchAt w' g s a b c := h.next hb h.lt
theorem SchAt.new {w : World} {s : ByteArray} {a b c : Int} : SchAt (w.alloc (.cells #[.string s, .int .i64 a, .int .i64 b, .int .i64 c] 27)) w.heap.size s a b c := by
  refine ⟨by simp, ?_, ?_, ?_, ?_⟩ <;> go_simp

set_option maxRecDepth 100000 in
set_option maxHeartbeats 4000000 in
theorem socialCeiling (s : ByteArray) (ra fr ce : Int) (a : Option Addr) (n cap : Nat) (xs : List Int) (W : World) (hs : s.size ≤ 9223372036854775807) (h0 : I64 ra) (h1 : I64 fr) (h2 : I64 ce) (hx : Ints .i64 W a n cap xs) (hb : ∀ x ∈ xs, -9223372036854775808 ≤ x ∧ x ≤ 9223372036854775807) :
    Calls Try.prog 5 #[.agg #[.string s, .int .i64 ra, .int .i64 fr, .int .i64 ce], .slice a n cap] W fun e w' => e = .returned (.bool true) ∧ Below W.heap.size W w' := by
  have hl := hx.len
  have hgu : Try.prog.eqGuardType Try.prog.depth 24 = false := by kernel_rfl
  have hb0 : Below W.heap.size W (W.alloc (.cells #[.string s, .int .i64 ra, .int .i64 fr, .int .i64 ce] 27)) := balloc (Below.refl _ _) _
  have hsch : SchAt (W.alloc (.cells #[.string s, .int .i64 ra, .int .i64 fr, .int .i64 ce] 27)) W.heap.size s ra fr ce := SchAt.new
  have hm : n ≤ 9223372036854775807 := by have := hx.2.1; have := hx.2.2.1; unfold maxLen at this; omega
  by_cases bn : 60 < n
  · have bn' : (60 : Int) < (n : Int) := by omega
    go_enter Try.func5, Try.ntmps5
    go_wp2_with fail
    refine (awake_any _).mono ?_
    rintro e w1 ⟨rfl, hb1⟩
    obtain ⟨hc, hff⟩ := bcell hb1
    go_wp2_with fail
    go_ret
    exact ⟨rfl, bstep hb0 hb1⟩
  have bn' : ¬ (60 : Int) < (n : Int) := by omega
  by_cases big : 300 < s.size
  · have big' : (300 : Int) < (s.size : Int) := by omega
    go_enter Try.func5, Try.ntmps5
    go_wp2_with fail
    refine (awake_any _).mono ?_
    rintro e w1 ⟨rfl, hb1⟩
    obtain ⟨hc, hff⟩ := bcell hb1
    go_wp2_with fail
    go_ret
    exact ⟨rfl, bstep hb0 hb1⟩
  have big' : ¬ (300 : Int) < (s.size : Int) := by omega
  have hl' := Lib.hid hl
  have hxs := Lib.hid hx
  have bn2 := Lib.hid bn
  have big2 := Lib.hid big
  have hsz := Lib.hid hs
  clear hl bn big hs
  go_enter Try.func5, Try.ntmps5
  go_wp2_with fail
  refine (awake_any _).mono ?_
  rintro e w1 ⟨rfl, hb1⟩
  obtain ⟨hc, hff⟩ := bcell hb1
  go_upto_region 8 with fail
  clear hc hff
  have hsc1 := hsch.step hb1
  have hW1 := bstep hb0 hb1
  have hZ := SumAt.new (Below.refl (w1.alloc (.cells #[.int .i64 0, .int .i64 0, .int .i64 0, .int .i64 0] 24)).heap.size (w1.alloc (.cells #[.int .i64 0, .int .i64 0, .int .i64 0, .int .i64 0] 24)))
  have hZb : Below w1.heap.size w1 (w1.alloc (.cells #[.int .i64 0, .int .i64 0, .int .i64 0, .int .i64 0] 24)) := balloc (Below.refl _ _) _
  have hZf : ∀ o, (w1.alloc (.cells #[.int .i64 0, .int .i64 0, .int .i64 0, .int .i64 0] 24)).frozen? ⟨w1.heap.size, o, none⟩ = false := by intro o; simp
  clear hsch hb1 hb0
  generalize w1.alloc (.cells #[.int .i64 0, .int .i64 0, .int .i64 0, .int .i64 0] 24) = U at *
  go_loopw [6, 7, 8] (fun s6 s7 s8 wx => ∃ (k : Nat) (B I Wk F T : Int), k ≤ n ∧ s8 = .int .i64 k ∧ s6 = .int .i64 B ∧ s7 = .int .i64 T ∧ 0 ≤ T ∧ T ≤ 1125899906842624 ∧ Hid (rgt B I Wk F) ∧ Hid (I = want ce T) ∧ SumAt wx w1.heap.size B I Wk F ∧ Below w1.heap.size w1 wx ∧ ∀ o, wx.frozen? ⟨w1.heap.size, o, none⟩ = false)
    (fun _ _ i _ => n - (intOf i).toNat)
  case atStart => exact ⟨0, 0, 0, 0, 0, 0, Nat.zero_le _, rfl, rfl, rfl, by omega, by omega, Lib.hid (by decide), Lib.hid (by unfold want; split <;> (try split) <;> omega), hZ, hZb, hZf⟩
  case round =>
    obtain ⟨k, B, I, Wk, F, T, hk, rfl, rfl, rfl, T0, T1, hrg, hI, hS, hbel, hfz⟩ := hrel
    clear hZ hZb
    by_cases hlt : k < n
    · have hlt' : (k : Int) < (n : Int) := by omega
      have hI1 : Ints .i64 w1 a n cap xs := hxs.out.next hW1 (Nat.le_refl _)
      obtain ⟨b, off, rfl, hbl, hcell⟩ := hI1.at_ hlt
      have hcr := bc hbel hbl hcell
      have hd : I64 (xs.getD k 0) := by
        have h1 : k < xs.length := by rw [hl'.out]; exact hlt
        have h2 : xs.getD k 0 = xs[k] := by simp [List.getD_eq_getElem?_getD, h1]
        rw [h2]; exact hb _ (List.getElem_mem _)
      clear hcell hI1
      generalize xs.getD k 0 = x at *
      obtain ⟨q0, q1, q2, q3⟩ := i64_rgt hrg.out
      obtain ⟨q, hq⟩ : ∃ q, sstep B I Wk F s.data.toList ra fr ce x = q := ⟨_, rfl⟩
      obtain ⟨⟨B', I', W', F'⟩, e⟩ := q
      have hStep := Lib.hid (fun W => step_to B I Wk F s ra fr ce x W hsz.out q0 q1 q2 q3 h0 h1 h2 hd B' I' W' F' e hq)
      have hbb : b < wr.heap.size := Nat.lt_of_lt_of_le hbl hbel.size
      have hbs := hsc1.next hbel hsc1.lt
      have hHQ := Lib.hid hq
      clear hq q0 q1 q2 q3
      obtain ⟨t0, t1, t2, t3, t4⟩ := id hS
      obtain ⟨v0, v1, v2, v3, v4⟩ := id hbs
      have x0 : b < wr.heap.size + 1 := by omega
      have x1 : w1.heap.size < wr.heap.size + 1 := by omega
      have x2 : W.heap.size < wr.heap.size + 1 := by omega
      go_upto_region 10 with fail
      go_cut [9, 10] (fun s9 s10 wx => ∃ g : Nat, s9 = .pointer (some ⟨g, 0, none⟩) ∧ s10 = .int .i64 e ∧ wr.heap.size ≤ g ∧ SumAt wx g B' I' W' F' ∧ Below wr.heap.size wr wx)
      case first =>
        go_region_with (go_at_call 11; refine (hStep.out _).mono ?_; rintro e w4 ⟨rfl, hb4⟩; obtain ⟨hc4, hf4⟩ := bcell hb4; (first | (have hz4 : wr.heap.size < w4.heap.size := by (have hq := hb4.size; (try simp at hq); omega)) | skip))
        all_goals
          go_wp2_with fail
          go_meet
          first
            | (have hB4 : Below wr.heap.size wr w4 := below_drew' (w := wr) hb4
               have q4 := hB4.size
               exact ⟨_, rfl, rfl, q4, SumAt.new (Below.refl _ _), balloc hB4 _⟩)
            | (have hE := below_drew' (w := wr.alloc (.cells #[.int .i64 0, .int .i64 0, .int .i64 0, .int .i64 0] 24)) hb4
               have hB4 : Below wr.heap.size wr w4 := bstep (balloc (Below.refl _ _) _) hE
               exact ⟨_, rfl, rfl, Nat.le_refl _, sum_set (SumAt.new hE), bset (bset (bset (bset hB4 (Nat.le_refl _) _) (Nat.le_refl _) _) (Nat.le_refl _) _) (Nat.le_refl _) _⟩)
      case rest =>
        obtain ⟨g, rfl, rfl, hg, hS9, hBc⟩ := hcut
        have hbel2 : Below w1.heap.size w1 wc := hbel.trans (hBc.mono hbel.size)
        have hS5 := hS.step hBc
        have hfz5 : ∀ o, wc.frozen? ⟨w1.heap.size, o, none⟩ = false := fun o => ((bcell hBc).2 _ o hS.lt).trans (hfz o)
        clear hfz
        have hb5 := hbs.step hBc
        have hgG : w1.heap.size < g := Nat.lt_of_lt_of_le hS.lt hg
        have hcr5 := bc hBc hbb hcr
        have hcr5 := bc hBc hbb hcr
        clear t0 t1 t2 t3 t4 v0 v1 v2 v3 v4 x0 x1 x2 hcr hbb
        obtain ⟨t0, t1, t2, t3, t4⟩ := id hS5
        obtain ⟨v0, v1, v2, v3, v4⟩ := id hb5
        obtain ⟨y0, y1, y2, y3, y4⟩ := id hS9
        by_cases z : e = 0
        · subst z
          obtain ⟨e1, e2, e3, e4, c0, c1, f0, f1⟩ := ceil_law hI.out hHQ.out
          obtain ⟨r1, r2, r3, r4⟩ := id f1
          obtain ⟨p1, p2, p3, p4⟩ := hrg.out
          unfold fit at f0 r1 p1
          have hr9 := Lib.hid f1
          clear hrg hI hHQ hStep f1 hS hbs hb5
          have hS6 := hS5
          clear hS5
          subst e1
          have hE2 := Lib.hid e2
          have n3 : ¬ W' < Wk := by omega
          have n4 : ¬ F' < F := by omega
          by_cases m1 : T < B + x
          · rw [if_pos m1] at e2
            by_cases m2 : 0 < ce
            · by_cases m3 : ce < B + x
              · obtain rfl : ce = I' := by rw [e2]; unfold want; rw [if_pos m2, if_pos m3]
                clear e2
                have hE3 : Hid (ce = want ce (B + x)) := Lib.hid (by unfold want; rw [if_pos m2, if_pos m3])
                clear hE2
                go_wp2_with fail
                go_roundw
                case rel => exact ⟨k + 1, B + x, ce, W', F', B + x, by omega, by go_num, rfl, rfl, by omega, by omega, hr9, hE3, sum_set hS6, bset (bset (bset (bset hbel2 (Nat.le_refl _) _) (Nat.le_refl _) _) (Nat.le_refl _) _) (Nat.le_refl _) _, fun o => by simp [hfz5 o]⟩
                case measure => simp [intOf]; omega
              · obtain rfl : B + x = I' := Eq.symm (by rw [e2]; unfold want; rw [if_pos m2, if_neg m3])
                clear e2
                have hE3 : Hid (B + x = want ce (B + x)) := Lib.hid (by unfold want; rw [if_pos m2, if_neg m3])
                clear hE2
                go_wp2_with fail
                go_roundw
                case rel => exact ⟨k + 1, B + x, B + x, W', F', B + x, by omega, by go_num, rfl, rfl, by omega, by omega, hr9, hE3, sum_set hS6, bset (bset (bset (bset hbel2 (Nat.le_refl _) _) (Nat.le_refl _) _) (Nat.le_refl _) _) (Nat.le_refl _) _, fun o => by simp [hfz5 o]⟩
                case measure => simp [intOf]; omega
            · obtain rfl : B + x = I' := Eq.symm (by rw [e2]; unfold want; rw [if_neg m2])
              clear e2
              have hE3 : Hid (B + x = want ce (B + x)) := Lib.hid (by unfold want; rw [if_neg m2])
              clear hE2
              go_wp2_with fail
              go_roundw
              case rel => exact ⟨k + 1, B + x, B + x, W', F', B + x, by omega, by go_num, rfl, rfl, by omega, by omega, hr9, hE3, sum_set hS6, bset (bset (bset (bset hbel2 (Nat.le_refl _) _) (Nat.le_refl _) _) (Nat.le_refl _) _) (Nat.le_refl _) _, fun o => by simp [hfz5 o]⟩
              case measure => simp [intOf]; omega
          · rw [if_neg m1] at e2
            by_cases m2 : 0 < ce
            · by_cases m3 : ce < T
              · obtain rfl : ce = I' := by rw [e2]; unfold want; rw [if_pos m2, if_pos m3]
                clear e2
                have hE3 : Hid (ce = want ce (T)) := Lib.hid (by unfold want; rw [if_pos m2, if_pos m3])
                clear hE2
                go_wp2_with fail
                go_roundw
                case rel => exact ⟨k + 1, B + x, ce, W', F', T, by omega, by go_num, rfl, rfl, by omega, by omega, hr9, hE3, sum_set hS6, bset (bset (bset (bset hbel2 (Nat.le_refl _) _) (Nat.le_refl _) _) (Nat.le_refl _) _) (Nat.le_refl _) _, fun o => by simp [hfz5 o]⟩
                case measure => simp [intOf]; omega
              · obtain rfl : T = I' := Eq.symm (by rw [e2]; unfold want; rw [if_pos m2, if_neg m3])
                clear e2
                have hE3 : Hid (T = want ce (T)) := Lib.hid (by unfold want; rw [if_pos m2, if_neg m3])
                clear hE2
                go_wp2_with fail
                go_roundw
                case rel => exact ⟨k + 1, B + x, T, W', F', T, by omega, by go_num, rfl, rfl, by omega, by omega, hr9, hE3, sum_set hS6, bset (bset (bset (bset hbel2 (Nat.le_refl _) _) (Nat.le_refl _) _) (Nat.le_refl _) _) (Nat.le_refl _) _, fun o => by simp [hfz5 o]⟩
                case measure => simp [intOf]; omega
            · obtain rfl : T = I' := Eq.symm (by rw [e2]; unfold want; rw [if_neg m2])
              clear e2
              have hE3 : Hid (T = want ce (T)) := Lib.hid (by unfold want; rw [if_neg m2])
              clear hE2
              go_wp2_with fail
              go_roundw
              case rel => exact ⟨k + 1, B + x, T, W', F', T, by omega, by go_num, rfl, rfl, by omega, by omega, hr9, hE3, sum_set hS6, bset (bset (bset (bset hbel2 (Nat.le_refl _) _) (Nat.le_refl _) _) (Nat.le_refl _) _) (Nat.le_refl _) _, fun o => by simp [hfz5 o]⟩
              case measure => simp [intOf]; omega
        · have hz := sstep_err (b := B) (i := I) (w := Wk) (f := F) (l := s.data.toList) (wr := ra) (fr := fr) (ce := ce) (base := x) (by rw [hHQ.out]; exact z)
          rw [hHQ.out] at hz
          simp only [Prod.mk.injEq] at hz
          obtain ⟨rfl, rfl, rfl, rfl⟩ := hz
          have he1 := fun w => eql_sums 0 0 0 0 0 0 0 0 w
          simp only [beq_self_eq_true, Bool.and_self] at he1
          have ze : (e != 0) = true := by simp [z]
          go_wp2_with fail
          go_ret
          exact ⟨rfl, bstep hW1 hbel2⟩
    · go_wp2_with fail
      go_ret
      exact ⟨rfl, bstep hW1 hbel⟩
end Go.Proofs.Ytdmkjdlneadkcaa.W
