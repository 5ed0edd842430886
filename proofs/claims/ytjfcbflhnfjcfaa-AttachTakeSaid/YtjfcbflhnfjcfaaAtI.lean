/- The document's check of orders. -/
import Derived.Test.YtjfcbflhnfjcfaaAtV
namespace Go.Proofs.Ytjfcbflhnfjcfaa.W
open Go.RowKit Go.Proofs.Ytjfcbflhnfjcfaa.M Go.Proofs.Ytjfcbflhnfjcfaa.B Go.Proofs.Ytjfcbflhnfjcfaa.S
open Go.Maps (Keyed)
set_option linter.unusedVariables false

theorem rcheck_many (S : Nat → Ord) (a : Option Addr) (n cap : Nat) (W : World) (hn : 64 < n) (hm : n ≤ 9223372036854775807) :
    Calls Try.prog 18 #[.slice a n cap] W (CheckOut (check S n) W) := by
  have hn' : (64 : Int) < (n : Int) := by omega
  have e : check S n = 5 := by unfold check; rw [if_pos hn]
  rw [e]
  clear e
  go_enter Try.func18, Try.ntmps18
  go_wp2_with fail
  go_ret
  exact ⟨rfl, Below.refl _ _⟩

set_option maxRecDepth 100000 in
set_option maxHeartbeats 4000000 in
theorem rcheck_few (S : Nat → Ord) (a : Option Addr) (n cap : Nat) (W : World) (hl : Lst 6 W a n (fun j => ocells (S j))) (hS : ∀ j, j < n → okO (S j)) (hn : n ≤ 64) :
    Calls Try.prog 18 #[.slice a n cap] W (CheckOut (check S n) W) := by
  have hn' : ¬ (64 : Int) < (n : Int) := by omega
  have e : check S n = cerr S n := by unfold check; rw [if_neg (by omega)]
  rw [e]
  clear e
  go_enter Try.func18, Try.ntmps18
  go_wp2_with fail
  go_loopw [3] (fun s3 wx => ∃ k : Nat, k ≤ n ∧ s3 = .int .i64 k ∧ Hid (cerr S k = 0) ∧ Hid (Below W.heap.size W wx)) (fun s3 _ => n - (intOf s3).toNat)
  case atStart => exact ⟨0, Nat.zero_le _, rfl, rfl, Below.refl _ _⟩
  case round =>
    obtain ⟨k, hk, rfl, he0, hst⟩ := hrel
    by_cases ck : k < n
    · obtain ⟨b1, o1, rfl, hlt1, hcl⟩ := (hl.step hst.out).at_ ck
      have hSk := hS k ck
      have hbad := Lib.hid (fun e h hne => cerr_bad (n := n) (e := e) he0.out h hne ck)
      have hstp := cerr_step he0.out
      have hw1 := wrgO_name (S := S) (k := k)
      have hw2 := wrgO_rng (S := S) (k := k)
      have hw3 := wrgO_met (S := S) (k := k)
      have hw4 := wrgO_ok (S := S) (k := k)
      obtain ⟨⟨s, r, q, f, p, t⟩, hx⟩ : ∃ x, S k = x := ⟨_, rfl⟩
      rw [hx] at hSk hw1 hw2 hw3 hw4
      have hcd : (S k).code = s := by rw [hx]
      have d0 := hcl 0 (.string s) (by rw [hx]; rfl)
      have d1 := hcl 1 (.int .i64 r) (by rw [hx]; rfl)
      have d2 := hcl 2 (.int .i64 q) (by rw [hx]; rfl)
      have d3 := hcl 3 (.int .i64 f) (by rw [hx]; rfl)
      have d4 := hcl 4 (.int .i64 p) (by rw [hx]; rfl)
      have d5 := hcl 5 (.int .i64 t) (by rw [hx]; rfl)
      rw [Nat.add_zero] at d0
      obtain ⟨k0, k1, k2, k3, k4, k5⟩ := hSk
      simp only at k0 k1 k2 k3 k4 k5 hw1 hw2 hw3 hw4
      have ck' : (k : Int) < (n : Int) := by omega
      have HCD := Lib.hid hcd
      have HLL := Lib.hid hl
      have HCK := Lib.hid ck
      clear hcl hx hS he0 hlt1 hcd hl
      have HB1 := Lib.hid (balloc hst.out (.cells #[.string s, .int .i64 r, .int .i64 q, .int .i64 f, .int .i64 p, .int .i64 t] 43))
      by_cases cw : word s.data.toList
      · have HN := Lib.hid (fun W => rword_is s true (decide_eq_true cw) W k0)
        by_cases cr : rngO ⟨s, r, q, f, p, t⟩
        · obtain ⟨g1, g2, g3, g4, g5, g6, g7⟩ := id cr
          simp only at g1 g2 g3 g4 g5 g6 g7
          have HF := Lib.hid (fun W => rfits_is f true (decide_eq_true g5) W)
          have HP := Lib.hid (fun W => rfits_is p true (decide_eq_true g6) W)
          have HT := Lib.hid (fun W => rfits_is t true (decide_eq_true g7) W)
          have b1 : decide (r < 0) = false := decide_eq_false (by omega)
          have b2 : decide (99 < r) = false := decide_eq_false (by omega)
          have b3 : decide (q < 0) = false := decide_eq_false (by omega)
          have b4 : decide (1000000 < q) = false := decide_eq_false (by omega)
          have hE7 : Hid (¬ fresh S k → cerr S n = 7) := fun h => hbad.out 7 (hw3 cw cr h) (by omega)
          have hE0 : Hid (fresh S k → cerr S (k + 1) = 0) := fun h => hstp.trans (hw4 cw cr h)
          clear hw1 hw2 hw3 hw4 cr cw g1 g2 g3 g4 g5 g6 g7 hbad hstp
          go_wp2_with fail
          refine (HN.out _).mono ?_
          rintro e w' ⟨rfl, rfl⟩
          go_wp2_with fail
          refine (HF.out _).mono ?_
          rintro e w' ⟨rfl, rfl⟩
          go_wp2_with fail
          refine (HP.out _).mono ?_
          rintro e w' ⟨rfl, rfl⟩
          go_wp2_with fail
          refine (HT.out _).mono ?_
          rintro e w' ⟨rfl, rfl⟩
          have c0 : (wr.alloc (.cells #[.string s, .int .i64 r, .int .i64 q, .int .i64 f, .int .i64 p, .int .i64 t] 43)).cell? ⟨wr.heap.size, 0, none⟩ = some (.string s) := by simp
          have hPU : wr.heap.size < (wr.alloc (.cells #[.string s, .int .i64 r, .int .i64 q, .int .i64 f, .int .i64 p, .int .i64 t] 43)).heap.size := by simp
          generalize wr.alloc (.cells #[.string s, .int .i64 r, .int .i64 q, .int .i64 f, .int .i64 p, .int .i64 t] 43) = U at *
          generalize wr.heap.size = P at *
          clear d0 d1 d2 d3 d4 d5 b1 b2 b3 b4
          have hlU := Lib.hid (HLL.out.step HB1.out)
          go_wp2_with fail
          go_loopw [5] (fun s5 wx => ∃ j : Nat, j ≤ k ∧ s5 = .int .i64 j ∧ Hid (∀ i, i < j → (S i).code ≠ s) ∧ Hid (Below U.heap.size U wx)) (fun s5 _ => k - (intOf s5).toNat)
          case atStart => exact ⟨0, Nat.zero_le _, rfl, fun i hi => absurd hi (by omega), Below.refl _ _⟩
          case round =>
            obtain ⟨j, hj, rfl, hfr, hbj⟩ := hrel
            by_cases cj : j < k
            · have cj' : (j : Int) < (k : Int) := by omega
              have c0 := bc hbj.out hPU c0
              obtain ⟨b2, o2, he2, hlt2, hc2⟩ := (hlU.out.step hbj.out).at_ (j := j) (by omega)
              injection he2 with he2
              injection he2 with he21 he22
              subst he21 he22
              have e0 := hc2 0 (.string (S j).code) rfl
              rw [Nat.add_zero] at e0
              have wj : IntKind.i64.wrap ((j : Int) + 1) = (j : Int) + 1 := IntWalk.i64_in _ (by omega)
              have jn : (j : Int) < (n : Int) := by omega
              clear hc2
              by_cases ce : (S j).code = s
              · have hE := Lib.hid (hE7.out (fun h => h j cj (ce.trans HCD.out.symm)))
                rw [ce] at e0
                have hbt : (s.toList == s.toList) = true := by simp
                have hBz : Hid (Below W.heap.size W wr) := bstep HB1.out hbj.out
                clear hE7 hE0 ce
                go_wp2_with fail
                go_quiet (fail)
                go_wp2_with fail
                go_ret
                exact ⟨ret_int hE.out.symm, below_drewN hBz.out _⟩
              · have hnx : Hid (∀ i, i < j + 1 → (S i).code ≠ s) := fun i hi => by
                  by_cases e : i = j
                  · subst e; exact ce
                  · exact hfr.out i (by omega)
                have hbn := strs_ne ce
                clear ce hE7 hE0
                generalize (S j).code = sj at *
                go_wp2_with fail
                go_quiet (fail)
                go_wp2_with fail
                go_roundw
                case rel => exact ⟨j + 1, by omega, by go_num, hnx, below_drewN hbj.out _⟩
                case measure => simp [intOf]; omega
            · obtain rfl : j = k := by omega
              have cj' : ¬ (j : Int) < (j : Int) := by omega
              have hE := Lib.hid (hE0.out (fun i hi => by rw [HCD.out]; exact hfr.out i hi))
              have hBz : Hid (Below W.heap.size W wr) := bstep HB1.out hbj.out
              have wj : IntKind.i64.wrap ((j : Int) + 1) = (j : Int) + 1 := IntWalk.i64_in _ (by omega)
              clear hE7 hE0 hfr
              go_wp2_with fail
              go_roundw
              case rel => exact ⟨j + 1, by omega, by go_num, hE, hBz⟩
              case measure => simp [intOf]; omega
        · have hE := Lib.hid (hbad.out 2 (hw2 cw cr) (by omega))
          clear hw1 hw2 hw3 hw4 cw hbad hstp
          by_cases c4 : 0 ≤ r ∧ r ≤ 99 ∧ 0 ≤ q ∧ q ≤ 1000000
          · obtain ⟨g1, g2, g3, g4⟩ := c4
            have b1 : decide (r < 0) = false := decide_eq_false (by omega)
            have b2 : decide (99 < r) = false := decide_eq_false (by omega)
            have b3 : decide (q < 0) = false := decide_eq_false (by omega)
            have b4 : decide (1000000 < q) = false := decide_eq_false (by omega)
            by_cases a1 : amt f
            · have HF := Lib.hid (fun W => rfits_is f true (decide_eq_true a1) W)
              by_cases a2 : amt p
              · have HP := Lib.hid (fun W => rfits_is p true (decide_eq_true a2) W)
                have a3 : ¬ amt t := fun h => cr ⟨g1, g2, g3, g4, a1, a2, h⟩
                have HT := Lib.hid (fun W => rfits_is t false (decide_eq_false a3) W)
                clear cr g1 g2 g3 g4 a1 a2 a3
                go_wp2_with fail
                refine (HN.out _).mono ?_
                rintro e w' ⟨rfl, rfl⟩
                go_wp2_with fail
                refine (HF.out _).mono ?_
                rintro e w' ⟨rfl, rfl⟩
                go_wp2_with fail
                refine (HP.out _).mono ?_
                rintro e w' ⟨rfl, rfl⟩
                go_wp2_with fail
                refine (HT.out _).mono ?_
                rintro e w' ⟨rfl, rfl⟩
                go_wp2_with fail
                go_ret
                exact ⟨ret_int hE.out.symm, HB1.out⟩
              · have HP := Lib.hid (fun W => rfits_is p false (decide_eq_false a2) W)
                clear cr g1 g2 g3 g4 a1 a2
                go_wp2_with fail
                refine (HN.out _).mono ?_
                rintro e w' ⟨rfl, rfl⟩
                go_wp2_with fail
                refine (HF.out _).mono ?_
                rintro e w' ⟨rfl, rfl⟩
                go_wp2_with fail
                refine (HP.out _).mono ?_
                rintro e w' ⟨rfl, rfl⟩
                go_wp2_with fail
                go_ret
                exact ⟨ret_int hE.out.symm, HB1.out⟩
            · have HF := Lib.hid (fun W => rfits_is f false (decide_eq_false a1) W)
              clear cr g1 g2 g3 g4 a1
              go_wp2_with fail
              refine (HN.out _).mono ?_
              rintro e w' ⟨rfl, rfl⟩
              go_wp2_with fail
              refine (HF.out _).mono ?_
              rintro e w' ⟨rfl, rfl⟩
              go_wp2_with fail
              go_ret
              exact ⟨ret_int hE.out.symm, HB1.out⟩
          · clear cr
            rcases (by omega : r < 0 ∨ (0 ≤ r ∧ 99 < r) ∨ (0 ≤ r ∧ r ≤ 99 ∧ q < 0) ∨ (0 ≤ r ∧ r ≤ 99 ∧ 0 ≤ q ∧ 1000000 < q)) with c1 | ⟨c1, c2⟩ | ⟨c1, c2, c3⟩ | ⟨c1, c2, c3, c5⟩
            · have b1 : decide (r < 0) = true := decide_eq_true (by omega)
              clear c4 c1
              go_wp2_with fail
              refine (HN.out _).mono ?_
              rintro e w' ⟨rfl, rfl⟩
              go_wp2_with fail
              go_ret
              exact ⟨ret_int hE.out.symm, HB1.out⟩
            · have b1 : decide (r < 0) = false := decide_eq_false (by omega)
              have b2 : decide (99 < r) = true := decide_eq_true (by omega)
              clear c4 c1 c2
              go_wp2_with fail
              refine (HN.out _).mono ?_
              rintro e w' ⟨rfl, rfl⟩
              go_wp2_with fail
              go_ret
              exact ⟨ret_int hE.out.symm, HB1.out⟩
            · have b1 : decide (r < 0) = false := decide_eq_false (by omega)
              have b2 : decide (99 < r) = false := decide_eq_false (by omega)
              have b3 : decide (q < 0) = true := decide_eq_true (by omega)
              clear c4 c1 c2 c3
              go_wp2_with fail
              refine (HN.out _).mono ?_
              rintro e w' ⟨rfl, rfl⟩
              go_wp2_with fail
              go_ret
              exact ⟨ret_int hE.out.symm, HB1.out⟩
            · have b1 : decide (r < 0) = false := decide_eq_false (by omega)
              have b2 : decide (99 < r) = false := decide_eq_false (by omega)
              have b3 : decide (q < 0) = false := decide_eq_false (by omega)
              have b4 : decide (1000000 < q) = true := decide_eq_true (by omega)
              clear c4 c1 c2 c3 c5
              go_wp2_with fail
              refine (HN.out _).mono ?_
              rintro e w' ⟨rfl, rfl⟩
              go_wp2_with fail
              go_ret
              exact ⟨ret_int hE.out.symm, HB1.out⟩
      · have HN := Lib.hid (fun W => rword_is s false (decide_eq_false cw) W k0)
        have hE := Lib.hid (hbad.out 12 (hw1 cw) (by omega))
        clear hw1 hw2 hw3 hw4 cw hbad hstp
        go_wp2_with fail
        refine (HN.out _).mono ?_
        rintro e w' ⟨rfl, rfl⟩
        go_wp2_with fail
        go_ret
        exact ⟨ret_int hE.out.symm, HB1.out⟩
    · obtain rfl : k = n := by omega
      have ck' : ¬ (k : Int) < (k : Int) := by omega
      go_wp2_with fail
      go_ret
      exact ⟨ret_int he0.out.symm, hst.out⟩
theorem rcheck_is (S : Nat → Ord) (a : Option Addr) (n cap : Nat) (W : World) (hl : Lst 6 W a n (fun j => ocells (S j))) (hS : ∀ j, j < n → okO (S j)) :
    Calls Try.prog 18 #[.slice a n cap] W (CheckOut (check S n) W) := by
  by_cases h : 64 < n
  · exact rcheck_many S a n cap W h hl.1
  · exact rcheck_few S a n cap W hl hS (by omega)
end Go.Proofs.Ytjfcbflhnfjcfaa.W
