/- The walk of attach.Check: what is wrong with orders. -/
import Derived.Test.YtjfcbflhnfjcfaaAtA
import Derived.Deep.Cut
import Derived.Maps.Range
namespace Go.Proofs.Ytjfcbflhnfjcfaa.W
open Go.RowKit Go.Proofs.Ytjfcbflhnfjcfaa.M Go.Proofs.Ytjfcbflhnfjcfaa.B Go.Proofs.Ytjfcbflhnfjcfaa.S
open Go.Maps (Keyed)
set_option linter.unusedVariables false

theorem kStr : Keyed Try.prog 9 := Go.Maps.string_keyed Try.underlying9
theorem zeroBool (w : World) : (zeroValue 4).run Try.prog w = .ok (.bool false) w := by kernel_rfl
theorem readsB : Reads Value.bool (fun x => DataW.lit (.bool x)) (plainElem Try.prog 4) := reads_bool Try.underlying4
abbrev MapB (w : World) (b n : Nat) (f : ByteArray → Option Bool) : Prop := MapIs Try.prog 9 (fun x => DataW.lit (.bool x)) (plainElem Try.prog 4) w b n f

theorem wrgO_name {S : Nat → Ord} {k : Nat} (h : ¬ word (S k).code.data.toList) : wrgO S k = 12 := by unfold wrgO; rw [if_pos h]
theorem wrgO_rng {S : Nat → Ord} {k : Nat} (h1 : word (S k).code.data.toList) (h : ¬ rngO (S k)) : wrgO S k = 2 := by unfold wrgO; rw [if_neg (by simpa using h1), if_pos h]
theorem wrgO_met {S : Nat → Ord} {k : Nat} (h1 : word (S k).code.data.toList) (h2 : rngO (S k)) (h : ¬ fresh S k) : wrgO S k = 7 := by unfold wrgO; rw [if_neg (by simpa using h1), if_neg (by simpa using h2), if_pos h]
theorem wrgO_ok {S : Nat → Ord} {k : Nat} (h1 : word (S k).code.data.toList) (h2 : rngO (S k)) (h : fresh S k) : wrgO S k = 0 := by unfold wrgO; rw [if_neg (by simpa using h1), if_neg (by simpa using h2), if_neg (by simpa using h)]

def CheckOut (r : Int) (W : World) (e : Ending) (w' : World) : Prop := e = .returned (.int .i64 r) ∧ Below W.heap.size W w'

theorem check_many (S : Nat → Ord) (a : Option Addr) (n cap : Nat) (W : World) (hn : 64 < n) (hm : n ≤ 9223372036854775807) :
    Calls Try.prog 17 #[.slice a n cap] W (CheckOut (check S n) W) := by
  have hn' : (64 : Int) < (n : Int) := by omega
  have e : check S n = 5 := by unfold check; rw [if_pos hn]
  rw [e]
  clear e
  go_enter Try.func17, Try.ntmps17
  go_wp2_with fail
  go_ret
  exact ⟨rfl, Below.refl _ _⟩

set_option maxRecDepth 100000 in
set_option maxHeartbeats 4000000 in
theorem check_few (S : Nat → Ord) (a : Option Addr) (n cap : Nat) (W : World) (hl : Lst 6 W a n (fun j => ocells (S j))) (hS : ∀ j, j < n → okO (S j)) (hn : n ≤ 64) :
    Calls Try.prog 17 #[.slice a n cap] W (CheckOut (check S n) W) := by
  have hn' : ¬ (64 : Int) < (n : Int) := by omega
  have e : check S n = cerr S n := by unfold check; rw [if_neg (by omega)]
  rw [e]
  clear e
  have hst0 : Below W.heap.size W (W.alloc (.map #[] 0)) ∧ MapB (W.alloc (.map #[] 0)) W.heap.size 0 (fun _ => none) := ⟨balloc (Below.refl _ _) _, mapIs_made W⟩
  have hmm := @run_makeMap Try.prog
  go_enter Try.func17, Try.ntmps17
  go_upto_region 5 with fail
  clear hmm
  generalize W.alloc (.map #[] 0) = U at *
  go_loopw [12] (fun s12 wx => ∃ k : Nat, k ≤ n ∧ s12 = .int .i64 k ∧ Hid (cerr S k = 0) ∧ Hid (Below W.heap.size W wx ∧ MapB wx W.heap.size (nm S k) (fm S k))) (fun s12 _ => n - (intOf s12).toNat)
  case atStart => exact ⟨0, Nat.zero_le _, rfl, rfl, hst0⟩
  case round =>
    obtain ⟨k, hk, rfl, he0, hst⟩ := hrel
    clear hst0
    by_cases ck : k < n
    · obtain ⟨b1, o1, rfl, hlt1, hcl⟩ := (hl.step hst.out.1).at_ ck
      have hSk := hS k ck
      have hbad := Lib.hid (fun e h hne => cerr_bad (n := n) (e := e) he0.out h hne ck)
      have hstp := cerr_step he0.out
      have hnm : nm S (k + 1) = more (fm S k) (S k).code (nm S k) := rfl
      have hfm : fm S (k + 1) = upd (fm S k) (S k).code true := rfl
      have hnl := nm_le S k
      have hw1 := wrgO_name (S := S) (k := k)
      have hw2 := wrgO_rng (S := S) (k := k)
      have hw3 := wrgO_met (S := S) (k := k)
      have hw4 := wrgO_ok (S := S) (k := k)
      have hfr := fm_fresh (S := S) (k := k)
      have hme := fm_met (S := S) (k := k)
      obtain ⟨⟨s, r, q, f, p, t⟩, hx⟩ : ∃ x, S k = x := ⟨_, rfl⟩
      rw [hx] at hSk hnm hfm hw1 hw2 hw3 hw4 hfr hme
      have d0 := hcl 0 (.string s) (by rw [hx]; rfl)
      have d1 := hcl 1 (.int .i64 r) (by rw [hx]; rfl)
      have d2 := hcl 2 (.int .i64 q) (by rw [hx]; rfl)
      have d3 := hcl 3 (.int .i64 f) (by rw [hx]; rfl)
      have d4 := hcl 4 (.int .i64 p) (by rw [hx]; rfl)
      have d5 := hcl 5 (.int .i64 t) (by rw [hx]; rfl)
      rw [Nat.add_zero] at d0
      obtain ⟨k0, k1, k2, k3, k4, k5⟩ := hSk
      simp only at k0 k1 k2 k3 k4 k5 hw1 hw2 hw3 hw4 hnm hfm hfr hme
      clear hcl hx hS hl he0 hlt1
      have hB1 := Lib.hid (balloc hst.out.1 (.cells #[.string s, .int .i64 r, .int .i64 q, .int .i64 f, .int .i64 p, .int .i64 t] 43))
      have hM1 := hst.out.2.alloc (.cells #[.string s, .int .i64 r, .int .i64 q, .int .i64 f, .int .i64 p, .int .i64 t] 43)
      have hltm := hst.out.2.lt
      by_cases cw : word s.data.toList
      · have hN := fun W => named_is s true (decide_eq_true cw) W k0
        by_cases cr : rngO ⟨s, r, q, f, p, t⟩
        · obtain ⟨g1, g2, g3, g4, g5⟩ := id cr
          simp only at g1 g2 g3 g4 g5
          have hx3 := Ints.made (k := .i64) (w := wr.alloc (.cells #[.string s, .int .i64 r, .int .i64 q, .int .i64 f, .int .i64 p, .int .i64 t] 43)) [f, p, t] 22 (show 3 ≤ maxLen by decide)
          have hA := amounts_is _ 3 3 [f, p, t] true (show decide _ = true from by simp [g5]) _ hx3 (by intro x hx; simp at hx; rcases hx with rfl | rfl | rfl <;> assumption)
          rw [show (wr.alloc (.cells #[.string s, .int .i64 r, .int .i64 q, .int .i64 f, .int .i64 p, .int .i64 t] 43)).heap.size = wr.heap.size + 1 from by simp] at hA
          have HA := Lib.hid hA
          have HN := Lib.hid hN
          clear hx3 hA hN g5 hw1 hw2
          have hM2 := hM1.alloc (.cells #[.int .i64 f, .int .i64 p, .int .i64 t] 22)
          have hB2 := Lib.hid (balloc hB1.out (.cells #[.int .i64 f, .int .i64 p, .int .i64 t] 22))
          by_cases cf : fresh S k
          · have hlk := hM2.look readsB kStr Try.underlying9 Try.underlying63 (zeroBool _) k0
            rw [hfr cf] at hlk
            have hE := Lib.hid (hstp.trans (hw4 cw cr cf))
            clear hw3 hw4 hfr hme cw cr hbad hstp
            go_wp2_with fail
            refine (HN.out _).mono ?_
            rintro e w' ⟨rfl, rfl⟩
            go_wp2_with fail
            refine HA.out.mono ?_
            rintro e w' ⟨rfl, rfl⟩
            clear HN HA
            go_wp2_with (at_mapUpdate; refine wpList_mapUpdate_is _ rfl _ _ _ 63 rfl 9 4 kStr Try.underlying9 Try.underlying63 readsB W.heap.size (nm S k) (fm S k) rfl hM2 (by unfold maxLen; omega) s rfl k0 true rfl ?_)
            intro w3 ho3 hto3
            rw [← hnm, ← hfm] at ho3
            have hB3 := Below.grown hB2.out hto3.grown hB2.out.size (fun j hj => by injection hj with hj; omega)
            go_wp2_with fail
            go_roundw
            case rel => exact ⟨k + 1, by omega, by go_num, hE, hB3, ho3⟩
            case measure => simp [intOf]; omega
          · have hlk := hM2.look readsB kStr Try.underlying9 Try.underlying63 (zeroBool _) k0
            rw [hme cf] at hlk
            have hE := Lib.hid (hbad.out 7 (hw3 cw cr cf) (by omega))
            clear hw3 hw4 hfr hme cw cr hbad hstp
            go_wp2_with fail
            refine (HN.out _).mono ?_
            rintro e w' ⟨rfl, rfl⟩
            go_wp2_with fail
            refine HA.out.mono ?_
            rintro e w' ⟨rfl, rfl⟩
            go_wp2_with fail
            go_ret
            exact ⟨ret_int hE.out.symm, hB2.out⟩
        · have hE := Lib.hid (hbad.out 2 (hw2 cw cr) (by omega))
          have HN := Lib.hid hN
          clear hw1 hw2 hw3 hw4 hfr hme cw hbad hstp hN hnm hfm
          by_cases c4 : 0 ≤ r ∧ r ≤ 99 ∧ 0 ≤ q ∧ q ≤ 1000000
          · obtain ⟨g1, g2, g3, g4⟩ := c4
            have hx3 := Ints.made (k := .i64) (w := wr.alloc (.cells #[.string s, .int .i64 r, .int .i64 q, .int .i64 f, .int .i64 p, .int .i64 t] 43)) [f, p, t] 22 (show 3 ≤ maxLen by decide)
            have hA := amounts_is _ 3 3 [f, p, t] false (show decide _ = false from by
              rw [decide_eq_false_iff_not]
              intro h
              apply cr
              simp at h
              exact ⟨g1, g2, g3, g4, h⟩) _ hx3 (by intro x hx; simp at hx; rcases hx with rfl | rfl | rfl <;> assumption)
            rw [show (wr.alloc (.cells #[.string s, .int .i64 r, .int .i64 q, .int .i64 f, .int .i64 p, .int .i64 t] 43)).heap.size = wr.heap.size + 1 from by simp] at hA
            have HA := Lib.hid hA
            clear hx3 hA cr
            have hB2 := Lib.hid (balloc hB1.out (.cells #[.int .i64 f, .int .i64 p, .int .i64 t] 22))
            go_wp2_with fail
            refine (HN.out _).mono ?_
            rintro e w' ⟨rfl, rfl⟩
            go_wp2_with fail
            refine HA.out.mono ?_
            rintro e w' ⟨rfl, rfl⟩
            go_wp2_with fail
            go_ret
            exact ⟨ret_int hE.out.symm, hB2.out⟩
          · clear cr
            rcases (by omega : r < 0 ∨ (0 ≤ r ∧ 99 < r) ∨ (0 ≤ r ∧ r ≤ 99 ∧ q < 0) ∨ (0 ≤ r ∧ r ≤ 99 ∧ 0 ≤ q ∧ 1000000 < q)) with c1 | ⟨c1, c2⟩ | ⟨c1, c2, c3⟩ | ⟨c1, c2, c3, c5⟩
            all_goals
              clear c4
              go_wp2_with fail
              refine (HN.out _).mono ?_
              rintro e w' ⟨rfl, rfl⟩
              go_wp2_with fail
              go_ret
              exact ⟨ret_int hE.out.symm, hB1.out⟩
      · have hN := Lib.hid (fun W => named_is s false (decide_eq_false cw) W k0)
        have hE := Lib.hid (hbad.out 12 (hw1 cw) (by omega))
        clear hw1 hw2 hw3 hw4 hfr hme cw hbad hstp hnm hfm
        go_wp2_with fail
        refine (hN.out _).mono ?_
        rintro e w' ⟨rfl, rfl⟩
        go_wp2_with fail
        go_ret
        exact ⟨ret_int hE.out.symm, hB1.out⟩
    · obtain rfl : k = n := by omega
      go_wp2_with fail
      go_ret
      exact ⟨ret_int he0.out.symm, hst.out.1⟩
theorem check_is (S : Nat → Ord) (a : Option Addr) (n cap : Nat) (W : World) (hl : Lst 6 W a n (fun j => ocells (S j))) (hS : ∀ j, j < n → okO (S j)) :
    Calls Try.prog 17 #[.slice a n cap] W (CheckOut (check S n) W) := by
  by_cases h : 64 < n
  · exact check_many S a n cap W h hl.1
  · exact check_few S a n cap W hl hS (by omega)
end Go.Proofs.Ytjfcbflhnfjcfaa.W
