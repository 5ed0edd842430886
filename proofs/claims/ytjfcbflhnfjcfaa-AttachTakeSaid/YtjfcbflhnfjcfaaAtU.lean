/- The walks of the document's answer for attach: names, amounts, which order is ahead, what is left of a total, the same orders; lists of items. -/
import Derived.Test.YtjfcbflhnfjcfaaAtT
import Derived.Test.YtjfcbflhnfjcfaaRef02
import Derived.BigQuiet
namespace Go.Proofs.Ytjfcbflhnfjcfaa.W
open Go.RowKit Go.Proofs.Ytjfcbflhnfjcfaa.M Go.Proofs.Ytjfcbflhnfjcfaa.B Go.Proofs.Ytjfcbflhnfjcfaa.S
open Go.Maps (Keyed)
set_option linter.unusedVariables false

theorem rword_is (s : ByteArray) (b : Bool) (hb : Hid (decide (word s.data.toList) = b)) (w : World) (hs : s.size ≤ 9223372036854775807) :
    Calls Try.prog 32 #[.string s] w fun e w' => e = .returned (.bool b) ∧ w = w' := by
  have hG := Lib.hid (fun j h => getD_byte s j h)
  have hlen : s.data.toList.length = s.size := by simp
  generalize hl : s.data.toList = l at *
  have HL := Lib.hid hl
  clear hl
  have hlen' := Lib.hid hlen; clear hlen
  go_enter Try.func32, Try.ntmps32
  go_wp2_with fail
  go_loop [3] (fun s7 => ∃ j : Nat, j ≤ s.size ∧ s7 = .int .i64 j ∧ Hid (∀ i, i < j → okc (l.getD i 0).toNat)) (fun i => s.size - (intOf i).toNat)
  case atStart => exact ⟨0, Nat.zero_le _, rfl, fun i hi => absurd hi (by omega)⟩
  case round =>
    obtain ⟨j, hj, rfl, hok⟩ := hrel
    by_cases c : j < s.size
    · have hgj := hG.out j c
      have hmem := getD_mem8 (l := l) (t := j) (by rw [hlen'.out]; exact c)
      generalize hbb : l.getD j 0 = x at *
      have HB := Lib.hid hbb; clear hbb
      have hsj : s[j] = x := hgj.symm
      clear hgj
      have x256 : (x.toNat : Int) < 256 := by have := x.toNat_lt; omega
      have cj : (j : Int) < (s.size : Int) := by omega
      by_cases o : okc x.toNat
      · have hnx : Hid (∀ i, i < j + 1 → okc (l.getD i 0).toNat) := fun i hi => by
          by_cases e : i = j
          · subst e; rw [HB.out]; exact o
          · exact hok.out i (by omega)
        clear hmem
        have ho : Hid (okc x.toNat) := o
        clear o
        rcases ho.out with ⟨c1, c2⟩ | ⟨c1, c2⟩ | c1 | c1 | c1

        · have d0 : decide (97 ≤ (x.toNat : Int)) = true := decide_eq_true (by omega)
          have d1 : decide ((x.toNat : Int) ≤ 122) = true := decide_eq_true (by omega)
          clear c1 c2
          go_wp2_with fail
          go_round
          case rel => exact ⟨j + 1, by omega, by go_num, hnx⟩
          case measure => simp [intOf]; omega
        · have d0 : decide (97 ≤ (x.toNat : Int)) = false := decide_eq_false (by omega)
          have d1 : decide (48 ≤ (x.toNat : Int)) = true := decide_eq_true (by omega)
          have d2 : decide ((x.toNat : Int) ≤ 57) = true := decide_eq_true (by omega)
          clear c1 c2
          go_wp2_with fail
          go_round
          case rel => exact ⟨j + 1, by omega, by go_num, hnx⟩
          case measure => simp [intOf]; omega
        · have d0 : decide (97 ≤ (x.toNat : Int)) = false := decide_eq_false (by omega)
          have d1 : decide (48 ≤ (x.toNat : Int)) = false := decide_eq_false (by omega)
          have d2 : ((x.toNat : Int) == 46) = true := by rw [beq_iff_eq]; omega
          clear c1
          go_wp2_with fail
          go_round
          case rel => exact ⟨j + 1, by omega, by go_num, hnx⟩
          case measure => simp [intOf]; omega
        · have d0 : decide (97 ≤ (x.toNat : Int)) = false := decide_eq_false (by omega)
          have d1 : decide (48 ≤ (x.toNat : Int)) = true := decide_eq_true (by omega)
          have d2 : decide ((x.toNat : Int) ≤ 57) = false := decide_eq_false (by omega)
          have d3 : ((x.toNat : Int) == 46) = false := by rw [beq_eq_false_iff_ne]; omega
          have d4 : ((x.toNat : Int) == 95) = true := by rw [beq_iff_eq]; omega
          clear c1
          go_wp2_with fail
          go_round
          case rel => exact ⟨j + 1, by omega, by go_num, hnx⟩
          case measure => simp [intOf]; omega
        · have d0 : decide (97 ≤ (x.toNat : Int)) = false := decide_eq_false (by omega)
          have d1 : decide (48 ≤ (x.toNat : Int)) = false := decide_eq_false (by omega)
          have d2 : ((x.toNat : Int) == 46) = false := by rw [beq_eq_false_iff_ne]; omega
          have d3 : ((x.toNat : Int) == 95) = false := by rw [beq_eq_false_iff_ne]; omega
          have d4 : ((x.toNat : Int) == 45) = true := by rw [beq_iff_eq]; omega
          clear c1
          go_wp2_with fail
          go_round
          case rel => exact ⟨j + 1, by omega, by go_num, hnx⟩
          case measure => simp [intOf]; omega
      · have hfin : Hid (b = false) := by show _ = _; rw [← hb.out]; simp only [decide_eq_false_iff_not]; exact fun h => o (h.1 x hmem)
        clear hmem
        unfold okc at o
        have f1 : ((x.toNat : Int) == 46) = false := by rw [beq_eq_false_iff_ne]; omega
        have f2 : ((x.toNat : Int) == 95) = false := by rw [beq_eq_false_iff_ne]; omega
        have f3 : ((x.toNat : Int) == 45) = false := by rw [beq_eq_false_iff_ne]; omega
        rcases (by omega : x.toNat < 48 ∨ (57 < x.toNat ∧ x.toNat < 97) ∨ 122 < x.toNat) with c1 | ⟨c1, c2⟩ | c1
        · have d0 : decide (97 ≤ (x.toNat : Int)) = false := decide_eq_false (by omega)
          have d1 : decide (48 ≤ (x.toNat : Int)) = false := decide_eq_false (by omega)
          clear c1 o
          go_wp2_with fail
          go_ret
          exact ⟨ret_bool hfin.out.symm, rfl⟩
        · have d0 : decide (97 ≤ (x.toNat : Int)) = false := decide_eq_false (by omega)
          have d1 : decide (48 ≤ (x.toNat : Int)) = true := decide_eq_true (by omega)
          have d2 : decide ((x.toNat : Int) ≤ 57) = false := decide_eq_false (by omega)
          clear c1 c2 o
          go_wp2_with fail
          go_ret
          exact ⟨ret_bool hfin.out.symm, rfl⟩
        · have d0 : decide (97 ≤ (x.toNat : Int)) = true := decide_eq_true (by omega)
          have d1 : decide ((x.toNat : Int) ≤ 122) = false := decide_eq_false (by omega)
          have d2 : decide (48 ≤ (x.toNat : Int)) = true := decide_eq_true (by omega)
          have d3 : decide ((x.toNat : Int) ≤ 57) = false := decide_eq_false (by omega)
          clear c1 o
          go_wp2_with fail
          go_ret
          exact ⟨ret_bool hfin.out.symm, rfl⟩
    · obtain rfl : j = s.size := by omega
      have hall : Hid (∀ x ∈ l, okc x.toNat) := fun x hx => by
        obtain ⟨t, ht, e⟩ := mem_getD8 hx
        rw [← e]; exact hok.out t (by rw [hlen'.out] at ht; exact ht)
      have hsl : Hid (s.toList = l) := (ByteArray.toList_eq s).trans HL.out
      have hend : Hid (b = decide (l ≠ [] ∧ l ≠ [45] ∧ s.size ≤ 32)) := by
        show _ = _; rw [← hb.out]; congr 1; apply propext
        unfold word
        rw [hlen'.out]
        exact ⟨fun h => h.2, fun h => ⟨hall.out, h⟩⟩
      by_cases n0 : s.size = 0
      · have hfin : Hid (b = false) := by
          show _ = _; rw [hend.out, decide_eq_false_iff_not]
          exact fun h => h.1 (List.eq_nil_of_length_eq_zero (by rw [hlen'.out]; exact n0))
        have d0 : ¬ (0 : Int) < (s.size : Int) := by omega
        go_wp2_with fail
        go_ret
        exact ⟨ret_bool hfin.out.symm, rfl⟩
      have d0 : 0 < s.size := by omega
      by_cases n1 : 32 < s.size
      · have hfin : Hid (b = false) := by
          show _ = _; rw [hend.out, decide_eq_false_iff_not]
          exact fun h => absurd h.2.2 (by omega)
        have d1 : decide ((s.size : Int) < 33) = false := decide_eq_false (by omega)
        clear n1
        go_wp2_with fail
        go_ret
        exact ⟨ret_bool hfin.out.symm, rfl⟩
      have d1 : decide ((s.size : Int) < 33) = true := decide_eq_true (by omega)
      have hne : Hid (l ≠ []) := fun h => n0 (by rw [← hlen'.out, h]; rfl)
      by_cases e1 : s.toList = [45]
      · have hfin : Hid (b = false) := by
          show _ = _; rw [hend.out, decide_eq_false_iff_not]
          exact fun h => h.2.1 (hsl.out.symm.trans e1)
        have q1 : (s.toList == [45]) = true := beq_iff_eq.2 e1
        clear n1 e1
        go_wp2_with fail
        go_ret
        exact ⟨ret_bool hfin.out.symm, rfl⟩
      · have hfin : Hid (b = true) := by
          show _ = _; rw [hend.out, decide_eq_true_eq]
          exact ⟨hne.out, fun h => e1 (hsl.out.trans h), by omega⟩
        have q1 : (s.toList == [45]) = false := beq_eq_false_iff_ne.2 e1
        clear n1 e1
        go_wp2_with fail
        go_ret
        exact ⟨ret_bool hfin.out.symm, rfl⟩

theorem rfits_is (c : Int) (b : Bool) (hb : Hid (decide (amt c) = b)) (W : World) :
    Calls Try.prog 29 #[.int .i64 c] W fun e w' => e = .returned (.bool b) ∧ W = w' := by
  have h := hb.out
  clear hb
  unfold amt at h
  by_cases c0 : 0 ≤ c
  · have d0 : decide (0 ≤ c) = true := decide_eq_true c0
    have hf := Lib.hid fun W => ref_fits c b (by show _ = _; rw [← h]; congr 1; apply propext; constructor <;> intro h <;> omega) W
    clear h c0
    go_enter Try.func29, Try.ntmps29
    go_wp2_with (go_at_call 28; refine (hf.out _).mono ?_; rintro e w1 ⟨rfl, rfl⟩)
    go_ret
    exact ⟨rfl, rfl⟩
  · have d0 : decide (0 ≤ c) = false := decide_eq_false c0
    obtain rfl : b = false := by rw [← h]; exact decide_eq_false (by omega)
    clear h c0
    go_enter Try.func29, Try.ntmps29
    go_wp2_with fail
    go_ret
    exact ⟨rfl, rfl⟩

theorem rahead_is (x y : Ord) (b : Bool) (hb : Hid (Go.Proofs.Ytjfcbflhnfjcfaa.S.ahead x y = b)) (W : World) :
    Calls Try.prog 39 #[oval x, oval y] W fun e w' => e = .returned (.bool b) ∧ Below W.heap.size W w' := by
  obtain ⟨s, r, q, f, p, t⟩ := x
  obtain ⟨s', r', q', f', p', t'⟩ := y
  have hB := Lib.hid (balloc (balloc (Below.refl W.heap.size W) (.cells #[.string s, .int .i64 r, .int .i64 q, .int .i64 f, .int .i64 p, .int .i64 t] 43)) (.cells #[.string s', .int .i64 r', .int .i64 q', .int .i64 f', .int .i64 p', .int .i64 t'] 43))
  have h := hb.out
  clear hb
  unfold oval
  unfold Go.Proofs.Ytjfcbflhnfjcfaa.S.ahead at h
  simp only at h ⊢
  by_cases c1 : r < r'
  · have d1 : decide (r < r') = true := decide_eq_true c1
    rw [d1, Bool.true_or] at h
    subst h
    clear c1
    go_enter Try.func39, Try.ntmps39
    go_wp2_with fail
    go_ret
    exact ⟨rfl, hB.out⟩
  · have d1 : decide (r < r') = false := decide_eq_false c1
    rw [d1, Bool.false_or] at h
    by_cases c2 : r = r'
    · subst c2
      have d2 : (r == r) = true := by simp
      rw [decide_eq_true rfl, Bool.true_and] at h
      clear c1
      cases b with
      | true =>
        go_enter Try.func39, Try.ntmps39
        go_wp2_with fail
        go_ret
        exact ⟨rfl, hB.out⟩
      | false =>
        go_enter Try.func39, Try.ntmps39
        go_wp2_with fail
        go_ret
        exact ⟨rfl, hB.out⟩
    · have d2 : (r == r') = false := by rw [beq_eq_false_iff_ne]; exact c2
      rw [decide_eq_false c2, Bool.false_and] at h
      subst h
      clear c1
      go_enter Try.func39, Try.ntmps39
      go_wp2_with fail
      go_ret
      exact ⟨rfl, hB.out⟩

theorem rleft_is (w : Int) (x : Ord) (v : Int) (hv : Hid (leftP w x.total = v)) (W : World) (hw : I64 w) (hx : I64 x.total) :
    Calls Try.prog 23 #[.int .i64 w, oval x] W fun e w' => e = .returned (.int .i64 v) ∧ Below W.heap.size W w' := by
  obtain ⟨s, r, q, f, p, t⟩ := x
  have hB := Lib.hid (balloc (Below.refl W.heap.size W) (.cells #[.string s, .int .i64 r, .int .i64 q, .int .i64 f, .int .i64 p, .int .i64 t] 43))
  have h := hv.out
  clear hv
  unfold oval
  unfold leftP at h
  unfold I64 at hw hx
  simp only at h hw hx ⊢
  by_cases c0 : t = 0
  · rw [if_pos c0] at h
    subst c0 h
    by_cases cw : w < 0
    all_goals
      go_enter Try.func23, Try.ntmps23
      go_wp2_with fail
      go_ret
      exact ⟨rfl, hB.out⟩
  · rw [if_neg c0] at h
    have d0 : (t == 0) = false := by rw [beq_eq_false_iff_ne]; exact c0
    by_cases cw : w < 0
    · rw [if_pos cw] at h
      by_cases c1 : t < 0
      · rw [if_pos c1] at h
        subst h
        go_enter Try.func23, Try.ntmps23
        go_wp2_with fail
        go_ret
        exact ⟨rfl, hB.out⟩
      · rw [if_neg c1, Int.sub_zero] at h
        have e0 : IntKind.i64.wrap (t - 0) = t := by rw [Int.sub_zero]; exact IntWalk.i64_in _ (by omega)
        have e1 : IntKind.i64.wrap t = t := IntWalk.i64_in _ (by omega)
        by_cases c2 : 1125899906842624 < t
        · rw [if_pos c2] at h
          subst h
          go_enter Try.func23, Try.ntmps23
          go_wp2_with fail
          go_ret
          exact ⟨rfl, hB.out⟩
        · rw [if_neg c2] at h
          subst h
          go_enter Try.func23, Try.ntmps23
          go_wp2_with fail
          go_ret
          exact ⟨rfl, hB.out⟩
    · rw [if_neg cw] at h
      by_cases c1 : t < w
      · rw [if_pos c1] at h
        subst h
        go_enter Try.func23, Try.ntmps23
        go_wp2_with fail
        go_ret
        exact ⟨rfl, hB.out⟩
      · rw [if_neg c1] at h
        have e0 : IntKind.i64.wrap (t - w) = t - w := IntWalk.i64_in _ (by omega)
        by_cases c2 : 1125899906842624 < t - w
        · rw [if_pos c2] at h
          subst h
          go_enter Try.func23, Try.ntmps23
          go_wp2_with fail
          go_ret
          exact ⟨rfl, hB.out⟩
        · rw [if_neg c2] at h
          subst h
          go_enter Try.func23, Try.ntmps23
          go_wp2_with fail
          go_ret
          exact ⟨rfl, hB.out⟩

/-- The same orders. -/
theorem same_is (a b : Option Addr) (n ca cb : Nat) (c : Nat → Ord) (W : World) (ha : Lst 6 W a n (fun j => ocells (c j))) (hb : Lst 6 W b n (fun j => ocells (c j))) :
    Calls Try.prog 19 #[.slice a n ca, .slice b n cb] W fun e w' => e = .returned (.bool true) ∧ Below W.heap.size W w' := by
  have hn := ha.1
  have hgu : Try.prog.eqGuardType Try.prog.depth 43 = false := by kernel_rfl
  go_enter Try.func19, Try.ntmps19
  go_wp2_with fail
  go_loopw [5] (fun s5 wx => ∃ i : Nat, i ≤ n ∧ s5 = .int .i64 i ∧ Hid (Below W.heap.size W wx)) (fun s5 _ => n - (intOf s5).toNat)
  case atStart => exact ⟨0, Nat.zero_le _, rfl, Below.refl _ _⟩
  case round =>
    obtain ⟨i, hi, rfl, hbw⟩ := hrel
    by_cases ci : i < n
    · obtain ⟨b1, o1, rfl, hlt1, hc1⟩ := (ha.step hbw.out).at_ ci
      obtain ⟨b2, o2, rfl, hlt2, hc2⟩ := (hb.step hbw.out).at_ ci
      obtain ⟨⟨s, r, q, f, p, t⟩, hx⟩ : ∃ x, c i = x := ⟨_, rfl⟩
      rw [hx] at hc1 hc2
      have d0 := hc1 0 (.string s) rfl
      have d1 := hc1 1 (.int .i64 r) rfl
      have d2 := hc1 2 (.int .i64 q) rfl
      have d3 := hc1 3 (.int .i64 f) rfl
      have d4 := hc1 4 (.int .i64 p) rfl
      have d5 := hc1 5 (.int .i64 t) rfl
      have e0 := hc2 0 (.string s) rfl
      have e1 := hc2 1 (.int .i64 r) rfl
      have e2 := hc2 2 (.int .i64 q) rfl
      have e3 := hc2 3 (.int .i64 f) rfl
      have e4 := hc2 4 (.int .i64 p) rfl
      have e5 := hc2 5 (.int .i64 t) rfl
      rw [Nat.add_zero] at d0 e0
      have wi : IntKind.i64.wrap ((i : Int) + 1) = (i : Int) + 1 := IntWalk.i64_in _ (by omega)
      have z3 : (i : Int) < (n : Int) := by omega
      clear hc1 hc2 hx ha hb
      go_wp2_with fail
      go_quiet (fail)
      go_wp2_with fail
      go_roundw
      case rel => exact ⟨i + 1, by omega, by go_num, below_drewN hbw.out _⟩
      case measure => simp [intOf]; omega
    · obtain rfl : i = n := by omega
      go_wp2_with fail
      go_ret
      exact ⟨rfl, hbw.out⟩
end Go.Proofs.Ytjfcbflhnfjcfaa.W
