/- The walks of the document's answer for social: names, sums, schemes, a step, the room. -/
import Derived.Test.YtdmkjdlneadkcaaSocC
import Derived.Test.YtdmkjdlneadkcaaRef02
namespace Go.Proofs.Ytdmkjdlneadkcaa.W
open Go.RowKit Go.Proofs.Ytdmkjdlneadkcaa.M Go.Proofs.Ytdmkjdlneadkcaa.B Go.Proofs.Ytdmkjdlneadkcaa.S
set_option linter.unusedVariables false

theorem word_is (s : ByteArray) (b : Bool) (hb : Hid (decide (word s.data.toList) = b)) (w : World) (hs : s.size ≤ 9223372036854775807) :
    Calls Try.prog 19 #[.string s] w fun e w' => e = .returned (.bool b) ∧ w = w' := by
  have hG := Lib.hid (fun j h => getD_byte s j h)
  have hlen : s.data.toList.length = s.size := by simp
  generalize hl : s.data.toList = l at *
  have HL := Lib.hid hl
  clear hl
  have hlen' := Lib.hid hlen; clear hlen
  go_enter Try.func19, Try.ntmps19
  go_wp2_with fail
  go_loop [3] (fun s7 => ∃ j : Nat, j ≤ s.size ∧ s7 = .int .i64 j ∧ Hid (∀ i, i < j → okc (l.getD i 0).toNat)) (fun i => s.size - (intOf i).toNat)
  case atStart => exact ⟨0, Nat.zero_le _, rfl, fun i hi => absurd hi (by omega)⟩
  case round =>
    obtain ⟨j, hj, rfl, hok⟩ := hrel
    by_cases c : j < s.size
    · have hgj := hG.out j c
      have hmem := getD_mem8 (l := l) (t := j) (by rw [hlen'.out]; exact c)
      generalize hbb : l.getD j 0 = x at *
      have HB := Lib.hid hbb; clear hbb
      have hsj : s[j] = x := hgj.symm
      clear hgj
      have x256 : (x.toNat : Int) < 256 := by have := x.toNat_lt; omega
      have cj : (j : Int) < (s.size : Int) := by omega
      by_cases o : okc x.toNat
      · have hnx : Hid (∀ i, i < j + 1 → okc (l.getD i 0).toNat) := fun i hi => by
          by_cases e : i = j
          · subst e; rw [HB.out]; exact o
          · exact hok.out i (by omega)
        clear hmem
        have ho : Hid (okc x.toNat) := o
        clear o
        rcases ho.out with ⟨c1, c2⟩ | ⟨c1, c2⟩ | c1 | c1 | c1

        · have d0 : decide (97 ≤ (x.toNat : Int)) = true := decide_eq_true (by omega)
          have d1 : decide ((x.toNat : Int) ≤ 122) = true := decide_eq_true (by omega)
          clear c1 c2
          go_wp2_with fail
          go_round
          case rel => exact ⟨j + 1, by omega, by go_num, hnx⟩
          case measure => simp [intOf]; omega
        · have d0 : decide (97 ≤ (x.toNat : Int)) = false := decide_eq_false (by omega)
          have d1 : decide (48 ≤ (x.toNat : Int)) = true := decide_eq_true (by omega)
          have d2 : decide ((x.toNat : Int) ≤ 57) = true := decide_eq_true (by omega)
          clear c1 c2
          go_wp2_with fail
          go_round
          case rel => exact ⟨j + 1, by omega, by go_num, hnx⟩
          case measure => simp [intOf]; omega
        · have d0 : decide (97 ≤ (x.toNat : Int)) = false := decide_eq_false (by omega)
          have d1 : decide (48 ≤ (x.toNat : Int)) = false := decide_eq_false (by omega)
          have d2 : ((x.toNat : Int) == 46) = true := by rw [beq_iff_eq]; omega
          clear c1
          go_wp2_with fail
          go_round
          case rel => exact ⟨j + 1, by omega, by go_num, hnx⟩
          case measure => simp [intOf]; omega
        · have d0 : decide (97 ≤ (x.toNat : Int)) = false := decide_eq_false (by omega)
          have d1 : decide (48 ≤ (x.toNat : Int)) = true := decide_eq_true (by omega)
          have d2 : decide ((x.toNat : Int) ≤ 57) = false := decide_eq_false (by omega)
          have d3 : ((x.toNat : Int) == 46) = false := by rw [beq_eq_false_iff_ne]; omega
          have d4 : ((x.toNat : Int) == 95) = true := by rw [beq_iff_eq]; omega
          clear c1
          go_wp2_with fail
          go_round
          case rel => exact ⟨j + 1, by omega, by go_num, hnx⟩
          case measure => simp [intOf]; omega
        · have d0 : decide (97 ≤ (x.toNat : Int)) = false := decide_eq_false (by omega)
          have d1 : decide (48 ≤ (x.toNat : Int)) = false := decide_eq_false (by omega)
          have d2 : ((x.toNat : Int) == 46) = false := by rw [beq_eq_false_iff_ne]; omega
          have d3 : ((x.toNat : Int) == 95) = false := by rw [beq_eq_false_iff_ne]; omega
          have d4 : ((x.toNat : Int) == 45) = true := by rw [beq_iff_eq]; omega
          clear c1
          go_wp2_with fail
          go_round
          case rel => exact ⟨j + 1, by omega, by go_num, hnx⟩
          case measure => simp [intOf]; omega
      · have hfin : Hid (b = false) := by show _ = _; rw [← hb.out]; simp only [decide_eq_false_iff_not]; exact fun h => o (h.1 x hmem)
        clear hmem
        unfold okc at o
        have f1 : ((x.toNat : Int) == 46) = false := by rw [beq_eq_false_iff_ne]; omega
        have f2 : ((x.toNat : Int) == 95) = false := by rw [beq_eq_false_iff_ne]; omega
        have f3 : ((x.toNat : Int) == 45) = false := by rw [beq_eq_false_iff_ne]; omega
        rcases (by omega : x.toNat < 48 ∨ (57 < x.toNat ∧ x.toNat < 97) ∨ 122 < x.toNat) with c1 | ⟨c1, c2⟩ | c1
        · have d0 : decide (97 ≤ (x.toNat : Int)) = false := decide_eq_false (by omega)
          have d1 : decide (48 ≤ (x.toNat : Int)) = false := decide_eq_false (by omega)
          clear c1 o
          go_wp2_with fail
          go_ret
          exact ⟨ret_bool hfin.out.symm, rfl⟩
        · have d0 : decide (97 ≤ (x.toNat : Int)) = false := decide_eq_false (by omega)
          have d1 : decide (48 ≤ (x.toNat : Int)) = true := decide_eq_true (by omega)
          have d2 : decide ((x.toNat : Int) ≤ 57) = false := decide_eq_false (by omega)
          clear c1 c2 o
          go_wp2_with fail
          go_ret
          exact ⟨ret_bool hfin.out.symm, rfl⟩
        · have d0 : decide (97 ≤ (x.toNat : Int)) = true := decide_eq_true (by omega)
          have d1 : decide ((x.toNat : Int) ≤ 122) = false := decide_eq_false (by omega)
          have d2 : decide (48 ≤ (x.toNat : Int)) = true := decide_eq_true (by omega)
          have d3 : decide ((x.toNat : Int) ≤ 57) = false := decide_eq_false (by omega)
          clear c1 o
          go_wp2_with fail
          go_ret
          exact ⟨ret_bool hfin.out.symm, rfl⟩
    · obtain rfl : j = s.size := by omega
      have hall : Hid (∀ x ∈ l, okc x.toNat) := fun x hx => by
        obtain ⟨t, ht, e⟩ := mem_getD8 hx
        rw [← e]; exact hok.out t (by rw [hlen'.out] at ht; exact ht)
      have hsl : Hid (s.toList = l) := (ByteArray.toList_eq s).trans HL.out
      have hend : Hid (b = decide (l ≠ [] ∧ l ≠ [45] ∧ s.size ≤ 32)) := by
        show _ = _; rw [← hb.out]; congr 1; apply propext
        unfold word
        rw [hlen'.out]
        exact ⟨fun h => h.2, fun h => ⟨hall.out, h⟩⟩
      by_cases n0 : s.size = 0
      · have hfin : Hid (b = false) := by
          show _ = _; rw [hend.out, decide_eq_false_iff_not]
          exact fun h => h.1 (List.eq_nil_of_length_eq_zero (by rw [hlen'.out]; exact n0))
        have d0 : ¬ (0 : Int) < (s.size : Int) := by omega
        go_wp2_with fail
        go_ret
        exact ⟨ret_bool hfin.out.symm, rfl⟩
      have d0 : 0 < s.size := by omega
      by_cases n1 : 32 < s.size
      · have hfin : Hid (b = false) := by
          show _ = _; rw [hend.out, decide_eq_false_iff_not]
          exact fun h => absurd h.2.2 (by omega)
        have d1 : decide ((s.size : Int) < 33) = false := decide_eq_false (by omega)
        clear n1
        go_wp2_with fail
        go_ret
        exact ⟨ret_bool hfin.out.symm, rfl⟩
      have d1 : decide ((s.size : Int) < 33) = true := decide_eq_true (by omega)
      have hne : Hid (l ≠ []) := fun h => n0 (by rw [← hlen'.out, h]; rfl)
      by_cases e1 : s.toList = [45]
      · have hfin : Hid (b = false) := by
          show _ = _; rw [hend.out, decide_eq_false_iff_not]
          exact fun h => h.2.1 (hsl.out.symm.trans e1)
        have q1 : (s.toList == [45]) = true := beq_iff_eq.2 e1
        clear n1 e1
        go_wp2_with fail
        go_ret
        exact ⟨ret_bool hfin.out.symm, rfl⟩
      · have hfin : Hid (b = true) := by
          show _ = _; rw [hend.out, decide_eq_true_eq]
          exact ⟨hne.out, fun h => e1 (hsl.out.trans h), by omega⟩
        have q1 : (s.toList == [45]) = false := beq_eq_false_iff_ne.2 e1
        clear n1 e1
        go_wp2_with fail
        go_ret
        exact ⟨ret_bool hfin.out.symm, rfl⟩

theorem rfits_is (c : Int) (b : Bool) (hb : Hid (decide (amt c) = b)) (W : World) :
    Calls Try.prog 35 #[.int .i64 c] W fun e w' => e = .returned (.bool b) ∧ W = w' := by
  have h := hb.out
  clear hb
  unfold amt at h
  by_cases c0 : 0 ≤ c
  · have d0 : decide (0 ≤ c) = true := decide_eq_true c0
    have hf := Lib.hid fun W => ref_fits c b (by show _ = _; rw [← h]; congr 1; apply propext; constructor <;> intro h <;> omega) W
    clear h c0
    go_enter Try.func35, Try.ntmps35
    go_wp2_with (go_at_call 27; refine (hf.out _).mono ?_; rintro e w1 ⟨rfl, rfl⟩)
    go_ret
    exact ⟨rfl, rfl⟩
  · have d0 : decide (0 ≤ c) = false := decide_eq_false c0
    obtain rfl : b = false := by rw [← h]; exact decide_eq_false (by omega)
    clear h c0
    go_enter Try.func35, Try.ntmps35
    go_wp2_with fail
    go_ret
    exact ⟨rfl, rfl⟩
theorem rpart_is (r : Int) (b : Bool) (hb : Hid (decide (0 ≤ r ∧ r ≤ 1000000) = b)) (W : World) :
    Calls Try.prog 36 #[.int .i64 r] W fun e w' => e = .returned (.bool b) ∧ W = w' := by
  have h := hb.out
  clear hb
  by_cases c0 : 0 ≤ r
  · have d0 : decide (0 ≤ r) = true := decide_eq_true c0
    have h2 : decide (r ≤ 1000000) = b := by rw [← h]; congr 1; apply propext; constructor <;> intro h <;> omega
    clear h c0
    go_enter Try.func36, Try.ntmps36
    go_wp2_with fail
    go_ret
    exact ⟨rfl, rfl⟩
  · have d0 : decide (0 ≤ r) = false := decide_eq_false c0
    obtain rfl : b = false := by rw [← h]; exact decide_eq_false (by omega)
    clear h c0
    go_enter Try.func36, Try.ntmps36
    go_wp2_with fail
    go_ret
    exact ⟨rfl, rfl⟩
end Go.Proofs.Ytdmkjdlneadkcaa.W
