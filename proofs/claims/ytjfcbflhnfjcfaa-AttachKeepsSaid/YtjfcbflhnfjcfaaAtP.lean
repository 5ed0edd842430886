/- The walk of AttachKeeps. -/
import Derived.Test.YtjfcbflhnfjcfaaAtM
namespace Go.Proofs.Ytjfcbflhnfjcfaa.W
open Go.RowKit Go.Proofs.Ytjfcbflhnfjcfaa.M Go.Proofs.Ytjfcbflhnfjcfaa.B Go.Proofs.Ytjfcbflhnfjcfaa.S
open Go.Maps (Keyed)
set_option linter.unusedVariables false

set_option maxRecDepth 100000 in
set_option maxHeartbeats 8000000 in
theorem attachKeeps (net : Int) (a : Option Addr) (n cap : Nat) (S : Nat → Ord) (W : World) (hnt : I64 net) (hl : Lst 6 W a n (fun j => ocells (S j))) (hS : ∀ j, j < n → okO (S j)) (hnil : a = none → n = 0 ∧ cap = 0) :
    Calls Try.prog 5 #[.int .i64 net, .slice a n cap] W fun e w' => e = .returned (.bool true) ∧ Below W.heap.size W w' := by
  have HA := Lib.hid (awake_is W)
  have HT := Lib.hid (fun (w : World) h (hn : n ≤ 1000) => take_nil net a n cap S w h hnil hS hnt hn)
  have HSo := Lib.hid (fun (w : World) h (hn : n ≤ 1000) => sort_is S a n cap w h hnil hn)
  have HSh := Lib.hid (fun (w : World) h => short_is a n cap 60 S w h (by omega))
  have hTE : Hid (takeErr net gN S n = 0 → fit net ∧ check S n = 0 ∧ terr net gN (srvO S n) n = 0) := fun h => by
    by_cases hf : fit net
    · by_cases hc : check S n = 0
      · exact ⟨hf, hc, (takeErr_run hf hc).symm.trans h⟩
      · rw [takeErr_chk hf hc] at h; exact absurd h hc
    · rw [takeErr_net hf] at h; omega
  have HLL := Lib.hid hl
  have HSS := Lib.hid hS
  clear hl hS hnil
  go_enter Try.func5, Try.ntmps5
  go_wp2_with fail
  refine HA.out.mono ?_
  rintro e w1 ⟨rfl, hb1⟩
  go_wp2_with fail
  refine (HSh.out _ (HLL.out.step hb1)).mono ?_
  rintro e w2 ⟨rfl, rfl | ⟨rfl, hn60, h300⟩⟩
  · go_wp2_with fail
    go_ret
    exact ⟨rfl, hb1⟩
  · have hn : n ≤ 1000 := by omega
    go_wp2_with fail
    refine (HT.out _ (HLL.out.step hb1) hn).mono ?_
    rintro e w3 ⟨hb3, h3⟩
    have hB3 := bstep hb1 hb3
    by_cases te : takeErr net gN S n = 0
    · rw [if_pos te] at h3
      obtain ⟨v, b, N, rfl, hbl, hown, hmp, hN⟩ := h3
      obtain ⟨t1, t2, t3⟩ := hTE.out te
      obtain ⟨q1, q2, q3, q4⟩ := check_right t2
      have hap := apart_srv q2
      have hil := itemsK_len net gN (srvO S n) n
      obtain ⟨a1, cap1, rfl, hl1⟩ := ownL_lst hown (by omega) (cA, 0)
      clear hown hmp hN hbl te HT HSh HA hTE
      by_cases cn : net ≤ 0
      · have h0 : itemsK net gN (srvO S n) n = [] := items_none n (fun k hk => take_none cn k (protK t2 (Nat.le_refl n) k hk))
        rw [h0] at hl1
        have hlen : (itemsK net gN (srvO S n) n).length = 0 := by rw [h0]; rfl
        rw [hlen]
        clear hl1
        go_wp2_with fail
        go_ret
        exact ⟨rfl, hB3⟩
      · go_wp2_with fail
        refine (HSo.out _ (HLL.out.step hB3) hn).mono ?_
        rintro e w4 ⟨a4, cap4, rfl, hl4, _, _, _, _, hb4⟩
        have hB4 := Lib.hid (bstep hB3 hb4)
        have hl1' := hl1.step hb4
        clear hl1 hb4 hB3 hb1 hb3 HSo HLL
        obtain ⟨M, hM⟩ : ∃ M, (itemsK net gN (srvO S n) n).length = M := ⟨_, rfl⟩
        rw [hM] at hl1' hil ⊢
        have hMM := Lib.hid hM
        clear hM
        go_wp2_with fail
        go_loopw [9, 10, 11] (fun s9 s10 s11 wx => ∃ (i m : Nat), i ≤ n ∧ s11 = .int .i64 i ∧ s10 = .int .i64 m ∧ s9 = .int .i64 (leftK net gN (srvO S n) i) ∧ Hid ((itemsK net gN (srvO S n) i).length = m) ∧ Hid (Below w4.heap.size w4 wx)) (fun _ _ s11 _ => n - (intOf s11).toNat)
        case atStart => exact ⟨0, 0, Nat.zero_le _, rfl, rfl, rfl, rfl, Below.refl _ _⟩
        case round =>
          obtain ⟨i, m, hi, rfl, rfl, rfl, hm, hbw⟩ := hrel
          by_cases ci : i < n
          · have hrg := frK (net := net) t2 i ci
            have hlf := leftK_fit (net := net) (g := gN) t1 i (protK t2 (Nat.le_of_lt ci))
            have htn := takeK_nonneg (net := net) (g := gN) (O := srvO S n) i
            have hml := itemsK_len net gN (srvO S n) i
            rw [hm.out] at hml
            have hle : leftK net gN (srvO S n) (i + 1) = leftK net gN (srvO S n) i - takeK net gN (srvO S n) i := rfl
            by_cases tk : 0 < takeK net gN (srvO S n) i
            · have hat := items_at (net := net) (g := gN) (O := srvO S n) ci tk
              have hlv := take_leaves (net := net) (g := gN) (O := srvO S n) i tk
              have hnx := Lib.hid ((items_next (net := net) (g := gN) (O := srvO S n) tk).trans (by rw [hm.out]))
              rw [hm.out] at hat
              have hmM : m < M := by rw [← hMM.out]; exact (List.getElem?_eq_some_iff.1 hat).1
              obtain ⟨b1, o1, rfl, hlt1, hc1⟩ := (hl1'.step hbw.out).at_ hmM
              obtain ⟨b4, o4, rfl, hlt4, hc4⟩ := (hl4.step hbw.out).at_ ci
              have hgd : (itemsK net gN (srvO S n) n).getD m (cA, 0) = ((srvO S n i).code, takeK net gN (srvO S n) i) := by rw [List.getD_eq_getElem?_getD, hat]; rfl
              rw [hgd] at hc1
              have d0 := hc1 0 (.string (srvO S n i).code) rfl
              have d1 := hc1 1 (.int .i64 (takeK net gN (srvO S n) i)) rfl
              have e0 := hc4 0 (.string (srvO S n i).code) rfl
              have e4 := hc4 4 (.int .i64 (srvO S n i).prot) rfl
              rw [Nat.add_zero] at d0 e0
              obtain ⟨_, _, _, _, _, ⟨p0, p1⟩, _⟩ := hrg
              clear hc1 hc4 hgd hat hl1' hl4
              have hLE := Lib.hid hle
              rw [hle] at hlv
              generalize (srvO S n i).code = s at *
              generalize (srvO S n i).prot = p at *
              generalize takeK net gN (srvO S n) i = c at *
              generalize leftK net gN (srvO S n) i = lf at *
              unfold fit at hlf t1
              have wl : IntKind.i64.wrap (lf - c) = lf - c := IntWalk.i64_in _ (by omega)
              have wm : IntKind.i64.wrap ((m : Int) + 1) = (m : Int) + 1 := IntWalk.i64_in _ (by omega)
              have wi : IntKind.i64.wrap ((i : Int) + 1) = (i : Int) + 1 := IntWalk.i64_in _ (by omega)
              have z1 : ¬ (M : Int) ≤ (m : Int) := by omega
              have z2 : (m : Int) < (M : Int) := by omega
              have z3 : (i : Int) < (n : Int) := by omega
              have z4 : ¬ c ≤ 0 := by omega
              have z5 : ¬ lf - c < p := by omega
              have z6 : ¬ lf - c < 0 := by omega
              clear hle hlv
              go_wp2_with fail
              go_quiet (fail)
              go_wp2_with fail
              go_roundw
              case rel => exact ⟨i + 1, m + 1, by omega, by go_num, by go_num, by rw [hLE.out], hnx, below_drewN hbw.out _⟩
              case measure => simp [intOf]; omega
            · have tk0 : takeK net gN (srvO S n) i = 0 := by omega
              have hsame := items_same (net := net) (g := gN) (O := srvO S n) tk0
              have hnx : Hid ((itemsK net gN (srvO S n) (i + 1)).length = m) := by show _ = _; rw [hsame]; exact hm.out
              have hLE : Hid (leftK net gN (srvO S n) (i + 1) = leftK net gN (srvO S n) i) := by show _ = _; rw [hle, tk0, Int.sub_zero]
              have wi : IntKind.i64.wrap ((i : Int) + 1) = (i : Int) + 1 := IntWalk.i64_in _ (by omega)
              have z3 : (i : Int) < (n : Int) := by omega
              by_cases cm : m < M
              · obtain ⟨b1, o1, rfl, hlt1, hc1⟩ := (hl1'.step hbw.out).at_ cm
                obtain ⟨b4, o4, rfl, hlt4, hc4⟩ := (hl4.step hbw.out).at_ ci
                have hgt : (itemsK net gN (srvO S n) n)[m]? = some ((itemsK net gN (srvO S n) n).getD m (cA, 0)) := by
                  have hlt : m < (itemsK net gN (srvO S n) n).length := by rw [hMM.out]; exact cm
                  rw [List.getD_eq_getElem?_getD, List.getElem?_eq_getElem hlt]; rfl
                have hne := items_skip hap ci tk0 _ (by rw [hm.out]; exact hgt)
                have d0 := hc1 0 (.string ((itemsK net gN (srvO S n) n).getD m (cA, 0)).1) rfl
                have e0 := hc4 0 (.string (srvO S n i).code) rfl
                rw [Nat.add_zero] at d0 e0
                clear hc1 hc4 hgt hl1' hl4 hsame hle tk0 tk
                generalize ((itemsK net gN (srvO S n) n).getD m (cA, 0)).1 = s' at *
                generalize (srvO S n i).code = s at *
                have hbn : (s'.toList == s.toList) = false := str_ne hne
                have z1 : ¬ (M : Int) ≤ (m : Int) := by omega
                have z2 : (m : Int) < (M : Int) := by omega
                clear hne
                go_wp2_with fail
                go_quiet (fail)
                go_wp2_with fail
                go_roundw
                case rel => exact ⟨i + 1, m, by omega, by go_num, rfl, by rw [hLE.out], hnx, below_drewN hbw.out _⟩
                case measure => simp [intOf]; omega
              · have z1 : (M : Int) ≤ (m : Int) := by omega
                clear hl1' hl4 hsame hle tk0 tk
                go_wp2_with fail
                go_quiet (fail)
                go_wp2_with fail
                go_roundw
                case rel => exact ⟨i + 1, m, by omega, by go_num, rfl, by rw [hLE.out], hnx, below_drewN hbw.out _⟩
                case measure => simp [intOf]; omega
          · obtain rfl : i = n := by omega
            have hmm : Hid (m = M) := hm.out.symm.trans hMM.out
            go_wp2_with fail
            go_ret
            exact ⟨by rw [hmm.out]; simp, bstep hB4.out hbw.out⟩
    · rw [if_neg te] at h3
      subst h3
      have hte' : (takeErr net gN S n != 0) = true := by rw [bne_iff_ne]; exact te
      generalize takeErr net gN S n = er at *
      go_wp2_with fail
      go_ret
      exact ⟨rfl, hB3⟩
end Go.Proofs.Ytjfcbflhnfjcfaa.W
