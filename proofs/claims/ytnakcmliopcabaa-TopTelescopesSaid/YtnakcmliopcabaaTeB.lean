/- The walks of slip: whether it is right, its sums. -/
import Derived.Test.YtnakcmliopcabaaTeA
import Derived.Deep.DeepCutAuto
import Derived.Deep.RegionHeld3
namespace Go.Proofs.Ytnakcmliopcabaa.W
open Go.RowKit Go.Proofs.Ytnakcmliopcabaa.M Go.Proofs.Ytnakcmliopcabaa.S
set_option linter.unusedVariables false

/-- A slip of the period 2026/1. -/
def sv (a : Option Addr) (n cap : Nat) : Value := .agg #[.int .i64 2026, .int .i64 1, .slice a n cap]
def BB : Int := 1099511627776
theorem lst_line {T : Nat → Int} {W : World} {a : Option Addr} (hl : Lst 3 W a (ln T) (lcs T)) {q : Nat} (hq : q < ln T) : ∃ b o, a = some ⟨b, o, none⟩ ∧ b < W.heap.size ∧ W.cell? ⟨b, o + q * 3, none⟩ = some (.int .i64 (prt (at_ T q))) ∧ W.cell? ⟨b, o + q * 3 + 1, none⟩ = some (.string (cod (at_ T q))) ∧ W.cell? ⟨b, o + q * 3 + 2, none⟩ = some (.int .i64 (T (at_ T q))) := by
  obtain ⟨b, o, rfl, hlt, hc⟩ := hl.at_ hq
  exact ⟨b, o, rfl, hlt, hc 0 _ rfl, hc 1 _ rfl, hc 2 _ rfl⟩

set_option maxRecDepth 100000 in
set_option maxHeartbeats 4000000 in
theorem scheck_is (T : Nat → Int) (hT : small BB T) (a : Option Addr) (cap : Nat) (W : World) (hl : Lst 3 W a (ln T) (lcs T)) : Calls Try.prog 16 #[sv a (ln T) cap] W fun e w' => e = .returned (.int .i64 0) ∧ Below W.heap.size W w' := by
  have hB0 := Lib.hid (balloc (Below.refl W.heap.size W) (.cells #[.int .i64 2026, .int .i64 1, .slice a (ln T) cap] 29))
  have hn28 := ln_le T
  have c2 : (W.alloc (.cells #[.int .i64 2026, .int .i64 1, .slice a (ln T) cap] 29)).cell? ⟨W.heap.size, 2, none⟩ = some (.slice a (ln T) cap) := by simp
  have hlt : W.heap.size < (W.alloc (.cells #[.int .i64 2026, .int .i64 1, .slice a (ln T) cap] 29)).heap.size := by simp
  have HL := Lib.hid hl
  have HT := Lib.hid hT
  have HIN := Lib.hid (fun q h => at_in (T := T) (q := q) h)
  have HUP := Lib.hid (fun p q h hq => at_up (T := T) (p := p) (q := q) h hq)
  obtain ⟨N, hN⟩ : ∃ N, ln T = N := ⟨_, rfl⟩
  have HLI := Lib.hid (fun (w : World) (h : Lst 3 w a (ln T) (lcs T)) q hq => lst_line h (q := q) hq)
  rw [hN] at hn28 c2 hlt HL HIN HUP HLI hB0 ⊢
  have hN64 : ¬ (448 : Int) < (N : Int) := by omega
  have HC2 := Lib.hid c2
  have HLT := Lib.hid hlt
  clear hl hT hN c2 hlt
  unfold sv
  go_enter Try.func16, Try.ntmps16
  go_wp2_with fail
  generalize hU : W.alloc (.cells #[.int .i64 2026, .int .i64 1, .slice a N cap] 29) = U at *
  clear hU
  obtain ⟨P, hP⟩ : ∃ P, W.heap.size = P := ⟨_, rfl⟩
  rw [hP] at HC2 HLT ⊢
  clear hP
  go_loopw [32] (fun s32 wx => ∃ q : Nat, q ≤ N ∧ s32 = .int .i64 q ∧ Hid (Below U.heap.size U wx)) (fun s32 _ => N - (intOf s32).toNat)
  case atStart => exact ⟨0, Nat.zero_le _, rfl, Below.refl _ _⟩
  case round =>
    obtain ⟨q, hq, rfl, hbw⟩ := hrel
    have hBw := Lib.hid (bstep hB0.out hbw.out)
    by_cases cq : q < N
    · have cq' : (q : Int) < (N : Int) := by omega
      obtain ⟨b1, o1, rfl, hlt1, d0, d1, d2⟩ := HLI.out wr (HL.out.step hBw.out) q cq
      obtain ⟨hi28, hne⟩ := HIN.out q cq
      have hsm := HT.out _ hi28
      have HLN := Lib.hid (fun w => line_is (at_ T q) (T (at_ T q)) hi28 hne (by unfold fit; unfold BB at hsm; omega) w)
      have wq : IntKind.i64.wrap ((q : Int) + 1) = (q : Int) + 1 := IntWalk.i64_in _ (by omega)
      have hBA := Lib.hid (balloc (Below.refl wr.heap.size wr) (.cells #[.int .i64 (prt (at_ T q)), .string (cod (at_ T q)), .int .i64 (T (at_ T q))] 45))
      have hPw : P < wr.heap.size := Nat.lt_of_lt_of_le HLT.out hbw.out.size
      have c2 := bc hbw.out HLT.out HC2.out
      unfold lv at HLN
      by_cases q0 : q = 0
      · have z0 : ((q : Int) == 0) = true := by rw [beq_iff_eq]; omega
        have hz : Hid (Below U.heap.size U (wr.alloc (.cells #[.int .i64 (prt (at_ T q)), .string (cod (at_ T q)), .int .i64 (T (at_ T q))] 45))) := bstep hbw.out hBA.out
        clear hsm q0
        generalize prt (at_ T q) = p at *
        generalize cod (at_ T q) = s at *
        generalize T (at_ T q) = c at *
        go_wp2_with fail
        refine (HLN.out _).mono ?_
        rintro e w3 ⟨rfl, hb3⟩
        have hz3 := Lib.hid (bstep hz.out hb3)
        clear hb3
        go_wp2_with fail
        go_roundw
        case rel => exact ⟨q + 1, by omega, by go_num, hz3.out⟩
        case measure => simp [intOf]; omega
      · obtain ⟨m, hm⟩ : ∃ m, q = m + 1 := ⟨q - 1, by omega⟩
        have z0 : ((q : Int) == 0) = false := by rw [beq_eq_false_iff_ne]; omega
        have wm : IntKind.i64.wrap ((q : Int) - 1) = (m : Int) := by rw [IntWalk.i64_in _ (by omega)]; omega
        obtain ⟨b2, o2, he2, hlt2, e0, e1, e2⟩ := HLI.out wr (HL.out.step hBw.out) m (by omega)
        injection he2 with he2
        injection he2 with he21 he22
        subst he21 he22
        have hup := HUP.out m q (by omega) cq
        have HLS := Lib.hid (fun w => less_is (at_ T m) (at_ T q) (T (at_ T m)) (T (at_ T q)) true (decide_eq_true hup) w)
        have hns := num_same (i := at_ T m) (j := at_ T q)
        have hcs := cdB_same (a := at_ T m % 4) (b := at_ T q % 4) (by omega) (by omega)
        change ((cod (at_ T m)).toList == (cod (at_ T q)).toList) = _ at hcs
        have hqm : (m : Int) < (N : Int) := by omega
        have hm0 : (0 : Int) ≤ (m : Int) := by omega
        have hsame : prt (at_ T m) = prt (at_ T q) → ((cod (at_ T m)).toList == (cod (at_ T q)).toList) = false := fun h => by
          rw [hcs]
          refine decide_eq_false (fun hh => ?_)
          have := hns.2 ⟨h, hh⟩
          omega
        unfold lv at HLS
        have HA1 := Lib.hid (fun w => balloc (Below.refl w.heap.size w) (.cells #[.int .i64 (prt (at_ T m)), .string (cod (at_ T m)), .int .i64 (T (at_ T m))] 45))
        clear hsm q0 hm hns hcs hup hne hi28
        generalize prt (at_ T q) = p at *
        generalize cod (at_ T q) = s at *
        generalize T (at_ T q) = c at *
        generalize prt (at_ T m) = p' at *
        generalize cod (at_ T m) = s' at *
        generalize T (at_ T m) = c' at *
        have hz : Hid (Below U.heap.size U (wr.alloc (.cells #[.int .i64 p, .string s, .int .i64 c] 45))) := bstep hbw.out hBA.out
        have g0 : (wr.alloc (.cells #[.int .i64 p, .string s, .int .i64 c] 45)).cell? ⟨wr.heap.size, 0, none⟩ = some (.int .i64 p) := by simp
        have g1 : (wr.alloc (.cells #[.int .i64 p, .string s, .int .i64 c] 45)).cell? ⟨wr.heap.size, 1, none⟩ = some (.string s) := by simp
        have g2 : (wr.alloc (.cells #[.int .i64 p, .string s, .int .i64 c] 45)).cell? ⟨wr.heap.size, 2, none⟩ = some (.int .i64 c) := by simp
        have hgl : wr.heap.size < (wr.alloc (.cells #[.int .i64 p, .string s, .int .i64 c] 45)).heap.size := by simp
        have HG := Lib.hid (And.intro g0 (And.intro g1 (And.intro g2 hgl)))
        clear g0 g1 g2 hgl
        go_wp2_with fail
        refine (HLN.out _).mono ?_
        rintro e w3 ⟨rfl, hb3⟩
        have hz3 := Lib.hid (bstep hz.out hb3)
        have hbx := bstep hBA.out hb3
        have c2 := bc hbx hPw c2
        have e0 := bc hbx hlt2 e0
        have e1 := bc hbx hlt2 e1
        have e2 := bc hbx hlt2 e2
        have g0 := bc hb3 HG.out.2.2.2 HG.out.1
        have g1 := bc hb3 HG.out.2.2.2 HG.out.2.1
        have g2 := bc hb3 HG.out.2.2.2 HG.out.2.2.1
        have hgl : wr.heap.size < w3.heap.size := Nat.lt_of_lt_of_le HG.out.2.2.2 hb3.size
        clear hb3 hbx d0 d1 d2 hBA hz
        generalize wr.heap.size = Q at *
        have hz4 := Lib.hid (bstep hz3.out (HA1.out w3))
        by_cases cp : p' = p
        · subst cp
          have hsf := hsame rfl
          have hpp : (p' == p') = true := by simp
          clear hsame
          go_wp2_with fail
          refine (HLS.out _).mono ?_
          rintro e w5 ⟨rfl, hb5⟩
          have hz5 := Lib.hid (bstep hz4.out hb5)
          clear hb5
          go_wp2_with fail
          go_roundw
          case rel => exact ⟨q + 1, by omega, by go_num, hz5.out⟩
          case measure => simp [intOf]; omega
        · have hpp : (p' == p) = false := by rw [beq_eq_false_iff_ne]; exact cp
          clear hsame cp
          go_wp2_with fail
          refine (HLS.out _).mono ?_
          rintro e w5 ⟨rfl, hb5⟩
          have hz5 := Lib.hid (bstep hz4.out hb5)
          clear hb5
          go_wp2_with fail
          go_roundw
          case rel => exact ⟨q + 1, by omega, by go_num, hz5.out⟩
          case measure => simp [intOf]; omega
    · obtain rfl : q = N := by omega
      have cq' : ¬ (q : Int) < (q : Int) := by omega
      go_wp2_with fail
      go_ret
      exact ⟨rfl, hBw.out⟩
set_option maxRecDepth 100000 in
theorem ssum_is (T : Nat → Int) (hT : small BB T) (a : Option Addr) (cap : Nat) (lo hi : Int) (W : World) (hl : Lst 3 W a (ln T) (lcs T)) : Calls Try.prog 28 #[sv a (ln T) cap, .int .i64 lo, .int .i64 hi] W fun e w' => e = .returned (.int .i64 (tsum T lo hi 28)) ∧ Below W.heap.size W w' := by
  have hB0 := Lib.hid (balloc (Below.refl W.heap.size W) (.cells #[.int .i64 2026, .int .i64 1, .slice a (ln T) cap] 29))
  have hn28 := ln_le T
  have HL := Lib.hid hl
  have HIN := Lib.hid (fun q h => at_in (T := T) (q := q) h)
  have HPB := Lib.hid (fun q h => psum_bd hT (by unfold BB; omega) lo hi q h)
  have HPN := Lib.hid (fun q h => psum_next (T := T) lo hi (q := q) h)
  have HPA : Hid (psum T lo hi (ln T) = tsum T lo hi 28) := psum_all T lo hi
  have HP0 : Hid (psum T lo hi 0 = 0) := psum_zero T lo hi
  have HLI := Lib.hid (fun (w : World) (h : Lst 3 w a (ln T) (lcs T)) q hq => lst_line h (q := q) hq)
  obtain ⟨N, hN⟩ : ∃ N, ln T = N := ⟨_, rfl⟩
  obtain ⟨R, hR⟩ : ∃ R, tsum T lo hi 28 = R := ⟨_, rfl⟩
  rw [hN] at hn28 HL HIN HPB HPN HPA HLI hB0 ⊢
  rw [hR] at HPA ⊢
  clear hl hT hN hR
  unfold sv
  go_enter Try.func28, Try.ntmps28
  go_wp2_with fail
  generalize hU : W.alloc (.cells #[.int .i64 2026, .int .i64 1, .slice a N cap] 29) = U at *
  clear hU
  go_loopw [7, 13] (fun s7 s13 wx => ∃ (q : Nat) (v : Int), q ≤ N ∧ s13 = .int .i64 q ∧ s7 = .int .i64 v ∧ Hid (psum T lo hi q = v) ∧ Hid (Below U.heap.size U wx)) (fun _ s13 _ => N - (intOf s13).toNat)
  case atStart => exact ⟨0, 0, Nat.zero_le _, rfl, rfl, HP0.out, Below.refl _ _⟩
  case round =>
    obtain ⟨q, v, hq, rfl, rfl, hv, hbw⟩ := hrel
    have hBw := Lib.hid (bstep hB0.out hbw.out)
    by_cases cq : q < N
    · have cq' : (q : Int) < (N : Int) := by omega
      obtain ⟨b1, o1, rfl, hlt1, d0, d1, d2⟩ := HLI.out wr (HL.out.step hBw.out) q cq
      have hpn := HPN.out q cq
      have hpb := HPB.out (q + 1) (by omega)
      have wq : IntKind.i64.wrap ((q : Int) + 1) = (q : Int) + 1 := IntWalk.i64_in _ (by omega)
      have hBA := Lib.hid (bstep hbw.out (balloc (Below.refl wr.heap.size wr) (.cells #[.int .i64 (prt (at_ T q)), .string (cod (at_ T q)), .int .i64 (T (at_ T q))] 45)))
      rw [hv.out] at hpn
      unfold BB at hpb
      by_cases c : inP lo hi (at_ T q)
      · rw [if_pos c] at hpn
        have wv : IntKind.i64.wrap (v + T (at_ T q)) = v + T (at_ T q) := IntWalk.i64_in _ (by omega)
        have hnx := Lib.hid hpn
        obtain ⟨c0, c1⟩ := c
        have f0 : decide (lo ≤ prt (at_ T q)) = true := decide_eq_true c0
        have f1 : decide (prt (at_ T q) ≤ hi) = true := decide_eq_true c1
        clear hpn hpb c0 c1
        generalize prt (at_ T q) = p at *
        generalize cod (at_ T q) = s at *
        generalize T (at_ T q) = c at *
        go_wp2_with fail
        go_roundw
        case rel => exact ⟨q + 1, v + c, by omega, by go_num, rfl, hnx.out, hBA.out⟩
        case measure => simp [intOf]; omega
      · rw [if_neg c, Int.add_zero] at hpn
        unfold inP at c
        have hnx := Lib.hid hpn
        by_cases c0 : lo ≤ prt (at_ T q)
        · have f0 : decide (lo ≤ prt (at_ T q)) = true := decide_eq_true c0
          have f1 : decide (prt (at_ T q) ≤ hi) = false := decide_eq_false (fun h => c ⟨c0, h⟩)
          clear hpn hpb c0 c
          generalize prt (at_ T q) = p at *
          generalize cod (at_ T q) = s at *
          generalize T (at_ T q) = c at *
          go_wp2_with fail
          go_roundw
          case rel => exact ⟨q + 1, v, by omega, by go_num, rfl, hnx.out, hBA.out⟩
          case measure => simp [intOf]; omega
        · have f0 : decide (lo ≤ prt (at_ T q)) = false := decide_eq_false c0
          clear hpn hpb c0 c
          generalize prt (at_ T q) = p at *
          generalize cod (at_ T q) = s at *
          generalize T (at_ T q) = c at *
          go_wp2_with fail
          go_roundw
          case rel => exact ⟨q + 1, v, by omega, by go_num, rfl, hnx.out, hBA.out⟩
          case measure => simp [intOf]; omega
    · obtain rfl : q = N := by omega
      have cq' : ¬ (q : Int) < (q : Int) := by omega
      have hE : Hid (v = R) := hv.out.symm.trans HPA.out
      go_wp2_with fail
      go_ret
      exact ⟨ret_int hE.out, hBw.out⟩

set_option maxRecDepth 100000 in
set_option maxHeartbeats 4000000 in
/-- What a slip adds up to: gross, held, net, the firm's. -/
theorem sums_is (T : Nat → Int) (hT : small BB T) (a : Option Addr) (cap : Nat) (W : World) (hl : Lst 3 W a (ln T) (lcs T)) : Calls Try.prog 14 #[sv a (ln T) cap] W fun e w' => (∃ g h f, e = .returned (.tuple #[.int .i64 g, .int .i64 h, .int .i64 (netT T), .int .i64 f, .int .i64 0])) ∧ Below W.heap.size W w' := by
  have hB0 := Lib.hid (balloc (Below.refl W.heap.size W) (.cells #[.int .i64 2026, .int .i64 1, .slice a (ln T) cap] 29))
  have HL := Lib.hid hl
  have HC := Lib.hid (fun (w : World) h => scheck_is T hT a cap w h)
  have HS := Lib.hid (fun (lo hi : Int) (w : World) h => ssum_is T hT a cap lo hi w h)
  have b1 := tsum_bd hT (by unfold BB; omega) 0 0
  have b2 := tsum_bd hT (by unfold BB; omega) 1 5
  have b3 := tsum_bd hT (by unfold BB; omega) 6 6
  have hnet : netT T = tsum T 0 0 28 - tsum T 1 5 28 := rfl
  unfold BB at b1 b2 b3
  have c0 : (W.alloc (.cells #[.int .i64 2026, .int .i64 1, .slice a (ln T) cap] 29)).cell? ⟨W.heap.size, 0, none⟩ = some (.int .i64 2026) := by simp
  have c1 : (W.alloc (.cells #[.int .i64 2026, .int .i64 1, .slice a (ln T) cap] 29)).cell? ⟨W.heap.size, 1, none⟩ = some (.int .i64 1) := by simp
  have c2 : (W.alloc (.cells #[.int .i64 2026, .int .i64 1, .slice a (ln T) cap] 29)).cell? ⟨W.heap.size, 2, none⟩ = some (.slice a (ln T) cap) := by simp
  have hlt : W.heap.size < (W.alloc (.cells #[.int .i64 2026, .int .i64 1, .slice a (ln T) cap] 29)).heap.size := by simp
  have HHH := Lib.hid (And.intro c0 (And.intro c1 (And.intro c2 hlt)))
  have hlU := Lib.hid (hl.step hB0.out)
  clear c0 c1 c2 hlt hl hT
  unfold sv at HC HS ⊢
  go_enter Try.func14, Try.ntmps14
  go_wp2_with fail
  generalize W.alloc (.cells #[.int .i64 2026, .int .i64 1, .slice a (ln T) cap] 29) = U at *
  obtain ⟨P, hP⟩ : ∃ P, W.heap.size = P := ⟨_, rfl⟩
  rw [hP] at HHH ⊢
  clear hP
  refine (HC.out _ hlU.out).mono ?_
  rintro e w1 ⟨rfl, hb1⟩
  have c0 := bc hb1 HHH.out.2.2.2 HHH.out.1
  have c1 := bc hb1 HHH.out.2.2.2 HHH.out.2.1
  have c2 := bc hb1 HHH.out.2.2.2 HHH.out.2.2.1
  have hlt : P < w1.heap.size := Nat.lt_of_lt_of_le HHH.out.2.2.2 hb1.size
  have hB1 := Lib.hid (bstep hB0.out hb1)
  have hl1 := Lib.hid (hlU.out.step hb1)
  clear hb1 HHH
  go_upto_region 4 with fail
  go_region_held3 (fun w' => Below w1.heap.size w1 w' ∧ ∀ b o, b < w1.heap.size → w'.cell? ⟨b, o, none⟩ = w1.cell? ⟨b, o, none⟩)
    (first | exact ⟨(Below.refl _ _).drew, fun _ _ _ => rfl⟩ | exact ⟨hBS, (bcell hBS).1⟩)
    ((go_at_call 28; refine (HS.out _ _ _ (hl1.out.step (And.left (by assumption)))).mono ?_; rintro e wS ⟨rfl, hbS⟩; have hBS : Below w1.heap.size w1 wS := bstep (And.left (by assumption)) hbS))
  all_goals
    have hBZ := Lib.hid (bstep hB1.out hBS)
    clear HS HC HL hl1 hlU
    obtain ⟨nn, hnn⟩ : ∃ nn, netT T = nn := ⟨_, rfl⟩
    have HNT := Lib.hid hnn
    rw [hnn] at hnet
    clear hnn
    generalize tsum T 0 0 28 = g at *
    generalize tsum T 1 5 28 = h at *
    generalize tsum T 6 6 28 = f at *
    have wn : IntKind.i64.wrap (g - h) = nn := by rw [hnet]; exact IntWalk.i64_in _ (by omega)
    have hN := Lib.hid (And.intro hnet (And.intro b1 (And.intro b2 b3)))
    clear hnet b1 b2 b3
    have hx := Lib.hid (Ints.made (k := .i64) (w := wS) [g, h, nn, f] 23 (show 4 ≤ maxLen by decide))
    have hBY := Lib.hid (balloc hBZ.out (.cells #[.int .i64 g, .int .i64 h, .int .i64 nn, .int .i64 f] 23))
    go_wp2_with fail
    go_loop [2, 3, 4, 5, 30] (fun s2 s3 s4 s5 s30 => ∃ j : Nat, j ≤ 4 ∧ s30 = .int .i64 j ∧ s2 = .int .i64 g ∧ s3 = .int .i64 h ∧ s4 = .int .i64 nn ∧ s5 = .int .i64 f) (fun _ _ _ _ s30 => 4 - (intOf s30).toNat)
    case atStart => exact ⟨0, by omega, rfl, rfl, rfl, rfl, rfl⟩
    case round =>
      obtain ⟨j, hj, rfl, rfl, rfl, rfl, rfl⟩ := hrel
      by_cases cj : j < 4
      · have cj' : (j : Int) < 4 := by omega
        obtain ⟨b', o', he, hltb, d0⟩ := hx.out.at_ (j := j) (by show j < 4; exact cj)
        have hfx : fit ([g, h, nn, f].getD j 0) := by
          obtain ⟨n0, n1, n2, n3⟩ := hN.out
          unfold fit
          rcases (by omega : j = 0 ∨ j = 1 ∨ j = 2 ∨ j = 3) with rfl | rfl | rfl | rfl <;> simp <;> omega
        have wj : IntKind.i64.wrap ((j : Int) + 1) = (j : Int) + 1 := IntWalk.i64_in _ (by omega)
        injection he with he
        injection he with he1 he2
        subst he1 he2
        rw [Nat.zero_add] at d0
        have hF := Lib.hid (fun w => fits_is _ hfx w)
        clear hfx hltb
        change (wS.alloc (.cells #[.int .i64 g, .int .i64 h, .int .i64 nn, .int .i64 f] 23)).cell? ⟨wS.heap.size, j, none⟩ = some (.int .i64 ([g, h, nn, f].getD j 0)) at d0
        generalize [g, h, nn, f].getD j 0 = x at *
        go_wp2_with fail
        refine (hF.out _).mono ?_
        rintro e w5 ⟨rfl, rfl⟩
        go_wp2_with fail
        go_round
        case rel => exact ⟨j + 1, by omega, by go_num, rfl, rfl, rfl, rfl⟩
        case measure => simp [intOf]; omega
      · obtain rfl : j = 4 := by omega
        go_wp2_with fail
        exact bodyPost_ret (v := .tuple #[.int .i64 g, .int .i64 h, .int .i64 nn, .int .i64 f, .int .i64 0]) (by simp [results, Try.results14, go_sem]) rfl ⟨⟨g, h, f, by rw [HNT.out]⟩, hBY.out⟩
end Go.Proofs.Ytnakcmliopcabaa.W
