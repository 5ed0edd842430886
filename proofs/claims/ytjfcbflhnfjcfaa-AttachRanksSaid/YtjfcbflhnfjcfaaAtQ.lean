/- The walk of AttachRanks. -/
import Derived.Test.YtjfcbflhnfjcfaaAtR
import Derived.Test.YtjfcbflhnfjcfaaLstA
import Derived.BigQuiet
namespace Go.Proofs.Ytjfcbflhnfjcfaa.S
open Go.Proofs.Ytjfcbflhnfjcfaa.B Go.Proofs.Ytjfcbflhnfjcfaa.M
theorem items_pre {net : Int} {g : Mp} {O : Nat → Ord} {k n : Nat} (h : k ≤ n) : (itemsK net g O k).length ≤ (itemsK net g O n).length ∧ ∀ j d, j < (itemsK net g O k).length → (itemsK net g O k).getD j d = (itemsK net g O n).getD j d := by
  obtain ⟨r, hr⟩ := items_mono (net := net) (g := g) (O := O) k (n - k)
  rw [show k + (n - k) = n by omega] at hr
  rw [hr]
  refine ⟨by simp, fun j d hj => ?_⟩
  rw [List.getD_eq_getElem?_getD, List.getD_eq_getElem?_getD, List.getElem?_append_left hj]
end Go.Proofs.Ytjfcbflhnfjcfaa.S
namespace Go.Proofs.Ytjfcbflhnfjcfaa.W
open Go.RowKit Go.Proofs.Ytjfcbflhnfjcfaa.M Go.Proofs.Ytjfcbflhnfjcfaa.B Go.Proofs.Ytjfcbflhnfjcfaa.S
open Go.Maps (Keyed)
set_option linter.unusedVariables false

def backO (S : Nat → Ord) (n : Nat) : Nat → Ord := fun j => S (n - 1 - j)
theorem lst_less {z : Nat} {w : World} {a : Option Addr} {n k : Nat} {c : Nat → List Value} (h : Lst z w a n c) (hk : k ≤ n) : Lst z w a k c :=
  ⟨Nat.le_trans (by omega) h.1, fun h0 => by
    obtain ⟨b, off, ha, hlt, hc⟩ := h.2 (by omega)
    exact ⟨b, off, ha, hlt, fun j hj => hc j (by omega)⟩⟩
set_option maxRecDepth 100000 in
set_option maxHeartbeats 8000000 in
theorem attachRanks (net : Int) (a : Option Addr) (n cap : Nat) (S : Nat → Ord) (up : Int) (W : World) (hnt : I64 net) (hl : Lst 6 W a n (fun j => ocells (S j))) (hS : ∀ j, j < n → okO (S j)) (hnil : a = none → n = 0 ∧ cap = 0) (hup : 0 ≤ up ∧ up ≤ 255) :
    Calls Try.prog 7 #[.int .i64 net, .slice a n cap, .int .u8 up] W fun e w' => e = .returned (.bool true) ∧ Below W.heap.size W w' := by
  have HA := Lib.hid (awake_is W)
  have HT := Lib.hid (fun (w : World) (a : Option Addr) (k cap : Nat) (T : Nat → Ord) h hnil hS (hn : k ≤ 1000) => (take_nil net a k cap T w h hnil hS hnt hn).mono (fun _ _ h => take_told h))
  have HSo := Lib.hid (fun (w : World) h (hn : n ≤ 1000) => sort_is S a n cap w h hnil hn)
  have HSh := Lib.hid (fun (w : World) h => short_is a n cap 20 S w h (by omega))
  have HNIL := Lib.hid hnil
  clear hnil
  go_enter Try.func7, Try.ntmps7
  go_wp2_with fail
  refine HA.out.mono ?_
  rintro e w1 ⟨rfl, hb1⟩
  go_wp2_with fail
  refine (HSh.out _ (hl.step hb1)).mono ?_
  rintro e w2 ⟨rfl, rfl | ⟨rfl, hn20, h300⟩⟩
  · go_wp2_with fail
    go_ret
    exact ⟨rfl, hb1⟩
  · have hn : n ≤ 1000 := by omega
    have hl1 := Lib.hid (hl.step hb1)
    clear hl HSh HA h300
    go_wp2_with fail
    refine (HT.out _ a n cap S hl1.out HNIL.out hS hn).mono ?_
    rintro e w3 ⟨hb3, a3, k3, cap3, mo3, rfl, hx3, hy3⟩
    have hl3 := Lib.hid (hl1.out.step hb3)
    have hB3 := Lib.hid (bstep hb1 hb3)
    by_cases te : takeErr net gN S n = 0
    · obtain ⟨t1, t2, t3⟩ := takeErr_ok te
      obtain ⟨e3', hL3, _⟩ := hy3 te
      have e3 := Lib.hid e3'
      clear e3'
      rw [te]
      clear hx3 hy3
      go_wp2_with fail
      refine (HSo.out _ hl3.out hn).mono ?_
      rintro e w4 ⟨a4, cap4, rfl, hl4, hnil4, hc4, hc5, _, hb4⟩
      have hB4 := Lib.hid (bstep hB3.out hb4)
      have hL4 := hL3.step hb4
      have hl4' := Lib.hid (hl3.out.step hb4)
      clear hL3 HSo hl3 hl1
      obtain ⟨k, hk⟩ : ∃ k : Nat, up % ((n : Int) + 1) = (k : Int) := ⟨(up % ((n : Int) + 1)).toNat, by
        have := Int.emod_nonneg up (show (n : Int) + 1 ≠ 0 by omega)
        omega⟩
      have hkn : k ≤ n := by
        have := Int.emod_lt_of_pos up (show 0 < (n : Int) + 1 by omega)
        omega
      have wn1 : IntKind.i64.wrap ((n : Int) + 1) = (n : Int) + 1 := IntWalk.i64_in _ (by omega)
      have nz1 : ((n : Int) + 1 == 0) = false := by rw [beq_eq_false_iff_ne]; omega
      have nz2 : ¬ (n : Int) + 1 = 0 := by omega
      have hkz : (k : Int) ≤ (n : Int) := by omega
      have hkc : (k : Int) ≤ (cap4 : Int) := by omega
      have hnil5 : a4 = none → k = 0 ∧ cap4 = 0 := fun h => ⟨by have := (hnil4 h).1; omega, (hnil4 h).2⟩
      have hsrv : ∀ j, j < k → okO (srvO S n j) := fun j hj => hS _ (srv_lt S (by omega))
      have hk1000 : k ≤ 1000 := by omega
      obtain ⟨hy1, hy2⟩ := first_take (net := net) (T := srvO S n) hkn (fun i hi => rfl) t1 t2 t3
      obtain ⟨hz1, hz2⟩ := back_take (net := net) (T := backO S n) (fun i hi => rfl) t1 t2 t3
      have hl4k := Lib.hid (lst_less hl4 hkn)
      have hLn := Lib.hid hn20
      go_wp2_with fail
      refine (HT.out _ a4 k cap4 (srvO S n) hl4k.out hnil5 hsrv hk1000).mono ?_
      rintro e w5 ⟨hb5, a5, k5, cap5, mo5, rfl, hx5, hy5⟩
      obtain ⟨e5, hL5, _⟩ := hy5 hy1
      rw [show takeErr net gN (srvO S n) k = 0 from hy1]
      rw [hy2] at e5 hL5
      have e5' := Lib.hid e5
      clear e5
      have hB5 := Lib.hid (bstep hB4.out hb5)
      have hL45 := hL4.step hb5
      have hl5 := Lib.hid (hl4'.out.step hb5)
      clear hL4 hx5 hy5 hl4k hl4' hl4 hy1 hy2 hsrv hnil5
      have hw0 : IntKind.i64.wrap ((n : Int) - 1) = (n : Int) - 1 := IntWalk.i64_in _ (by omega)
      go_wp2_with fail
      go_loopw [15, 16] (fun s15 s16 wx => ∃ i j : Nat, i + j = n ∧ s16 = .int .i64 ((i : Int) - 1) ∧ wx.ownsRow w5.heap.size 43 6 s15 j (XR (fun q => ocells (backO S n q)) j) ∧ Below w5.heap.size w5 wx) (fun _ s16 _ => (intOf s16 + 1).toNat)
      case atStart => exact ⟨n, 0, by omega, rfl, World.ownsRow_nil _ _ _ _, Below.refl _ _⟩
      case round =>
        obtain ⟨i, j, hij, rfl, hown, hbel⟩ := hrel
        rcases i with _ | i
        · obtain rfl : j = n := by omega
          obtain ⟨a6, cap6, rfl, hl6⟩ := own_lst (z := 6) (fun q => rfl) hown (by omega)
          have hnil6 : a6 = none → j = 0 ∧ cap6 = 0 := by
            rcases hown.2 with ⟨hv, h0⟩ | ⟨g', cap', cur, hv', _⟩
            · intro _
              injection hv with _ _ h3
              exact ⟨h0, h3⟩
            · intro h
              injection hv' with h1
              rw [h] at h1; cases h1
          have hS6 : ∀ q, q < j → okO (backO S j q) := fun q hq => hS _ (by omega)
          have hLx := Lib.hid (hL45.step hbel)
          have hLy := Lib.hid (hL5.step hbel)
          have hB6 := Lib.hid (bstep hB5.out hbel)
          clear hown hL45 hL5 hl5 hS
          go_wp2_with fail
          refine (HT.out _ a6 j cap6 (backO S j) hl6 hnil6 hS6 hn).mono ?_
          rintro e w7 ⟨hb7, a7, k7, cap7, mo7, rfl, hx7, hy7⟩
          obtain ⟨e7, hL7, _⟩ := hy7 hz1
          rw [show takeErr net gN (backO S j) j = 0 from hz1]
          rw [hz2] at e7 hL7
          have hB7 := Lib.hid (bstep hB6.out hb7)
          have hLx7 := Lib.hid (hLx.out.step hb7)
          have hLy7 := Lib.hid (hLy.out.step hb7)
          obtain ⟨hpl, hpa⟩ := items_pre (net := net) (g := gN) (O := srvO S j) hkn
          have hpa' := Lib.hid hpa
          have hkk : Hid (k = j → k5 = k3) := fun h => by rw [e5'.out, e3.out, h]
          have e5 : k5 = (itemsK net gN (srvO S j) k).length := e5'.out
          have e3' := e3.out
          change k7 = (itemsK net gN (srvO S j) j).length at e7
          have h57 : k5 ≤ k7 := by omega
          obtain rfl : k7 = k3 := by omega
          have hk3 : k7 ≤ 1000 := by have := itemsK_len net gN (srvO S j) j; omega
          have HL7 := Lib.hid hL7
          have HY : Hid (∀ i, i < k5 → (itemsK net gN (srvO S j) k).getD i (cA, 0) = (itemsK net gN (srvO S j) j).getD i (cA, 0)) := fun i hi => hpa'.out i _ (by rw [← e5]; exact hi)
          have hk5 : ¬ (k7 : Int) < (k5 : Int) := by omega
          have hk5d : decide (k7 < k5) = false := decide_eq_false (by omega)
          clear hx7 hy7 hz1 hz2 hLx hLy hl6 hnil6 hS6 hpa hL7 HT hB6 hbel hb7 hpl hpa' e3 e5 e7 e3' e5'
          go_wp2_with fail
          go_loopw [20] (fun s20 wx => ∃ i : Nat, i ≤ k7 ∧ s20 = .int .i64 i ∧ Hid (Below w7.heap.size w7 wx)) (fun s20 _ => k7 - (intOf s20).toNat)
          case atStart => exact ⟨0, Nat.zero_le _, rfl, Below.refl _ _⟩
          case round =>
            obtain ⟨i, hi, rfl, hbw⟩ := hrel
            have hgu : Try.prog.eqGuardType Try.prog.depth 38 = false := by kernel_rfl
            by_cases ci : i < k7
            · obtain ⟨b1, o1, rfl, hlt1, hc1⟩ := (hLx7.out.step hbw.out).at_ ci
              obtain ⟨b2, o2, rfl, hlt2, hc2⟩ := (HL7.out.step hbw.out).at_ ci
              have wi : IntKind.i64.wrap ((i : Int) + 1) = (i : Int) + 1 := IntWalk.i64_in _ (by omega)
              have z3 : (i : Int) < (k7 : Int) := by omega
              obtain ⟨⟨s, c⟩, hx⟩ : ∃ x, (itemsK net gN (srvO S j) j).getD i (cA, 0) = x := ⟨_, rfl⟩
              change ∀ u v, (ic ((itemsK net gN (srvO S j) j).getD i (cA, 0)))[u]? = some v → _ at hc1
              change ∀ u v, (ic ((itemsK net gN (srvO S j) j).getD i (cA, 0)))[u]? = some v → _ at hc2
              rw [hx] at hc1 hc2
              have d0 := hc1 0 (.string s) rfl
              have d1 := hc1 1 (.int .i64 c) rfl
              have e0 := hc2 0 (.string s) rfl
              have e1 := hc2 1 (.int .i64 c) rfl
              rw [Nat.add_zero] at d0 e0
              clear hc1 hc2
              by_cases c5 : i < k5
              · obtain ⟨b3, o3, rfl, hlt3, hc3⟩ := (hLy7.out.step hbw.out).at_ c5
                change ∀ u v, (ic ((itemsK net gN (srvO S j) k).getD i (cA, 0)))[u]? = some v → _ at hc3
                rw [HY.out i c5, hx] at hc3
                have f0 := hc3 0 (.string s) rfl
                have f1 := hc3 1 (.int .i64 c) rfl
                rw [Nat.add_zero] at f0
                have z5 : (i : Int) < (k5 : Int) := by omega
                clear hc3 hx HY
                go_wp2_with fail
                go_quiet (fail)
                go_wp2_with fail
                go_roundw
                case rel => exact ⟨i + 1, by omega, by go_num, below_drewN hbw.out _⟩
                case measure => simp [intOf]; omega
              · have z5 : ¬ (i : Int) < (k5 : Int) := by omega
                clear hx HY
                go_wp2_with fail
                go_quiet (fail)
                go_wp2_with fail
                go_roundw
                case rel => exact ⟨i + 1, by omega, by go_num, below_drewN hbw.out _⟩
                case measure => simp [intOf]; omega
            · obtain rfl : i = k7 := by omega
              have hz : Hid (Below W.heap.size W wr) := bstep hB7.out hbw.out
              by_cases ck : k = j
              · have hh := hkk.out ck
                have q1 : ((k5 : Int) == (i : Int)) = true := by rw [beq_iff_eq]; omega
                go_wp2_with fail
                go_ret
                exact ⟨rfl, hz.out⟩
              · have q2 : (k : Int) < (j : Int) := by omega
                by_cases q1 : k5 = i
                · have q1' : ((k5 : Int) == (i : Int)) = true := by rw [beq_iff_eq]; omega
                  go_wp2_with fail
                  go_ret
                  exact ⟨rfl, hz.out⟩
                · have q1' : ((k5 : Int) == (i : Int)) = false := by rw [beq_eq_false_iff_ne]; omega
                  go_wp2_with fail
                  go_ret
                  exact ⟨rfl, hz.out⟩
        · have e1 : (((i + 1 : Nat) : Int) - 1) = (i : Int) := by omega
          rw [e1]
          have hib : i < n := by omega
          obtain ⟨b1, o1, rfl, hlt1, hcl⟩ := (hl5.out.step hbel).at_ hib
          have hbk : backO S n j = S i := by unfold backO; congr 1; omega
          obtain ⟨⟨s, r, q, f, p, t⟩, hx⟩ : ∃ x, S i = x := ⟨_, rfl⟩
          rw [hx] at hbk
          have d0 := hcl 0 (.string s) (by rw [hx]; rfl)
          have d1 := hcl 1 (.int .i64 r) (by rw [hx]; rfl)
          have d2 := hcl 2 (.int .i64 q) (by rw [hx]; rfl)
          have d3 := hcl 3 (.int .i64 f) (by rw [hx]; rfl)
          have d4 := hcl 4 (.int .i64 p) (by rw [hx]; rfl)
          have d5 := hcl 5 (.int .i64 t) (by rw [hx]; rfl)
          rw [Nat.add_zero] at d0
          obtain ⟨ie, hie, he0, he1, he2⟩ := info_parts infoOrder
          have hownA := hown.alloc (.cells #[.string s, .int .i64 r, .int .i64 q, .int .i64 f, .int .i64 p, .int .i64 t] 43)
          have hnews : ∀ j u, [Value.string s, .int .i64 r, .int .i64 q, .int .i64 f, .int .i64 p, .int .i64 t][j]? = some u → (wr.alloc (.cells #[.string s, .int .i64 r, .int .i64 q, .int .i64 f, .int .i64 p, .int .i64 t] 43)).cell? ((⟨wr.heap.size, 0, none⟩ : Addr).add j) = some u :=
            World.news_of_block (block_alloc_last wr (.cells #[.string s, .int .i64 r, .int .i64 q, .int .i64 f, .int .i64 p, .int .i64 t] 43 (0, 0)))
          have hw2 : IntKind.i64.wrap ((i : Int) - 1) = (i : Int) - 1 := IntWalk.i64_in _ (by omega)
          clear hS hcl hx HT hl5 hz1 hz2 hL45 hL5
          go_wp2_with (at_builtin; refine wpList_append_lies _ rfl _ _ 24 rfl w5.heap.size 43 ie (.agg #[.string ByteArray.empty, .int .i64 0, .int .i64 0, .int .i64 0, .int .i64 0, .int .i64 0]) 6 56 Try.underlying24 hie he0 he1 he2 rfl (by decide) _ j _ rfl hownA ⟨wr.heap.size, 0, none⟩ 1 1 [.string s, .int .i64 r, .int .i64 q, .int .i64 f, .int .i64 p, .int .i64 t] rfl rfl hnews (by intro u hu; simp at hu; rcases hu with rfl | rfl | rfl | rfl | rfl | rfl <;> rfl) (by decide) (by unfold maxLen; omega) (by omega) (by simp; have := hbel.size; omega) _ rfl ?_)
          intro g cp w6 hown2 hgr hat hglt
          have hgr2 := grown_alloc hgr (fun j hj => (hown.lt j hj).2)
          have hbel2 := hbel.grown hgr2 hbel.size (fun j hj => (hown.lt j hj).1)
          have hown3 := own_next (c := fun q => ocells (backO S n q)) hown2 (by rw [hbk]; rfl)
          clear hown hownA hnews hown2 hgr hgr2 hat
          go_wp2_with fail
          go_roundw
          case rel => exact ⟨i, j + 1, by omega, rfl, hown3, hbel2⟩
          case measure => simp [intOf]
    · have te' : (takeErr net gN S n != 0) = true := by rw [bne_iff_ne]; exact te
      clear hx3 hy3
      generalize takeErr net gN S n = er at *
      go_wp2_with fail
      go_ret
      exact ⟨rfl, hB3.out⟩
end Go.Proofs.Ytjfcbflhnfjcfaa.W
