/- The walk of AttachRises. -/
import Derived.Test.YtjfcbflhnfjcfaaAtM
namespace Go.Proofs.Ytjfcbflhnfjcfaa.S
open Go.Proofs.Ytjfcbflhnfjcfaa.B Go.Proofs.Ytjfcbflhnfjcfaa.M
theorem sumTo_bd {f : Nat → Int} {B : Int} : ∀ m : Nat, (∀ j, j < m → 0 ≤ f j ∧ f j ≤ B) → 0 ≤ sumTo f m ∧ sumTo f m ≤ m * B
  | 0, _ => by simp [sumTo]
  | m + 1, h => by
    have h1 := sumTo_bd m (fun j hj => h j (by omega))
    have h2 := h m (by omega)
    have h3 : ((m + 1 : Nat) : Int) * B = m * B + B := by rw [show ((m + 1 : Nat) : Int) = (m : Int) + 1 by omega, Int.add_mul, Int.one_mul]
    rw [h3]
    show 0 ≤ sumTo f m + f m ∧ sumTo f m + f m ≤ _
    omega
/-- What is in force at an order, where nothing was taken before: what it took. -/
theorem outAt_bd {net : Int} {S : Nat → Ord} {n i : Nat} (hf : fit net) (hc : check S n = 0) (hi : i < n) : 0 ≤ outAt net (fun _ => none) S n i ∧ outAt net (fun _ => none) S n i ≤ 1125899906842624 := by
  obtain ⟨_, hA, hR, _⟩ := check_right hc
  obtain ⟨k, hk, rfl, e⟩ := outAt_pos (net := net) (g := fun _ => none) hA hi
  rw [e]
  have h1 := takeK_nonneg (net := net) (g := fun _ => none) (O := srvO S n) k
  have h2 := takeK_le (net := net) (g := fun _ => none) (O := srvO S n) hf k (fun j hj => (hR _ (srv_lt S (show j < n by omega))).2.2.2.2.2.1.1) (hR _ (srv_lt S hk))
  show 0 ≤ 0 + takeK net (fun _ => none) (srvO S n) k ∧ 0 + takeK net (fun _ => none) (srvO S n) k ≤ _
  omega
theorem outAt_more {net more : Int} {S : Nat → Ord} {n i : Nat} (hc : check S n = 0) (hm : net ≤ more) (hfx : ∀ j, j < n → (S j).fixed ≠ 0) (hi : i < n) : outAt net (fun _ => none) S n i ≤ outAt more (fun _ => none) S n i := by
  obtain ⟨_, hA, hR, _⟩ := check_right hc
  obtain ⟨k, hk, rfl⟩ := srv_all S hi
  rw [outAt_is hA hk, outAt_is hA hk]
  have := take_more (g := fun _ => none) (O := srvO S n) hm k (fun j hj => hfx _ (srv_lt S (by omega)))
  omega
end Go.Proofs.Ytjfcbflhnfjcfaa.S
namespace Go.Proofs.Ytjfcbflhnfjcfaa.W
open Go.RowKit Go.Proofs.Ytjfcbflhnfjcfaa.M Go.Proofs.Ytjfcbflhnfjcfaa.B Go.Proofs.Ytjfcbflhnfjcfaa.S
open Go.Maps (Keyed)
set_option linter.unusedVariables false

theorem takeErr_ok {net : Int} {g : Mp} {S : Nat → Ord} {n : Nat} (h : takeErr net g S n = 0) : fit net ∧ check S n = 0 ∧ terr net g (srvO S n) n = 0 := by
  by_cases hf : fit net
  · by_cases hc : check S n = 0
    · exact ⟨hf, hc, (takeErr_run hf hc).symm.trans h⟩
    · rw [takeErr_chk hf hc] at h; exact absurd h hc
  · rw [takeErr_net hf] at h; omega
/-- What Take answers, told by what is wrong alone. -/
theorem take_told {M : Nat} {er net : Int} {g : Mp} {S : Nat → Ord} {n : Nat} {W w' : World} {e : Ending} (h : TakeOut M er net g S n W e w') :
    Below W.heap.size W w' ∧ ∃ (a : Option Addr) (k cap : Nat) (mo : Option Nat), e = .returned (.tuple #[.slice a k cap, .map mo, .int .i64 er]) ∧ (er ≠ 0 → a = none ∧ k = 0 ∧ cap = 0 ∧ mo = none) ∧
      (er = 0 → k = (itemsK net g (srvO S n) n).length ∧ Lst 2 w' a k (fun j => ic ((itemsK net g (srvO S n) n).getD j (cA, 0))) ∧ ∃ b N, mo = some b ∧ W.heap.size ≤ b ∧ MapP w' b N (outK net g (srvO S n) n) ∧ N ≤ M) := by
  refine ⟨h.1, ?_⟩
  have h2 := h.2
  by_cases c : er = 0
  · rw [if_pos c] at h2
    obtain ⟨v, b, N, rfl, hb, ho, hm, hN⟩ := h2
    by_cases hlen : (itemsK net g (srvO S n) n).length ≤ 9223372036854775807
    · have e1 := flat_XR (itemsK net g (srvO S n) n) (cA, 0) _ (Nat.le_refl _)
      rw [List.take_length] at e1
      unfold OwnL at ho
      rw [e1] at ho
      obtain ⟨a, cap, rfl, hl⟩ := own_lst (z := 2) (fun j => rfl) ho hlen
      exact ⟨a, _, cap, some b, by rw [c], fun h => absurd c h, fun _ => ⟨rfl, hl, b, N, rfl, hb, hm, hN⟩⟩
    · exfalso
      have h1 := ho.1
      rcases ho.2 with ⟨_, h0⟩ | ⟨_, cap, _, _, _, _, h3, h4, _⟩
      · rw [h0] at hlen; omega
      · unfold maxLen at h4; omega
  · rw [if_neg c] at h2
    exact ⟨none, 0, 0, none, h2, fun _ => ⟨rfl, rfl, rfl, rfl⟩, fun h => absurd h c⟩

set_option maxRecDepth 100000 in
set_option maxHeartbeats 8000000 in
theorem attachRises (net more : Int) (a : Option Addr) (n cap : Nat) (S : Nat → Ord) (W : World) (hnt : I64 net) (hmo : I64 more) (hl : Lst 6 W a n (fun j => ocells (S j))) (hS : ∀ j, j < n → okO (S j)) (hnil : a = none → n = 0 ∧ cap = 0) :
    Calls Try.prog 9 #[.int .i64 net, .int .i64 more, .slice a n cap] W fun e w' => e = .returned (.bool true) ∧ Below W.heap.size W w' := by
  have HA := Lib.hid (awake_is W)
  have HT := Lib.hid (fun (w : World) h (hn : n ≤ 1000) => (take_nil net a n cap S w h hnil hS hnt hn).mono (fun _ _ h => take_told h))
  have HT2 := Lib.hid (fun (w : World) h (hn : n ≤ 1000) => (take_nil more a n cap S w h hnil hS hmo hn).mono (fun _ _ h => take_told h))
  have HSh := Lib.hid (fun (w : World) h => short_is a n cap 20 S w h (by omega))
  have HLL := Lib.hid hl
  clear hnil
  go_enter Try.func9, Try.ntmps9
  go_wp2_with fail
  refine HA.out.mono ?_
  rintro e w1 ⟨rfl, hb1⟩
  by_cases cm : more < net
  · go_wp2_with fail
    go_ret
    exact ⟨rfl, hb1⟩
  · go_wp2_with fail
    refine (HSh.out _ (HLL.out.step hb1)).mono ?_
    rintro e w2 ⟨rfl, rfl | ⟨rfl, hn20, h300⟩⟩
    · go_wp2_with fail
      go_ret
      exact ⟨rfl, hb1⟩
    · have hn : n ≤ 1000 := by omega
      have hl1 := Lib.hid (hl.step hb1)
      clear hl HSh HA h300
      go_wp2_with fail
      go_loop [7] (fun s7 => ∃ i : Nat, i ≤ n ∧ s7 = .int .i64 i ∧ Hid (∀ j, j < i → (S j).fixed ≠ 0)) (fun s7 => n - (intOf s7).toNat)
      case atStart => exact ⟨0, Nat.zero_le _, rfl, fun j hj => absurd hj (by omega)⟩
      case round =>
        obtain ⟨i, hi, rfl, hok⟩ := hrel
        by_cases ci : i < n
        · obtain ⟨b1, o1, rfl, hlt1, hc1⟩ := hl1.out.at_ ci
          have d3 := hc1 3 (.int .i64 (S i).fixed) rfl
          have z3 : (i : Int) < (n : Int) := by omega
          have wi : IntKind.i64.wrap ((i : Int) + 1) = (i : Int) + 1 := IntWalk.i64_in _ (by omega)
          by_cases cf : (S i).fixed = 0
          · rw [cf] at d3
            clear hc1
            go_wp2_with fail
            go_ret
            exact ⟨rfl, hb1⟩
          · have hnx : Hid (∀ j, j < i + 1 → (S j).fixed ≠ 0) := fun j hj => by
              by_cases e : j = i
              · subst e; exact cf
              · exact hok.out j (by omega)
            clear hc1
            generalize (S i).fixed = f at *
            have zf : (f == 0) = false := by rw [beq_eq_false_iff_ne]; exact cf
            go_wp2_with fail
            go_round
            case rel => exact ⟨i + 1, by omega, by go_num, hnx⟩
            case measure => simp [intOf]; omega
        · obtain rfl : i = n := by omega
          have hfx := hok
          go_wp2_with fail
          refine (HT.out _ hl1.out hn).mono ?_
          rintro e w3 ⟨hb3, a3, k3, cap3, mo3, rfl, hx3, hy3⟩
          have hl3 := Lib.hid (hl1.out.step hb3)
          have hB3 := Lib.hid (bstep hb1 hb3)
          go_wp2_with fail
          refine (HT2.out _ hl3.out hn).mono ?_
          rintro e w4 ⟨hb4, a4, k4, cap4, mo4, rfl, hx4, hy4⟩
          have hl4 := Lib.hid (hl3.out.step hb4)
          have hB4 := Lib.hid (bstep hB3.out hb4)
          by_cases te : takeErr net gN S i = 0
          · by_cases tf : takeErr more gN S i = 0
            · obtain ⟨t1, t2, t3⟩ := takeErr_ok te
              obtain ⟨f1, _, _⟩ := takeErr_ok tf
              obtain ⟨e3, hL3, b3, N3, rfl, hbl3, hm3, _⟩ := hy3 te
              obtain ⟨e4, hL4, b4, N4, rfl, hbl4, hm4, _⟩ := hy4 tf
              have HR3 := Lib.hid ((readP_map hm3).step hb4)
              have HR4 := Lib.hid (readP_map hm4)
              have hil := items_more (g := gN) (O := srvO S i) (show net ≤ more by omega) i (fun j hj => hfx.out _ (srv_lt S hj))
              rw [← e3, ← e4] at hil
              have hfin := left_more (g := gN) (O := srvO S i) (show net ≤ more by omega) i (fun j hj => hfx.out _ (srv_lt S hj))
              have hs3 := sum_out (net := net) (check_right t2).2.1
              have hs4 := sum_out (net := more) (check_right t2).2.1
              change sumTo (outAt net gN S i) i = net - leftK net gN (srvO S i) i at hs3
              change sumTo (outAt more gN S i) i = more - leftK more gN (srvO S i) i at hs4
              have hgoal : Hid (net - sumTo (outAt net gN S i) i ≤ more - sumTo (outAt more gN S i) i) := by show _ ≤ _; omega
              rw [te, tf]
              clear hx3 hy3 hx4 hy4 hL3 hL4 hm3 hm4 e3 e4 hfin hs3 hs4 HT HT2 HLL hl1 hl3 hb1 hb3 hb4 hbl3 hbl4
              have cm2 : net ≤ more := by omega
              go_wp2_with fail
              go_loopw [14, 15, 16] (fun s14 s15 s16 wx => ∃ q : Nat, q ≤ i ∧ s16 = .int .i64 q ∧ s14 = .int .i64 (net - sumTo (outAt net gN S i) q) ∧ s15 = .int .i64 (more - sumTo (outAt more gN S i) q) ∧ Hid (Below w4.heap.size w4 wx)) (fun _ _ s16 _ => i - (intOf s16).toNat)
              case atStart => exact ⟨0, Nat.zero_le _, rfl, by simp [sumTo], by simp [sumTo], Below.refl _ _⟩
              case round =>
                obtain ⟨q, hq, rfl, rfl, rfl, hbw⟩ := hrel
                have sb1 := sumTo_bd (f := outAt net gN S i) (B := 1125899906842624) q (fun j hj => outAt_bd t1 t2 (by omega))
                have sb2 := sumTo_bd (f := outAt more gN S i) (B := 1125899906842624) q (fun j hj => outAt_bd f1 t2 (by omega))
                by_cases cq : q < i
                · obtain ⟨bl, ol, rfl, hltl, hcl⟩ := (hl4.out.step hbw.out).at_ cq
                  have d0 := hcl 0 (.string (S q).code) rfl
                  rw [Nat.add_zero] at d0
                  have hk0 := (hS q cq).1
                  have hlk3 : ∀ m, Sem.run Try.prog (Instr.lookup 29 (.map (some b3)) (.string (S q).code) false) (wr.drewN m) = .ok (.int .i64 (outAt net gN S i q)) (wr.drewN m) := fun m => (HR3.out _ (below_drewN hbw.out m) _ hk0).1
                  have hlk4 : ∀ m, Sem.run Try.prog (Instr.lookup 29 (.map (some b4)) (.string (S q).code) false) (wr.drewN m) = .ok (.int .i64 (outAt more gN S i q)) (wr.drewN m) := fun m => (HR4.out _ (below_drewN hbw.out m) _ hk0).1
                  have bd1 := outAt_bd (S := S) t1 t2 cq
                  have bd2 := outAt_bd (S := S) f1 t2 cq
                  have hmr := outAt_more (S := S) t2 cm2 hfx.out cq
                  have hst1 : Hid (sumTo (outAt net gN S i) (q + 1) = sumTo (outAt net gN S i) q + outAt net gN S i q) := rfl
                  have hst2 : Hid (sumTo (outAt more gN S i) (q + 1) = sumTo (outAt more gN S i) q + outAt more gN S i q) := rfl
                  change 0 ≤ outAt net gN S i q ∧ _ at bd1
                  change 0 ≤ outAt more gN S i q ∧ _ at bd2
                  change outAt net gN S i q ≤ outAt more gN S i q at hmr
                  clear hcl
                  generalize (S q).code = s at *
                  generalize outAt net gN S i q = ra at *
                  generalize outAt more gN S i q = rb at *
                  have hb2 := Lib.hid hst2
                  generalize sumTo (outAt net gN S i) q = sa at *
                  generalize sumTo (outAt more gN S i) q = sb at *
                  unfold fit at t1 f1
                  have w1 : IntKind.i64.wrap (net - sa - ra) = net - sa - ra := IntWalk.i64_in _ (by omega)
                  have w2 : IntKind.i64.wrap (more - sb - rb) = more - sb - rb := IntWalk.i64_in _ (by omega)
                  have wi : IntKind.i64.wrap ((q : Int) + 1) = (q : Int) + 1 := IntWalk.i64_in _ (by omega)
                  have z3 : (q : Int) < (i : Int) := by omega
                  have z4 : ¬ rb < ra := by omega
                  clear sb1 sb2
                  go_wp2_with fail
                  go_quiet (fail)
                  go_wp2_with fail
                  go_roundw
                  case rel => exact ⟨q + 1, by omega, by go_num, by rw [hst1.out]; congr 1; omega, by rw [hst2.out]; congr 1; omega, below_drewN hbw.out _⟩
                  case measure => simp [intOf]; omega
                · obtain rfl : q = i := by omega
                  have hz : Hid (Below W.heap.size W wr) := bstep hB4.out hbw.out
                  have hge : (k3 : Int) ≤ (k4 : Int) := by omega
                  have hgo := hgoal.out
                  generalize sumTo (outAt net gN S q) q = sa at *
                  generalize sumTo (outAt more gN S q) q = sb at *
                  go_wp2_with fail
                  go_ret
                  exact ⟨by simp <;> omega, hz.out⟩
            · have tf' : (takeErr more gN S i != 0) = true := by rw [bne_iff_ne]; exact tf
              rw [te]
              clear hx3 hy3 hx4 hy4
              generalize takeErr more gN S i = er at *
              go_wp2_with fail
              go_ret
              exact ⟨rfl, hB4.out⟩
          · have te' : (takeErr net gN S i != 0) = true := by rw [bne_iff_ne]; exact te
            clear hx3 hy3 hx4 hy4
            generalize takeErr net gN S i = er at *
            go_wp2_with fail
            go_ret
            exact ⟨rfl, hB4.out⟩
end Go.Proofs.Ytjfcbflhnfjcfaa.W
