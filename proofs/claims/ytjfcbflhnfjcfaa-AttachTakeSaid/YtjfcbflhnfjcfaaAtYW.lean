/- The walk of AttachTake. -/
import Derived.Test.YtjfcbflhnfjcfaaAtY
import Derived.Test.YtjfcbflhnfjcfaaAtR
import Derived.Test.YtjfcbflhnfjcfaaAtO
import Derived.BigQuiet
namespace Go.Proofs.Ytjfcbflhnfjcfaa.S
open Go.Proofs.Ytjfcbflhnfjcfaa.B Go.Proofs.Ytjfcbflhnfjcfaa.M
set_option linter.unusedVariables false
theorem fnd_none {f : Nat → ByteArray × Int} {s : ByteArray} : ∀ n, (∀ j, j < n → (f j).1 ≠ s) → fnd f s n = 0
  | 0, _ => rfl
  | n + 1, h => by unfold fnd; rw [if_neg (h n (by omega))]; exact fnd_none n (fun j hj => h j (by omega))
theorem fnd_yl {net : Int} {g : Mp} {O : Nat → Ord} : ∀ n, apart O n → ∀ k, k < n → fnd (yl net g O) (O k).code n = takeK net g O k
  | 0, _, k, h => absurd h (by omega)
  | n + 1, hA, k, h => by
    show (if (O n).code = (O k).code then takeK net g O n else fnd (yl net g O) (O k).code n) = takeK net g O k
    by_cases e : k = n
    · subst e; rw [if_pos rfl]
    · rw [if_neg (show ¬ (O n).code = (O k).code from fun hh => e (hA k n h (by omega) hh.symm))]
      exact fnd_yl n (fun i j hi hj => hA i j (by omega) (by omega)) k (by omega)
/-- What the sums are behind it: what was there, and what was taken. -/
theorem out_sum {net : Int} {g : Mp} {O : Nat → Ord} {n : Nat} (hA : apart O n) (s : ByteArray) : was (outK net g O n) s = was g s + fnd (yl net g O) s n := by
  by_cases h : ∃ k, k < n ∧ (O k).code = s
  · obtain ⟨k, hk, rfl⟩ := h
    unfold was
    rw [out_at n hA k hk, fnd_yl n hA k hk]
    rfl
  · have h' : ∀ k, k < n → (O k).code ≠ s := fun k hk e => h ⟨k, hk, e⟩
    rw [fnd_none n h', Int.add_zero]
    unfold was
    rw [out_else s n h']
theorem outw_ok {net : Int} {g : Mp} {O : Nat → Ord} (s : ByteArray) : ∀ n, terr net g O n = 0 → I64 (was g s) → I64 (was (outK net g O n) s)
  | 0, _, h => h
  | n + 1, ht, h => by
    have h1 := (terr_zero (n + 1)).1 ht n (by omega)
    have h0 := outw_ok s n ((terr_zero n).2 (fun k hk => (terr_zero (n + 1)).1 ht k (by omega))) h
    unfold was outK upd
    by_cases e : s = (O n).code
    · rw [if_pos e]
      have := h1.2
      unfold fit at this
      show I64 _
      unfold I64
      simp only [Option.getD_some]
      omega
    · rw [if_neg e]; exact h0
end Go.Proofs.Ytjfcbflhnfjcfaa.S
namespace Go.Proofs.Ytjfcbflhnfjcfaa.W
open Go.RowKit Go.Proofs.Ytjfcbflhnfjcfaa.M Go.Proofs.Ytjfcbflhnfjcfaa.B Go.Proofs.Ytjfcbflhnfjcfaa.S
open Go.Maps (Keyed)
set_option linter.unusedVariables false

set_option maxRecDepth 100000 in
set_option maxHeartbeats 8000000 in
theorem attachTake (net : Int) (a2 : Option Addr) (m cap2 : Nat) (I : Nat → ByteArray × Int) (a : Option Addr) (n cap : Nat) (S : Nat → Ord) (W : World) (hnt : I64 net) (hI : Lst 2 W a2 m (fun j => ic (I j))) (hIk : ∀ j, j < m → okI (I j)) (hl : Lst 6 W a n (fun j => ocells (S j))) (hS : ∀ j, j < n → okO (S j)) (hnil : a = none → n = 0 ∧ cap = 0) :
    Calls Try.prog 3 #[.int .i64 net, .slice a2 m cap2, .slice a n cap] W fun e w' => e = .returned (.bool true) ∧ Below W.heap.size W w' := by
  have HA := Lib.hid (fun W => awake_is W)
  have HSh := Lib.hid (fun (w : World) h => short_is a n cap 70 S w h (by omega))
  have HSi := Lib.hid (fun (w : World) h => shorti_is a2 m cap2 I w h)
  have HLL := Lib.hid hl
  have HII := Lib.hid hI
  have hIk2 : ∀ j, j < m → I64 (I j).2 := fun j hj => (hIk j hj).2
  have HPA := Lib.hid (fun (w : World) h h3 h1 => paid_is a2 m cap2 I w h h3 h1)
  have HT := Lib.hid (fun (w : World) (b0 n0 : Nat) h (hg : MapP w b0 n0 (pm I m)) (hN : n0 ≤ 500) (hn : n ≤ 1000) => (take_own net a n cap S w h hnil hS hnt hn b0 n0 (pm I m) hg hN (fun s => by rw [pm_was]; exact fnd_ok s m hIk2)).mono (fun _ _ h => take_told h))
  have HR := Lib.hid (fun (w : World) h h2 (hn : n ≤ 1000) => rtake_is net a n cap S a2 m cap2 I w h hS h2 hIk2 hnt hn)
  have HGI : Hid (∀ s, I64 (was (pm I m) s)) := fun s => by rw [pm_was]; exact fnd_ok s m hIk2
  have HIS : Hid (∀ j, j < m → (I j).1.size ≤ 9223372036854775807) := fun j hj => (hIk j hj).1
  have HSS : Hid (∀ j, j < n → (srvO S n j).code.size ≤ 9223372036854775807) := fun j hj => (hS _ (srv_lt S hj)).1
  have HFI := Lib.hid (fun (s : ByteArray) (w : World) h => found_is a2 m cap2 I s (was (pm I m) s) (pm_was I s m).symm w h)
  clear hl hI hnil hS hIk hIk2
  go_enter Try.func3, Try.ntmps3
  go_wp2_with fail
  refine (HA.out _).mono ?_
  rintro e w1 ⟨rfl, hb1⟩
  have hB1 := Lib.hid hb1
  have hl1 := Lib.hid (HLL.out.step hb1)
  have hI1 := Lib.hid (HII.out.step hb1)
  clear hb1 HLL HII HA
  go_wp2_with fail
  refine (HSh.out _ hl1.out).mono ?_
  rintro e w2 ⟨rfl, rfl | ⟨rfl, hn70, h300⟩⟩
  · go_wp2_with fail
    go_ret
    exact ⟨rfl, hB1.out⟩
  · go_wp2_with fail
    refine (HSi.out _ hI1.out).mono ?_
    rintro e w2 ⟨rfl, rfl | ⟨rfl, hm30, hi300⟩⟩
    · go_wp2_with fail
      go_ret
      exact ⟨rfl, hB1.out⟩
    · have hn : n ≤ 1000 := by omega
      have HI3 := Lib.hid hi300
      clear HSh HSi h300 hi300
      go_wp2_with fail
      refine (HPA.out _ hI1.out HI3.out (by omega)).mono ?_
      rintro e w2 ⟨rfl, hb2, hm2⟩
      have hpn := pn_le I m
      have hl2 := Lib.hid (hl1.out.step hb2)
      have hI2 := Lib.hid (hI1.out.step hb2)
      have hB2 := Lib.hid (bstep hB1.out hb2)
      have hM2 := Lib.hid hm2
      clear hm2 hb2 hl1 hI1 hB1 HPA
      generalize w1.heap.size = b0 at *
      go_wp2_with fail
      refine (HT.out _ b0 _ hl2.out hM2.out (by omega) hn).mono ?_
      rintro e w3 ⟨hb3, a3, k3, cap3, mo3, rfl, hx3, hy3⟩
      have hl3 := Lib.hid (hl2.out.step hb3)
      have hI3 := Lib.hid (hI2.out.step hb3)
      have hB3 := Lib.hid (bstep hB2.out hb3)
      have hM3 := Lib.hid (hM2.out.next hb3 hM2.out.lt)
      clear hM2 hB2 hl2 hI2 HT
      go_wp2_with fail
      refine (HR.out _ hl3.out hI3.out hn).mono ?_
      rintro e w4 ⟨hb4, h4⟩
      by_cases te : takeErr net (pm I m) S n = 0
      · rw [if_pos te] at h4
        obtain ⟨a4, cap4, rfl, hl4⟩ := h4
        rw [te]
        obtain ⟨t1, t2, t3⟩ := takeErr_ok te
        obtain ⟨e3, hL3, b, N, rfl, _, hm3, _⟩ := hy3 te
        have hap := (check_right t2).2.1
        have hApS := Lib.hid (apart_srv hap)
        have HTZ : Hid (∀ k, k < n → amt (was (pm I m) (srvO S n k).code) ∧ fit (was (pm I m) (srvO S n k).code + takeK net (pm I m) (srvO S n) k)) := (terr_zero n).1 t3
        have HOS := Lib.hid (fun s => out_sum (net := net) (g := pm I m) hApS.out s)
        have HOW := Lib.hid (fun s => outw_ok (net := net) (g := pm I m) (O := srvO S n) s n t3 (HGI.out s))
        have HOA := Lib.hid (fun k hk => out_at (net := net) (g := pm I m) n hApS.out k hk)
        have HOH := Lib.hid (fun (s : ByteArray) h => out_has (net := net) (g := pm I m) (O := srvO S n) s n h)
        have HPM := Lib.hid (fun s => pm_some I s m)
        have HPW := Lib.hid (fun s => pm_was I s m)
        have HL3 := Lib.hid (hL3.step hb4)
        have HL4 := Lib.hid hl4
        have HRN := Lib.hid ((readP_map hm3).step hb4)
        have HRO := Lib.hid ((readP_map hM3.out).step hb4)
        have hI4 := Lib.hid (hI3.out.step hb4)
        have hB4 := Lib.hid (bstep hB3.out hb4)
        have HFY := Lib.hid (fun (s : ByteArray) (w : World) h => found_is a4 n cap4 (yl net (pm I m) (srvO S n)) s (fnd (yl net (pm I m) (srvO S n)) s n) rfl w h)
        have E3 := Lib.hid e3
        have hk3 : k3 ≤ n := by rw [e3]; exact itemsK_len _ _ _ _
        clear hx3 hy3 te t1 t2 t3 hap e3 hL3 hm3 hl4 hI3 hB3 hM3 hl3 hb3 hb4 HR HGI
        generalize hgd : pm I m = g at *
        clear hgd
        generalize srvO S n = O at *
        go_wp2_with fail
        go_loopw [13, 14] (fun s13 s14 wx => ∃ i c : Nat, i ≤ n ∧ s14 = .int .i64 i ∧ s13 = .int .i64 c ∧ Hid ((itemsK net g O i).length = c) ∧ Hid (Below w4.heap.size w4 wx)) (fun _ s14 _ => n - (intOf s14).toNat)
        case atStart => exact ⟨0, 0, Nat.zero_le _, rfl, rfl, rfl, Below.refl _ _⟩
        case round =>
          obtain ⟨i, c, hi, rfl, rfl, hc, hbw⟩ := hrel
          by_cases ci : i < n
          · have ci' : (i : Int) < (n : Int) := by omega
            have hil := itemsK_len net g O i
            rw [hc.out] at hil
            obtain ⟨b1, o1, rfl, hlt1, hc1⟩ := (HL4.out.step hbw.out).at_ ci
            have d0 := hc1 0 (.string (O i).code) rfl
            have d1 := hc1 1 (.int .i64 (takeK net g O i)) rfl
            rw [Nat.add_zero] at d0
            have hsz := HSS.out i ci
            have htz := (HTZ.out i ci).2
            have hta := (HTZ.out i ci).1
            have hwv : was (outK net g O n) (O i).code = was g (O i).code + takeK net g O i := by unfold was; rw [HOA.out i ci]; rfl
            have hsm : (outK net g O n (O i).code).isSome = true := by rw [HOA.out i ci]; rfl
            have hlk := (HRN.out wr hbw.out (O i).code hsz).2
            rw [hwv, hsm] at hlk
            have htn := takeK_nonneg (net := net) (g := g) (O := O) i
            have hat := items_at (net := net) (g := g) (O := O) (k := i) (n := n) ci
            have hnx := items_next (net := net) (g := g) (O := O) (k := i)
            have hsame := items_same (net := net) (g := g) (O := O) (k := i)
            rw [hc.out] at hat hnx
            have wi : IntKind.i64.wrap ((i : Int) + 1) = (i : Int) + 1 := IntWalk.i64_in _ (by omega)
            have wc1 : IntKind.i64.wrap ((c : Int) + 1) = (c : Int) + 1 := IntWalk.i64_in _ (by omega)
            have hFd := Lib.hid (fun (k : Nat) => (HFI.out (O i).code (wr.drewN k) ((hI4.out.step hbw.out).step (below_drewN (Below.refl _ _) k))).mono (fun e w' (h : e = .returned (.int .i64 (was g (O i).code)) ∧ _ = w') => And.intro h.1 h.2.symm))
            clear hc1 hwv hsm
            by_cases tk : 0 < takeK net g O i
            · have hat' := hat tk
              have hnx' := Lib.hid (hnx tk)
              have hck : c < k3 := by rw [E3.out]; exact (List.getElem?_eq_some_iff.1 hat').1
              obtain ⟨b3, o3, rfl, hlt3, hc3⟩ := (HL3.out.step hbw.out).at_ hck
              have hgd : (itemsK net g O n).getD c (cA, 0) = ((O i).code, takeK net g O i) := by rw [List.getD_eq_getElem?_getD, hat']; rfl
              rw [hgd] at hc3
              have e0 := hc3 0 (.string (O i).code) rfl
              have e1 := hc3 1 (.int .i64 (takeK net g O i)) rfl
              rw [Nat.add_zero] at e0
              unfold amt at hta
              unfold fit at htz
              have tz : (takeK net g O i == 0) = false := by rw [beq_eq_false_iff_ne]; omega
              have wv : IntKind.i64.wrap (was g (O i).code + takeK net g O i) = was g (O i).code + takeK net g O i := IntWalk.i64_in _ (by omega)
              have hgu : Try.prog.eqGuardType Try.prog.depth 38 = false := by kernel_rfl
              have ck3 : ¬ (k3 : Int) ≤ (c : Int) := by omega
              have ck4 : (c : Int) < (k3 : Int) := by omega
              clear hat hnx hsame hat' hgd hc3 hta htz
              generalize (O i).code = cd at *
              generalize was g cd = w at *
              generalize takeK net g O i = t at *
              go_wp2_with fail
              go_quiet ((go_at_call 16; exact Calls.quiet_of_same (hFd.out _)))
              go_wp2_with fail
              go_quiet (fail)
              go_wp2_with fail
              go_roundw
              case rel => exact ⟨i + 1, c + 1, by omega, by go_num, by go_num, hnx'.out, below_drewN hbw.out _⟩
              case measure => simp [intOf]; omega
            · have tk0 : takeK net g O i = 0 := by omega
              have hnx' : Hid ((itemsK net g O (i + 1)).length = c) := by show _ = _; rw [hsame tk0]; exact hc.out
              unfold amt at hta
              have wv : IntKind.i64.wrap (was g (O i).code) = was g (O i).code := IntWalk.i64_in _ (by omega)
              rw [tk0, Int.add_zero] at hlk
              rw [tk0] at d1
              clear hat hnx hsame hta htz tk0 tk htn
              generalize (O i).code = cd at *
              generalize was g cd = w at *
              go_wp2_with fail
              go_quiet ((go_at_call 16; exact Calls.quiet_of_same (hFd.out _)))
              go_wp2_with fail
              go_roundw
              case rel => exact ⟨i + 1, c, by omega, by go_num, rfl, hnx'.out, below_drewN hbw.out _⟩
              case measure => simp [intOf]; omega
          · obtain rfl : i = n := by omega
            have ci' : ¬ (i : Int) < (i : Int) := by omega
            have hck : Hid (c = k3) := hc.out.symm.trans E3.out.symm
            have hb5 := Lib.hid hbw.out
            have hI5 := Lib.hid (hI4.out.step hbw.out)
            have HL5 := Lib.hid (HL4.out.step hbw.out)
            have hB5 := Lib.hid (bstep hB4.out hbw.out)
            clear HOA HTZ HL3 HSS hI4 HL4 hB4 hc hbw
            generalize wr = w5 at *
            go_wp2_with fail
            go_loopw [17] (fun s17 wx => ∃ q : Nat, q ≤ m ∧ s17 = .int .i64 q ∧ Hid (Below w5.heap.size w5 wx)) (fun s17 _ => m - (intOf s17).toNat)
            case atStart => exact ⟨0, Nat.zero_le _, rfl, Below.refl _ _⟩
            case round =>
              obtain ⟨q, hq, rfl, hbq⟩ := hrel
              have hb6 := Lib.hid (bstep hb5.out hbq.out)
              by_cases cq : q < m
              · have cq' : (q : Int) < (m : Int) := by omega
                obtain ⟨b1, o1, rfl, hlt1, hc1⟩ := (hI5.out.step hbq.out).at_ cq
                have d0 := hc1 0 (.string (I q).1) rfl
                rw [Nat.add_zero] at d0
                have hsz := HIS.out q cq
                have hsm : (g (I q).1).isSome = true := by rw [HPM.out]; exact decide_eq_true ⟨q, cq, rfl⟩
                have hlk := (HRN.out wr hb6.out (I q).1 hsz).2
                rw [HOS.out, HOH.out _ hsm] at hlk
                have hlo : ∀ k, (Instr.lookup 29 (.map (some b0)) (.string (I q).1) false).run Try.prog (wr.drewN k) = .ok (.int .i64 (was g (I q).1)) (wr.drewN k) := fun k => (HRO.out _ (below_drewN hb6.out k) _ hsz).1
                have hFd := Lib.hid (fun (k : Nat) => (HFI.out (I q).1 (wr.drewN k) ((hI5.out.step hbq.out).step (below_drewN (Below.refl _ _) k))).mono (fun e w' (h : e = .returned (.int .i64 (was g (I q).1)) ∧ _ = w') => And.intro h.1 h.2.symm))
                have hFy := Lib.hid (HFY.out (I q).1 wr (HL5.out.step hbq.out))
                have hok := HOW.out (I q).1
                rw [HOS.out] at hok
                unfold I64 at hok
                have wq : IntKind.i64.wrap ((q : Int) + 1) = (q : Int) + 1 := IntWalk.i64_in _ (by omega)
                have wv : IntKind.i64.wrap (was g (I q).1 + fnd (yl net g O) (I q).1 i) = was g (I q).1 + fnd (yl net g O) (I q).1 i := IntWalk.i64_in _ (by omega)
                clear hc1 hsm
                generalize (I q).1 = cd at *
                generalize was g cd = w at *
                generalize fnd (yl net g O) cd i = t at *
                go_wp2_with fail
                refine hFy.out.mono ?_
                rintro e w6 ⟨rfl, rfl⟩
                go_wp2_with fail
                go_quiet ((go_at_call 16; exact Calls.quiet_of_same (hFd.out _)))
                go_wp2_with fail
                go_roundw
                case rel => exact ⟨q + 1, by omega, by go_num, below_drewN hbq.out _⟩
                case measure => simp [intOf]; omega
              · obtain rfl : q = m := by omega
                have cq' : ¬ (q : Int) < (q : Int) := by omega
                have hBz := Lib.hid (bstep hB5.out hbq.out)
                obtain rfl := hck.out
                go_wp2_with fail
                go_ret
                exact ⟨by simp, hBz.out⟩
      · rw [if_neg te] at h4
        subst h4
        obtain ⟨rfl, rfl, rfl, rfl⟩ := hx3 te
        clear hy3
        have te' : (takeErr net (pm I m) S n != 0) = true := by rw [bne_iff_ne]; exact te
        have hBz := Lib.hid (bstep hB3.out hb4)
        generalize takeErr net (pm I m) S n = er at *
        go_wp2_with fail
        go_ret
        exact ⟨rfl, hBz.out⟩
end Go.Proofs.Ytjfcbflhnfjcfaa.W
