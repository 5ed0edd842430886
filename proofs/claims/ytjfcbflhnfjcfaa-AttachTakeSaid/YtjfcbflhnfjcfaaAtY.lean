/- What the document takes of a net. -/
import Derived.Test.YtjfcbflhnfjcfaaAtJ
import Derived.Test.YtjfcbflhnfjcfaaAtTB
import Derived.Test.YtjfcbflhnfjcfaaRefN
import Derived.Deep.DeepCutAuto
namespace Go.Proofs.Ytjfcbflhnfjcfaa.S
open Go.Proofs.Ytjfcbflhnfjcfaa.B Go.Proofs.Ytjfcbflhnfjcfaa.M
set_option linter.unusedVariables false
/-- What each takes, also nothing, as they are served. -/
def yl (net : Int) (g : Mp) (O : Nat → Ord) : Nat → ByteArray × Int := fun j => ((O j).code, takeK net g O j)
theorem doc_takes {net lf w v1 v2 d c1 c2 c3 : Int} {x : Ord} (h1 : v1 = wants net x ∨ (net < 0 ∧ lf ≤ net ∧ 0 ≤ x.prot)) (h2 : leftP w x.total = v2) (hd : lf - x.prot = d) (e1 : (if v2 < v1 then v2 else v1) = c1) (e2 : (if d < c1 then d else c1) = c2) (e3 : (if c2 < 0 then 0 else c2) = c3) : takes net lf w x = c3 := by
  unfold takes min2
  simp only [h2, hd]
  rcases h1 with h1 | ⟨h1, h3, h4⟩
  · rw [← h1, e1, e2, e3]
  · have hd0 : d < 0 := by omega
    have a : c2 < 0 := by rw [← e2]; split <;> omega
    rw [if_pos a] at e3
    rw [← e3]
    rw [if_pos]
    split <;> omega
end Go.Proofs.Ytjfcbflhnfjcfaa.S
namespace Go.Proofs.Ytjfcbflhnfjcfaa.W
open Go.RowKit Go.Proofs.Ytjfcbflhnfjcfaa.M Go.Proofs.Ytjfcbflhnfjcfaa.B Go.Proofs.Ytjfcbflhnfjcfaa.S
open Go.Maps (Keyed)
set_option linter.unusedVariables false

def RTakeOut (er net : Int) (g : Mp) (S : Nat → Ord) (n : Nat) (W : World) (e : Ending) (w' : World) : Prop :=
  Below W.heap.size W w' ∧ if er = 0 then ∃ a cap, e = .returned (.tuple #[.slice a n cap, .int .i64 0]) ∧ Lst 2 w' a n (fun j => ic (yl net g (srvO S n) j)) else e = .returned (.tuple #[.slice none 0 0, .int .i64 er])
theorem rtake_bad {er net : Int} {g : Mp} {S : Nat → Ord} {n : Nat} {W w' : World} (r : Int) (hr : r ≠ 0) (he : er = r) (hb : Below W.heap.size W w') : RTakeOut er net g S n W (.returned (.tuple #[.slice none 0 0, .int .i64 r])) w' :=
  ⟨hb, by rw [he, if_neg hr]⟩
/-- The rate's answer of whatever net. -/
theorem rof_is (net : Int) (hn : fit net) (r : Int) (hr0 : 0 ≤ r) (hr : r ≤ 1000000) : ∃ v : Int, I64 v ∧ (0 ≤ net → rnd net r = v) ∧ ∀ W : World, Calls Try.prog 30 #[.int .i64 net, .int .i64 r, .int .i64 1] W (IntOut v 0 W) := by
  obtain ⟨r, rfl⟩ : ∃ k : Nat, r = (k : Int) := ⟨r.toNat, by omega⟩
  unfold fit at hn
  by_cases h0 : 0 ≤ net
  · obtain ⟨c, rfl⟩ : ∃ k : Nat, net = (k : Int) := ⟨net.toNat, by omega⟩
    have hb := rnd_bd' (c : Int) (r : Int) (by omega) (by omega) (by omega) hr
    obtain ⟨v, hv⟩ : ∃ v : Nat, rnd (c : Int) (r : Int) = (v : Int) := ⟨(rnd (c : Int) (r : Int)).toNat, by omega⟩
    exact ⟨v, by unfold I64; omega, fun _ => hv, fun W => of_half c r v (by omega) (by omega) hv W⟩
  · obtain ⟨c, rfl⟩ : ∃ k : Nat, net = -(k : Int) := ⟨(-net).toNat, by omega⟩
    have hb := rnd_bd' (c : Int) (r : Int) (by omega) (by omega) (by omega) hr
    obtain ⟨v, hv⟩ : ∃ v : Nat, rnd (c : Int) (r : Int) = (v : Int) := ⟨(rnd (c : Int) (r : Int)).toNat, by omega⟩
    exact ⟨-(v : Int), by unfold I64; omega, fun h => absurd h h0, fun W => of_neg c r v (by omega) (by omega) (by omega) hv W⟩
theorem infoItm : (Try.prog.info? 38).map (fun i => (i.zero, i.size, i.bytes)) = some (some (.agg #[.string ByteArray.empty, .int .i64 0]), 2, 24) := by kernel_rfl

set_option maxRecDepth 100000 in
set_option maxHeartbeats 8000000 in
theorem rtake_is (net : Int) (a : Option Addr) (n cap : Nat) (S : Nat → Ord) (a2 : Option Addr) (m cap2 : Nat) (I : Nat → ByteArray × Int) (W : World) (hl : Lst 6 W a n (fun j => ocells (S j))) (hS : ∀ j, j < n → okO (S j)) (hI : Lst 2 W a2 m (fun j => ic (I j))) (hIk : ∀ j, j < m → I64 (I j).2) (hb : I64 net) (hn : n ≤ 1000) :
    Calls Try.prog 15 #[.int .i64 net, .slice a2 m cap2, .slice a n cap] W (RTakeOut (takeErr net (pm I m) S n) net (pm I m) S n W) := by
  by_cases hft : fit net
  · have HF := Lib.hid (fun W => ref_fits net true (decide_eq_true hft) W)
    have HC := Lib.hid (rcheck_is S a n cap W hl hS)
    by_cases hck : check S n = 0
    · have hte : Hid (takeErr net (pm I m) S n = terr net (pm I m) (srvO S n) n) := takeErr_run hft hck
      rw [hck] at HC
      have n64 : n ≤ 64 := (check_right hck).1
      have hfb := Lib.hid hft
      unfold fit at hft
      have HCK := Lib.hid hck
      have HSO := Lib.hid (fun (w : World) h => rsort_is S a n cap w h hn)
      have HFO := Lib.hid (fun (s : ByteArray) (v : Int) hv (w : World) h => found_is a2 m cap2 I s v hv w h)
      have HLL := Lib.hid hl
      have HII := Lib.hid hI
      clear hck hl hI
      go_enter Try.func15, Try.ntmps15
      go_wp2_with fail
      refine (HF.out _).mono ?_
      rintro e w0 ⟨rfl, rfl⟩
      go_wp2_with fail
      refine HC.out.mono ?_
      rintro e w1 ⟨rfl, hb1⟩
      go_wp2_with fail
      refine (HSO.out _ (HLL.out.step hb1)).mono ?_
      rintro e w2 ⟨a4, cap4, rfl, hl4, _, _, _, hb2⟩
      have hB2 := Lib.hid (bstep hb1 hb2)
      have hl4' := Lib.hid hl4
      have hI2 := Lib.hid (HII.out.step hB2.out)
      clear HF HC HSO HLL HII hb1 hb2 hl4
      obtain ⟨g, hg⟩ : ∃ g, pm I m = g := ⟨_, rfl⟩
      have HG : Hid (∀ s, fnd I s m = was g s) := fun s => by rw [← hg]; exact (pm_was I s m).symm
      have HGI : Hid (∀ s, I64 (was g s)) := fun s => by rw [← HG.out]; exact fnd_ok s m hIk
      rw [hg] at hte
      have hgoal : Hid (∀ e w', RTakeOut (takeErr net g S n) net g S n W e w' → RTakeOut (takeErr net (pm I m) S n) net (pm I m) S n W e w') := fun e w' h => by rw [hg]; exact h
      clear hg hIk
      go_wp2_with fail
      go_loopw [9, 10, 11] (fun s9 s10 s11 wx => ∃ k : Nat, k ≤ n ∧ s11 = .int .i64 k ∧ s9 = .int .i64 (leftK net g (srvO S n) k) ∧ Hid (terr net g (srvO S n) k = 0) ∧ Hid (Below w2.heap.size w2 wx) ∧ wx.ownsRow w2.heap.size 38 2 s10 k (XR (fun j => ic (yl net g (srvO S n) j)) k)) (fun _ _ s11 _ => n - (intOf s11).toNat)
      case atStart => exact ⟨0, Nat.zero_le _, rfl, rfl, rfl, Below.refl _ _, World.ownsRow_nil _ _ _ _⟩
      case round =>
        obtain ⟨k, hk, rfl, rfl, he0, hbw, hown⟩ := hrel
        by_cases ck : k < n
        · obtain ⟨b1, o1, rfl, hlt1, hcl⟩ := (hl4'.out.step hbw.out).at_ ck
          have hbad := Lib.hid (fun e h hne => terr_bad (n := n) (e := e) he0.out h hne ck)
          have hstp := terr_step he0.out
          have hrg := frK (net := net) HCK.out k ck
          have hok := hS _ (srv_lt S ck)
          have hlf := leftK_fit (net := net) (g := g) hfb.out k (protK HCK.out (Nat.le_of_lt ck))
          have hlle := leftK_le (net := net) (g := g) (O := srvO S n) k
          have htb : tbad net g (srvO S n) k = if ¬ amt (was g (srvO S n k).code) then 2 else if ¬ fit (was g (srvO S n k).code + takeK net g (srvO S n) k) then 9 else 0 := rfl
          have htk : takeK net g (srvO S n) k = takes net (leftK net g (srvO S n) k) (was g (srvO S n k).code) (srvO S n k) := rfl
          have htn := takeK_nonneg (net := net) (g := g) (O := srvO S n) k
          have htl := takeK_le (net := net) (g := g) hfb.out k (protK HCK.out (Nat.le_of_lt ck)) hrg
          have hle : Hid (leftK net g (srvO S n) (k + 1) = leftK net g (srvO S n) k - takeK net g (srvO S n) k) := rfl
          have hyl : yl net g (srvO S n) k = ((srvO S n k).code, takeK net g (srvO S n) k) := rfl
          obtain ⟨lf, hlfe⟩ : ∃ v, leftK net g (srvO S n) k = v := ⟨_, rfl⟩
          obtain ⟨c, hce⟩ : ∃ v, takeK net g (srvO S n) k = v := ⟨_, rfl⟩
          rw [hlfe] at hlf hlle htk hle ⊢
          rw [hce] at htb htk htn htl hle hyl
          have hcx : ∀ i u, (ocells (srvO S n k))[i]? = some u → wr.cell? ⟨b1, o1 + k * 6 + i, none⟩ = some u := hcl
          obtain ⟨x, hx⟩ : ∃ x, srvO S n k = x := ⟨_, rfl⟩
          change okO (srvO S n k) at hok
          rw [hx] at hrg hok htk htb hcx hyl
          clear hx hlfe hce hcl
          obtain ⟨s, r, q, f, p, t⟩ := x
          have d0 := hcx 0 (.string s) rfl
          have d1 := hcx 1 (.int .i64 r) rfl
          have d2 := hcx 2 (.int .i64 q) rfl
          have d3 := hcx 3 (.int .i64 f) rfl
          have d4 := hcx 4 (.int .i64 p) rfl
          have d5 := hcx 5 (.int .i64 t) rfl
          rw [Nat.add_zero] at d0
          simp only at htk htb hyl
          obtain ⟨k0, k1, k2, k3, k4, k5⟩ := id hok
          simp only at k0 k1 k2 k3 k4 k5
          obtain ⟨w, hw⟩ : ∃ w, was g s = w := ⟨_, rfl⟩
          have hwI : I64 w := by rw [← hw]; exact HGI.out s
          have hfs : Hid (fnd I s m = w) := (HG.out s).trans hw
          rw [hw] at htk htb
          clear hw hcx
          have hBA := Lib.hid (balloc (Below.refl wr.heap.size wr) (.cells #[.string s, .int .i64 r, .int .i64 q, .int .i64 f, .int .i64 p, .int .i64 t] 43))
          have hFd := Lib.hid (HFO.out s w hfs (wr.alloc (.cells #[.string s, .int .i64 r, .int .i64 q, .int .i64 f, .int .i64 p, .int .i64 t] 43)) ((hI2.out.step hbw.out).step hBA.out))
          have ck' : (k : Int) < (n : Int) := by omega
          have c0 : (wr.alloc (.cells #[.string s, .int .i64 r, .int .i64 q, .int .i64 f, .int .i64 p, .int .i64 t] 43)).cell? ⟨wr.heap.size, 0, none⟩ = some (.string s) := by simp
          have c1 : (wr.alloc (.cells #[.string s, .int .i64 r, .int .i64 q, .int .i64 f, .int .i64 p, .int .i64 t] 43)).cell? ⟨wr.heap.size, 1, none⟩ = some (.int .i64 r) := by simp
          have c2 : (wr.alloc (.cells #[.string s, .int .i64 r, .int .i64 q, .int .i64 f, .int .i64 p, .int .i64 t] 43)).cell? ⟨wr.heap.size, 2, none⟩ = some (.int .i64 q) := by simp
          have c3 : (wr.alloc (.cells #[.string s, .int .i64 r, .int .i64 q, .int .i64 f, .int .i64 p, .int .i64 t] 43)).cell? ⟨wr.heap.size, 3, none⟩ = some (.int .i64 f) := by simp
          have c4 : (wr.alloc (.cells #[.string s, .int .i64 r, .int .i64 q, .int .i64 f, .int .i64 p, .int .i64 t] 43)).cell? ⟨wr.heap.size, 4, none⟩ = some (.int .i64 p) := by simp
          have c5 : (wr.alloc (.cells #[.string s, .int .i64 r, .int .i64 q, .int .i64 f, .int .i64 p, .int .i64 t] 43)).cell? ⟨wr.heap.size, 5, none⟩ = some (.int .i64 t) := by simp
          have hPU : wr.heap.size < (wr.alloc (.cells #[.string s, .int .i64 r, .int .i64 q, .int .i64 f, .int .i64 p, .int .i64 t] 43)).heap.size := by simp
          have hBU := Lib.hid (bstep hbw.out hBA.out)
          have hownU := hown.alloc (.cells #[.string s, .int .i64 r, .int .i64 q, .int .i64 f, .int .i64 p, .int .i64 t] 43)
          go_wp2_with fail
          refine hFd.out.mono ?_
          rintro e w5 ⟨rfl, rfl⟩
          clear hFd hown hbw d0 d1 d2 d3 d4 d5 hfs hlt1 hBA
          generalize wr.alloc (.cells #[.string s, .int .i64 r, .int .i64 q, .int .i64 f, .int .i64 p, .int .i64 t] 43) = U at *
          generalize wr.heap.size = P at *
          by_cases am : amt w
          · have HA := Lib.hid (fun W => rfits_is w true (decide_eq_true am) W)
            rw [if_neg (by simpa using am)] at htb
            obtain ⟨_, _, q0, q1, fa, ⟨p0, p1⟩, ta⟩ := id hrg
            simp only at q0 q1 fa p0 p1 ta
            unfold amt at am fa ta
            unfold fit at hlf
            go_wp2_with fail
            refine (HA.out _).mono ?_
            rintro e w5 ⟨rfl, rfl⟩
            clear HA
            obtain ⟨vo, hvo, hvr, hof⟩ := rof_is net hfb.out q q0 q1
            have HOF := Lib.hid hof
            obtain ⟨v1, hv1⟩ : ∃ v, (if f = 0 then vo else f) = v := ⟨_, rfl⟩
            have hv1w : Hid (v1 = wants net ⟨s, r, q, f, p, t⟩ ∨ (net < 0 ∧ lf ≤ net ∧ 0 ≤ p)) := by
              by_cases cf : f = 0
              · by_cases cn : net < 0
                · exact .inr ⟨cn, hlle, p0⟩
                · left
                  rw [← hv1, if_pos cf]
                  unfold wants
                  simp only [cf]
                  rw [if_neg (by simp), if_neg cn]
                  exact (hvr (by omega)).symm
              · left
                rw [← hv1, if_neg cf]
                unfold wants
                rw [if_pos cf]
            have hv1I : I64 v1 := by rw [← hv1]; split <;> assumption
            go_upto_if 46 with fail
            go_cut [14] (fun s14 wx => s14 = .int .i64 v1 ∧ Hid (Below U.heap.size U wx))
            case first =>
              by_cases cf : f = 0
              · have hv1' : Hid (v1 = vo) := by show _ = _; rw [← hv1, if_pos cf]
                subst cf
                clear hv1
                go_wp2_with fail
                refine (HOF.out _).mono ?_
                rintro e w6 ⟨rfl, hb6⟩
                go_wp2_with fail
                go_meet
                exact ⟨by rw [hv1'.out], hb6⟩
              · have hv1' : Hid (v1 = f) := by show _ = _; rw [← hv1, if_neg cf]
                have cf' : (f == 0) = false := by rw [beq_eq_false_iff_ne]; exact cf
                clear hv1 cf
                go_wp2_with fail
                go_meet
                exact ⟨by rw [hv1'.out], Below.refl _ _⟩
            case rest =>
              obtain ⟨rfl, hb6⟩ := hcut
              obtain ⟨v2, hv2⟩ : ∃ v, leftP w t = v := ⟨_, rfl⟩
              have hv2b := leftP_i64 w t
              rw [hv2] at hv2b
              obtain ⟨z1, hz1⟩ : ∃ v, (if v2 < v1 then v2 else v1) = v := ⟨_, rfl⟩
              obtain ⟨d, hd⟩ : ∃ v, lf - p = v := ⟨_, rfl⟩
              obtain ⟨z2, hz2⟩ : ∃ v, (if d < z1 then d else z1) = v := ⟨_, rfl⟩
              obtain ⟨z3, hz3⟩ : ∃ v, (if z2 < 0 then 0 else z2) = v := ⟨_, rfl⟩
              have hc3 : c = z3 := htk.trans (doc_takes (x := ⟨s, r, q, f, p, t⟩) hv1w.out hv2 hd hz1 hz2 hz3)
              have hz1I : I64 z1 := by rw [← hz1]; unfold I64 at hv1I ⊢; split <;> omega
              have hdI : -9223372036854775808 ≤ d ∧ d ≤ 9223372036854775807 := by omega
              have wd : IntKind.i64.wrap (lf - p) = d := by rw [hd]; exact IntWalk.i64_in _ hdI
              have HL := Lib.hid (fun W => rleft_is w ⟨s, r, q, f, p, t⟩ v2 hv2 W hwI k5)
              have HC3 := Lib.hid hc3
              have c0 := bc hb6.out hPU c0
              have c1 := bc hb6.out hPU c1
              have c2 := bc hb6.out hPU c2
              have c3 := bc hb6.out hPU c3
              have c4 := bc hb6.out hPU c4
              have c5 := bc hb6.out hPU c5
              have hPw : P < wc.heap.size := Nat.lt_of_lt_of_le hPU hb6.out.size
              have hown6 := own_below hownU hb6.out
              have HZ1 := Lib.hid hz1
              have HZ2 := Lib.hid hz2
              have HZ3 := Lib.hid hz3
              have hBV := Lib.hid (bstep hBU.out hb6.out)
              clear hof hvr hvo HOF hv1 hv2 hd hz1 hz2 hz3 hc3 hownU hBU hb6 hv1w
              generalize wc = V at *
              go_wp2_with fail
              refine (HL.out _).mono ?_
              rintro e w7 ⟨rfl, hb7⟩
              go_upto_if 58 with fail
              go_cut [14] (fun s14 wx => s14 = .int .i64 z1 ∧ Hid (Below V.heap.size V wx))
              case first =>
                by_cases b1 : v2 < v1
                · have hq : Hid (z1 = v2) := by show _ = _; rw [← HZ1.out, if_pos b1]
                  have e0 := bc hb7 hPw c0
                  have e1 := bc hb7 hPw c1
                  have e2 := bc hb7 hPw c2
                  have e3 := bc hb7 hPw c3
                  have e4 := bc hb7 hPw c4
                  have e5 := bc hb7 hPw c5
                  go_wp2_with fail
                  refine (HL.out _).mono ?_
                  rintro e w8 ⟨rfl, hb8⟩
                  go_wp2_with fail
                  go_meet
                  exact ⟨by rw [hq.out], bstep hb7 hb8⟩
                · have hq : Hid (z1 = v1) := by show _ = _; rw [← HZ1.out, if_neg b1]
                  go_wp2_with fail
                  go_meet
                  exact ⟨by rw [hq.out], hb7⟩
              case rest =>
                obtain ⟨rfl, hb8⟩ := hcut
                have c0 := bc hb8.out hPw c0
                have c4 := bc hb8.out hPw c4
                have hPx : P < wc.heap.size := Nat.lt_of_lt_of_le hPw hb8.out.size
                have hown8 := own_below hown6 hb8.out
                have hBX := Lib.hid (bstep hBV.out hb8.out)
                clear c1 c2 c3 c5 hPw hown6 hBV hb8 hb7 HZ1 HL
                generalize wc = X at *
                go_upto_if 67 with fail
                go_cut [14] (fun s14 wx => s14 = .int .i64 z2 ∧ wx = X)
                case first =>
                  by_cases b1 : d < z1
                  · have hq : Hid (z2 = d) := by show _ = _; rw [← HZ2.out, if_pos b1]
                    go_wp2_with fail
                    go_meet
                    exact ⟨by rw [hq.out], rfl⟩
                  · have hq : Hid (z2 = z1) := by show _ = _; rw [← HZ2.out, if_neg b1]
                    go_wp2_with fail
                    go_meet
                    exact ⟨by rw [hq.out], rfl⟩
                case rest =>
                  obtain ⟨rfl, rfl⟩ := hcut
                  go_upto_if 73 with fail
                  go_cut [14] (fun s14 wx => s14 = .int .i64 c ∧ wx = wc)
                  case first =>
                    by_cases b1 : z2 < 0
                    · have hq : Hid (c = 0) := by show _ = _; rw [HC3.out, ← HZ3.out, if_pos b1]
                      go_wp2_with fail
                      go_meet
                      exact ⟨by rw [hq.out], rfl⟩
                    · have hq : Hid (c = z2) := by show _ = _; rw [HC3.out, ← HZ3.out, if_neg b1]
                      go_wp2_with fail
                      go_meet
                      exact ⟨by rw [hq.out], rfl⟩
                  case rest =>
                    obtain ⟨rfl, rfl⟩ := hcut
                    have wwc : IntKind.i64.wrap (w + c) = w + c := IntWalk.i64_in _ (by omega)
                    have wlc : IntKind.i64.wrap (lf - c) = lf - c := IntWalk.i64_in _ (by omega)
                    have wk : IntKind.i64.wrap ((k : Int) + 1) = (k : Int) + 1 := IntWalk.i64_in _ (by omega)
                    by_cases ft : fit (w + c)
                    · have HA := Lib.hid (fun W => rfits_is (w + c) true (decide_eq_true (by unfold amt; unfold fit at ft; omega)) W)
                      rw [if_neg (by simpa using ft)] at htb
                      have hE := Lib.hid (hstp.trans htb)
                      have hyl' := Lib.hid hyl
                      obtain ⟨ie, hie, hi0, hi1, hi2⟩ := info_parts infoItm
                      have hownA := hown8.alloc (.cells #[.string s, .int .i64 c] 38)
                      have hnews : ∀ j u, [Value.string s, .int .i64 c][j]? = some u → (wc.alloc (.cells #[.string s, .int .i64 c] 38)).cell? ((⟨wc.heap.size, 0, none⟩ : Addr).add j) = some u :=
                        World.news_of_block (block_alloc_last wc (.cells #[.string s, .int .i64 c] 38 (0, 0)))
                      have hsz : w2.heap.size ≤ wc.heap.size := hBX.out.size
                      clear ft htb hbad hstp HZ2 HZ3 HC3 htk hyl hlf hlle hrg hok
                      go_wp2_with fail
                      refine (HA.out _).mono ?_
                      rintro e w9 ⟨rfl, rfl⟩
                      go_wp2_with (at_builtin; refine wpList_append_lies _ rfl _ _ 23 rfl w2.heap.size 38 ie (.agg #[.string ByteArray.empty, .int .i64 0]) 2 24 Try.underlying23 hie hi0 hi1 hi2 rfl (by decide) _ k _ rfl hownA ⟨wc.heap.size, 0, none⟩ 1 1 [.string s, .int .i64 c] rfl rfl hnews (by intro u hu; simp at hu; rcases hu with rfl | rfl <;> rfl) (by decide) (by unfold maxLen; omega) (by omega) (by simp; omega) _ rfl ?_)
                      intro g6 cp6 w6 hown2 hgr hat hglt
                      have hgr2 := grown_alloc hgr (fun j hj => (hown8.lt j hj).2)
                      have hbel2 := hBX.out.grown hgr2 hBX.out.size (fun j hj => (hown8.lt j hj).1)
                      have hown3 := own_next (c := fun j => ic (yl net g (srvO S n) j)) hown2 (by rw [hyl'.out]; rfl)
                      clear hown8 hownA hnews hown2 hgr hgr2 hat
                      go_wp2_with fail
                      go_roundw
                      case rel => exact ⟨k + 1, by omega, by go_num, by rw [hle.out], hE, hbel2, hown3⟩
                      case measure => simp [intOf]; omega
                    · have HA := Lib.hid (fun W => rfits_is (w + c) false (decide_eq_false (by unfold amt; unfold fit at ft; omega)) W)
                      rw [if_pos (by simpa using ft)] at htb
                      have hE := Lib.hid (hte.out.trans (hbad.out 9 htb (by omega)))
                      have hBz : Hid (Below W.heap.size W wc) := bstep hB2.out hBX.out
                      clear ft htb hbad hstp HZ2 HZ3 HC3 htk hyl hlf hlle hrg hok
                      go_wp2_with fail
                      refine (HA.out _).mono ?_
                      rintro e w9 ⟨rfl, rfl⟩
                      go_wp2_with fail
                      go_ret2
                      exact hgoal.out _ _ (rtake_bad 9 (by omega) hE.out hBz.out)
          · have HA := Lib.hid (fun W => rfits_is w false (decide_eq_false am) W)
            rw [if_pos (by simpa using am)] at htb
            have hE := Lib.hid (hte.out.trans (hbad.out 2 htb (by omega)))
            have hBz : Hid (Below W.heap.size W U) := bstep hB2.out hBU.out
            clear am htb hbad hstp
            go_wp2_with fail
            refine (HA.out _).mono ?_
            rintro e w5 ⟨rfl, rfl⟩
            go_wp2_with fail
            go_ret2
            exact hgoal.out _ _ (rtake_bad 2 (by omega) hE.out hBz.out)
        · obtain rfl : k = n := by omega
          obtain ⟨a6, cap6, rfl, hl6⟩ := own_lst (z := 2) (fun q => rfl) hown (by omega)
          have ck' : ¬ (k : Int) < (k : Int) := by omega
          have hE := hte.out.trans he0.out
          have hBz : Hid (Below W.heap.size W wr) := bstep hB2.out hbw.out
          go_wp2_with fail
          go_ret2
          exact hgoal.out _ _ ⟨hBz.out, by rw [if_pos hE]; exact ⟨a6, cap6, rfl, hl6⟩⟩
    · have hte := takeErr_chk (g := pm I m) hft hck
      have hck' : (check S n != 0) = true := by rw [bne_iff_ne]; exact hck
      have HTE := Lib.hid hte
      have HCK := Lib.hid hck
      clear hte hl hI
      generalize check S n = c at *
      go_enter Try.func15, Try.ntmps15
      go_wp2_with fail
      refine (HF.out _).mono ?_
      rintro e w0 ⟨rfl, rfl⟩
      go_wp2_with fail
      refine HC.out.mono ?_
      rintro e w1 ⟨rfl, hb1⟩
      go_wp2_with fail
      go_ret2
      exact rtake_bad c HCK.out HTE.out hb1
  · have HF := Lib.hid (fun W => ref_fits net false (decide_eq_false hft) W)
    have HTE := Lib.hid (takeErr_net (g := pm I m) (S := S) (n := n) hft)
    clear hl hI
    go_enter Try.func15, Try.ntmps15
    go_wp2_with fail
    refine (HF.out _).mono ?_
    rintro e w0 ⟨rfl, rfl⟩
    go_wp2_with fail
    go_ret2
    exact rtake_bad 2 (by omega) HTE.out (Below.refl _ _)
end Go.Proofs.Ytjfcbflhnfjcfaa.W
