/- The document's sort of orders: one behind the other, each where it belongs. -/
import Derived.Test.YtjfcbflhnfjcfaaAtI
import Derived.Test.YtjfcbflhnfjcfaaAtD
import Derived.Test.YtjfcbflhnfjcfaaAtLB
import Derived.Test.YtjfcbflhnfjcfaaBlk
import Derived.Test.YtjfcbflhnfjcfaaLstA
import Derived.StillTailTactics
import Derived.Deep.RegionHeld2
import Derived.BigQuiet
import Derived.Deep.DeepCutAuto
import Derived.Deep.CutBlock
namespace Go.Proofs.Ytjfcbflhnfjcfaa.S
open Go.Proofs.Ytjfcbflhnfjcfaa.B Go.Proofs.Ytjfcbflhnfjcfaa.M
set_option linter.unusedVariables false
/-- The first i, as the document has sorted them. -/
def Qd (S : Nat → Ord) (i : Nat) : Nat → Ord := fun j => S ((dsrv S i).getD j 0)
def pd (S : Nat → Ord) (i : Nat) : Nat := posOf (fun j => !aheadAt S i j) (dsrv S i)
theorem dsrv_len (S : Nat → Ord) (i : Nat) : (dsrv S i).length = i := by rw [(dsrv_perm S i).length_eq, List.length_range]
theorem pd_le (S : Nat → Ord) (i : Nat) : pd S i ≤ i := by have := posOf_le (fun j => !aheadAt S i j) (dsrv S i); rw [dsrv_len] at this; exact this
theorem Qd_ahead (S : Nat → Ord) (i j : Nat) : Go.Proofs.Ytjfcbflhnfjcfaa.S.ahead (S i) (Qd S i j) = aheadAt S i ((dsrv S i).getD j 0) := rfl
theorem pd_is {S : Nat → Ord} {i k : Nat} (hk : k ≤ i) (h1 : ∀ j, j < k → Go.Proofs.Ytjfcbflhnfjcfaa.S.ahead (S i) (Qd S i j) = false) (h2 : k < i → Go.Proofs.Ytjfcbflhnfjcfaa.S.ahead (S i) (Qd S i k) = true) : k = pd S i := by
  refine posOf_is _ _ k (by rw [dsrv_len]; exact hk) (fun j hj => ?_) (fun hlt => ?_)
  · have := h1 j hj
    rw [Qd_ahead] at this
    show (!aheadAt S i ((dsrv S i).getD j 0)) = true
    rw [this]; rfl
  · rw [dsrv_len] at hlt
    have := h2 hlt
    rw [Qd_ahead] at this
    show (!aheadAt S i ((dsrv S i).getD k 0)) = false
    rw [this]; rfl
theorem XR_add (c : Nat → List Value) (p : Nat) : ∀ m, XR c (p + m) = XR c p ++ XR (fun j => c (p + j)) m
  | 0 => by simp [XR]
  | m + 1 => by
    show XR c (p + m) ++ c (p + m) = XR c p ++ (XR _ m ++ c (p + m))
    rw [XR_add c p m, List.append_assoc]
theorem Qd_next (S : Nat → Ord) (i : Nat) : XR (fun j => ocells (Qd S (i + 1) j)) (i + 1) = XR (fun j => ocells (Qd S i j)) (pd S i) ++ ocells (S i) ++ XR (fun j => ocells (Qd S i (pd S i + j))) (i - pd S i) := by
  have hp := pd_le S i
  have hL := dsrv_len S i
  have e : dsrv S (i + 1) = (dsrv S i).take (pd S i) ++ i :: (dsrv S i).drop (pd S i) := rfl
  rw [show i + 1 = pd S i + (1 + (i - pd S i)) by omega, XR_add, List.append_assoc]
  have hpl : ((dsrv S i).take (pd S i)).length = pd S i := by rw [List.length_take, hL]; omega
  rw [show pd S i + (1 + (i - pd S i)) = i + 1 by omega]
  congr 1
  · refine XR_congr _ (fun j hj => ?_)
    show ocells (S ((dsrv S (i + 1)).getD j 0)) = ocells (S ((dsrv S i).getD j 0))
    rw [e, List.getD_eq_getElem?_getD, List.getElem?_append_left (by rw [hpl]; exact hj), List.getElem?_take, if_pos hj, ← List.getD_eq_getElem?_getD]
  · rw [XR_add]
    congr 1
    · show [] ++ ocells (S ((dsrv S (i + 1)).getD (pd S i + 0) 0)) = _
      rw [e, List.getD_eq_getElem?_getD, List.getElem?_append_right (by rw [hpl]; omega), hpl, show pd S i + 0 - pd S i = 0 by omega]
      rfl
    · refine XR_congr _ (fun j hj => ?_)
      show ocells (S ((dsrv S (i + 1)).getD (pd S i + (1 + j)) 0)) = ocells (S ((dsrv S i).getD (pd S i + j) 0))
      rw [e, List.getD_eq_getElem?_getD, List.getElem?_append_right (by rw [hpl]; omega), hpl, show pd S i + (1 + j) - pd S i = j + 1 by omega, List.getElem?_cons_succ, List.getElem?_drop, ← List.getD_eq_getElem?_getD]
theorem Qd_all (S : Nat → Ord) (n j : Nat) : Qd S n j = srvO S n j := by unfold Qd srvO srv; rw [dsrv_is]
end Go.Proofs.Ytjfcbflhnfjcfaa.S
namespace Go.Proofs.Ytjfcbflhnfjcfaa.W
open Go.RowKit Go.Proofs.Ytjfcbflhnfjcfaa.M Go.Proofs.Ytjfcbflhnfjcfaa.B Go.Proofs.Ytjfcbflhnfjcfaa.S
open Go.Maps (Keyed)
set_option linter.unusedVariables false

theorem infoOrd2 : (Try.prog.info? 43).map (fun i => (i.zero, i.size, i.bytes)) = some (some (.agg #[.string ByteArray.empty, .int .i64 0, .int .i64 0, .int .i64 0, .int .i64 0, .int .i64 0]), 6, 56) := by kernel_rfl
theorem or_one (x : Ord) : ∀ u ∈ ocells x, u.oneCell' = true := by
  intro u hu
  simp [ocells] at hu
  rcases hu with rfl | rfl | rfl | rfl | rfl | rfl <;> rfl
theorem lst_head {z : Nat} {w : World} {a : Option Addr} {n k : Nat} {c : Nat → List Value} (h : Lst z w a n c) (hk : k ≤ n) : Lst z w a k c :=
  ⟨Nat.le_trans (by omega) h.1, fun h0 => by
    obtain ⟨b, off, ha, hlt, hc⟩ := h.2 (by omega)
    exact ⟨b, off, ha, hlt, fun j hj => hc j (by omega)⟩⟩
theorem add_to (b off q : Nat) : (⟨b, off, none⟩ : Addr).add q = ⟨b, off + q, none⟩ := by unfold Addr.add; split <;> simp_all
/-- A list from its p'th element on. -/
theorem slice_tail (a : Option Addr) (i cap p : Nat) (hp : p ≤ i) (hic : i ≤ cap) (hcap : cap ≤ maxLen) (hnil : a = none → i = 0 ∧ cap = 0) :
    ∃ a2 : Option Addr, (∀ w, (Instr.slice 24 (.slice a i cap) (some (.int .i64 (p : Int))) none none).run Try.prog w = .ok (.slice a2 (i - p) (cap - p)) w) ∧
      (∀ (w : World) (c : Nat → List Value), Lst 6 w a i c → Lst 6 w a2 (i - p) (fun j => c (p + j))) ∧ (a2 = none → i - p = 0 ∧ cap - p = 0) := by
  refine ⟨if cap = p then a else a.map (·.add (p * 6)), fun w => ?_, fun w c h => ⟨by have := h.1; omega, fun h0 => ?_⟩, fun h => ?_⟩
  · have h1 : (p : Int) ≤ (i : Int) := by omega
    have h0 : (0 : Int) ≤ (p : Int) := by omega
    go_simp
  · obtain ⟨b, off, rfl, hlt, hc⟩ := h.2 (by omega)
    refine ⟨b, off + p * 6, ?_, hlt, fun j hj z u hu => ?_⟩
    · rw [if_neg (by omega)]
      show some ((⟨b, off, none⟩ : Addr).add (p * 6)) = _
      rw [add_to]
    · have := hc (p + j) (by omega) z u hu
      rw [show off + p * 6 + j * 6 + z = off + (p + j) * 6 + z by omega]
      exact this
  · by_cases e : cap = p
    · rw [if_pos e] at h
      have := hnil h; omega
    · rw [if_neg e] at h
      have := hnil (by simpa using h); omega
theorem slice_head (a : Option Addr) (i cap p : Nat) (hp : p ≤ i) (hic : i ≤ cap) (hf : a = none ∨ ∃ b off, a = some ⟨b, off, none⟩) :
    ∀ w, (Instr.slice 24 (.slice a i cap) none (some (.int .i64 (p : Int))) none).run Try.prog w = .ok (.slice a p cap) w := by
  intro w
  have h1 : (p : Int) ≤ (cap : Int) := by omega
  have h0 : (0 : Int) ≤ (p : Int) := by omega
  rcases hf with rfl | ⟨b, off, rfl⟩
  · go_simp
  · go_simp

theorem rsort_next {w : World} {B : Nat} {T : TypeId} {v : Value} {S : Nat → Ord} {i p m2 : Nat} (hp : p = pd S i) (hm : p + m2 = i) {x : Ord} (hx : S i = x) (h : w.ownsRow B T 6 v (p + 1 + m2) (XR (fun j => ocells (Qd S i j)) p ++ ocells x ++ XR (fun j => ocells (Qd S i (p + j))) m2)) (hi : i ≤ 1000) :
    ∃ a cap, v = .slice a (i + 1) cap ∧ (a = none → i + 1 = 0 ∧ cap = 0) ∧ (a = none ∨ ∃ b off, a = some ⟨b, off, none⟩) ∧ i + 1 ≤ cap ∧ cap ≤ maxLen ∧ Lst 6 w a (i + 1) (fun j => ocells (Qd S (i + 1) j)) := by
  subst hx
  have e : XR (fun j => ocells (Qd S i j)) p ++ ocells (S i) ++ XR (fun j => ocells (Qd S i (p + j))) m2 = XR (fun j => ocells (Qd S (i + 1) j)) (i + 1) := by
    rw [Qd_next, ← hp, show i - p = m2 by omega]
  rw [e, show p + 1 + m2 = i + 1 by omega] at h
  obtain ⟨a, cap, rfl, hl⟩ := own_lst (z := 6) (fun j => rfl) h (by omega)
  rcases h.2 with ⟨hv, h0⟩ | ⟨g', cap', cur, hv, _, _, h1, h2, _⟩
  · omega
  · injection hv with ha hn hc
    subst ha hc
    exact ⟨_, _, rfl, (fun h => by cases h), .inr ⟨_, _, rfl⟩, h1, h2, hl⟩

def RSortOut (S : Nat → Ord) (n : Nat) (W : World) (e : Ending) (w' : World) : Prop :=
  ∃ a cap, e = .returned (.slice a n cap) ∧ Lst 6 w' a n (fun j => ocells (srvO S n j)) ∧ (a = none → n = 0 ∧ cap = 0) ∧ n ≤ cap ∧ cap ≤ maxLen ∧ Below W.heap.size W w'
set_option maxRecDepth 100000 in
set_option maxHeartbeats 8000000 in
theorem rsort_is (S : Nat → Ord) (a0 : Option Addr) (n cap0 : Nat) (W : World) (hl : Lst 6 W a0 n (fun j => ocells (S j))) (hn : n ≤ 1000) :
    Calls Try.prog 21 #[.slice a0 n cap0] W (RSortOut S n W) := by
  have HLL := Lib.hid hl
  clear hl
  go_enter Try.func21, Try.ntmps21
  go_wp2_with fail
  go_loopw [3, 4] (fun s3 s4 wx => ∃ (i : Nat) (a : Option Addr) (cap : Nat), i ≤ n ∧ s4 = .int .i64 i ∧ s3 = .slice a i cap ∧ Hid (a = none → i = 0 ∧ cap = 0) ∧ (a = none ∨ ∃ b off, a = some ⟨b, off, none⟩) ∧ i ≤ cap ∧ cap ≤ maxLen ∧ Hid (Lst 6 wx a i (fun j => ocells (Qd S i j))) ∧ Hid (Below W.heap.size W wx)) (fun _ s4 _ => n - (intOf s4).toNat)
  case atStart => exact ⟨0, none, 0, Nat.zero_le _, rfl, rfl, fun _ => ⟨rfl, rfl⟩, .inl rfl, Nat.le_refl _, Nat.zero_le _, ⟨by omega, fun h => absurd h (by omega)⟩, Below.refl _ _⟩
  case round =>
    obtain ⟨i, a, cap, hi, rfl, rfl, hnil, hform, hic, hcap, hQ, hbw⟩ := hrel
    have hlw := Lib.hid (HLL.out.step hbw.out)
    by_cases ci : i < n
    · have ci' : (i : Int) < (n : Int) := by omega
      have hpd := Lib.hid (fun k => @pd_is S i k)
      have HFORM := Lib.hid hform
      clear hform
      have hBw := Lib.hid hbw.out
      go_upto_block 2 with fail
      generalize wr = w0 at *
      go_cut [5] (fun s5 wx => ∃ p : Nat, p = pd S i ∧ p ≤ i ∧ s5 = .int .i64 p ∧ Hid (Below w0.heap.size w0 wx))
      case first =>
        obtain ⟨⟨s, r, u, f, q, t⟩, hx⟩ : ∃ x, S i = x := ⟨_, rfl⟩
        go_wp2_with fail
        go_loopw [5] (fun s5 wx => ∃ j : Nat, j ≤ i ∧ s5 = .int .i64 j ∧ Hid (∀ k, k < j → Go.Proofs.Ytjfcbflhnfjcfaa.S.ahead (S i) (Qd S i k) = false) ∧ Hid (Below w0.heap.size w0 wx)) (fun s5 _ => i - (intOf s5).toNat)
        case atStart => exact ⟨0, Nat.zero_le _, rfl, fun k hk => absurd hk (by omega), Below.refl _ _⟩
        case round =>
          obtain ⟨j, hj, rfl, hjj, hbj⟩ := hrel
          by_cases cj : j < i
          · have cj' : (j : Int) < (i : Int) := by omega
            obtain ⟨b1, o1, rfl, hlt1, hc1⟩ := (hlw.out.step hbj.out).at_ ci
            obtain ⟨b2, o2, rfl, hlt2, hc2⟩ := (hQ.out.step hbj.out).at_ cj
            rw [hx] at hc1
            obtain ⟨⟨s', r', u', f', q', t'⟩, hx'⟩ : ∃ x, Qd S i j = x := ⟨_, rfl⟩
            rw [hx'] at hc2
            have d0 := hc1 0 (.string s) rfl
            have d1 := hc1 1 (.int .i64 r) rfl
            have d2 := hc1 2 (.int .i64 u) rfl
            have d3 := hc1 3 (.int .i64 f) rfl
            have d4 := hc1 4 (.int .i64 q) rfl
            have d5 := hc1 5 (.int .i64 t) rfl
            have e0 := hc2 0 (.string s') rfl
            have e1 := hc2 1 (.int .i64 r') rfl
            have e2 := hc2 2 (.int .i64 u') rfl
            have e3 := hc2 3 (.int .i64 f') rfl
            have e4 := hc2 4 (.int .i64 q') rfl
            have e5 := hc2 5 (.int .i64 t') rfl
            rw [Nat.add_zero] at d0 e0
            have wj : IntKind.i64.wrap ((j : Int) + 1) = (j : Int) + 1 := IntWalk.i64_in _ (by omega)
            have z0i : (0 : Int) ≤ (i : Int) := by omega
            have z0j : (0 : Int) ≤ (j : Int) := by omega
            obtain ⟨b, hb⟩ : ∃ b, Go.Proofs.Ytjfcbflhnfjcfaa.S.ahead ⟨s, r, u, f, q, t⟩ ⟨s', r', u', f', q', t'⟩ = b := ⟨_, rfl⟩
            have HA := Lib.hid (fun w => rahead_is ⟨s, r, u, f, q, t⟩ ⟨s', r', u', f', q', t'⟩ b hb w)
            have HAB : Hid (Go.Proofs.Ytjfcbflhnfjcfaa.S.ahead (S i) (Qd S i j) = b) := by show _ = _; rw [hx, hx']; exact hb
            clear hc1 hc2 hx' hb
            go_upto_region 6 with fail
            go_still_tail 13, (by kernel_rfl)
            change wpList _ _ _ _ _ wr.drew
            have hbd : Hid (Below w0.heap.size w0 wr.drew) := Below.drew hbj.out
            clear d0 d1 d2 d3 d4 d5 e0 e1 e2 e3 e4 e5
            generalize wr.drew = w2 at *
            go_wp2_with fail
            refine (HA.out _).mono ?_
            rintro e w3 ⟨rfl, hb3⟩
            have hb3' : Hid (Below w0.heap.size w0 w3) := bstep hbd.out hb3
            cases b with
            | true =>
              have hpp : Hid (j = pd S i) := hpd.out j (by omega) hjj.out (fun _ => HAB.out)
              go_wp2_with fail
              go_meet
              exact ⟨j, hpp.out, by omega, rfl, hb3'⟩
            | false =>
              have hnx : Hid (∀ k, k < j + 1 → Go.Proofs.Ytjfcbflhnfjcfaa.S.ahead (S i) (Qd S i k) = false) := fun k hk => by
                by_cases e : k = j
                · subst e; exact HAB.out
                · exact hjj.out k (by omega)
              go_wp2_with fail
              go_roundw
              case rel => exact ⟨j + 1, by omega, by go_num, hnx, hb3'⟩
              case measure => simp [intOf]; omega
          · obtain rfl : j = i := by omega
            have hpp : Hid (j = pd S j) := hpd.out j (by omega) hjj.out (fun h => absurd h (by omega))
            go_wp2_with fail
            go_quiet (fail)
            go_wp2_with fail
            go_meet
            exact ⟨j, hpp.out, by omega, rfl, below_drewN hbj.out _⟩
      case rest =>
        obtain ⟨p, hp, hpi, rfl, hbc⟩ := hcut
        have hi1 : i ≤ 1000 := by omega
        obtain ⟨⟨s, r, u, f, q, t⟩, hx⟩ : ∃ x, S i = x := ⟨_, rfl⟩
        obtain ⟨b1, o1, rfl, hlt1, hc1⟩ := (hlw.out.step hbc.out).at_ ci
        rw [hx] at hc1
        have d0 := hc1 0 (.string s) rfl
        have d1 := hc1 1 (.int .i64 r) rfl
        have d2 := hc1 2 (.int .i64 u) rfl
        have d3 := hc1 3 (.int .i64 f) rfl
        have d4 := hc1 4 (.int .i64 q) rfl
        have d5 := hc1 5 (.int .i64 t) rfl
        rw [Nat.add_zero] at d0
        have hs1 := slice_head a i cap p hpi hic HFORM.out
        obtain ⟨a2, hs2, hq2, hn2⟩ := slice_tail a i cap p hpi hic hcap hnil.out
        obtain ⟨m2, hm2⟩ : ∃ m, i - p = m := ⟨_, rfl⟩
        obtain ⟨c2, hc2⟩ : ∃ m, cap - p = m := ⟨_, rfl⟩
        rw [hm2, hc2] at hs2 hn2
        rw [hm2] at hq2
        obtain ⟨Q, hQd⟩ : ∃ Q, Q = Qd S i := ⟨_, rfl⟩
        have HQA : Hid (Lst 6 wc a i (fun j => ocells (Q j))) := by rw [hQd]; exact hQ.out.step hbc.out
        have HQP : Hid (Lst 6 wc a p (fun j => ocells (Q j))) := lst_head HQA.out hpi
        have HQ2 : Hid (∀ w : World, Lst 6 w a i (fun j => ocells (Q j)) → Lst 6 w a2 m2 (fun j => ocells (Q (p + j)))) := fun w h => hq2 w _ h
        have hnilp : a = none → p = 0 ∧ cap = 0 := fun h => by have := hnil.out h; omega
        have hnil2 : a2 = none → m2 = 0 ∧ c2 = 0 := hn2
        have hm3 : p + m2 = i := by omega
        have HX := Lib.hid hx
        have HP := Lib.hid hp
        have HQD := Lib.hid hQd
        have HM := Lib.hid hm3
        have hm4 : p + m2 ≤ 1000 := by omega
        have wi : IntKind.i64.wrap ((i : Int) + 1) = (i : Int) + 1 := IntWalk.i64_in _ (by omega)
        have hbV : Hid (Below W.heap.size W wc) := bstep hBw.out hbc.out
        obtain ⟨ie, hie, he0, he1, he2⟩ := info_parts infoOrd2
        clear hc1 hq2 hn2 hm2 hc2 hx hp hQd hm3 hbw hBw hlw hQ hnil hbc hpd HFORM hic hcap HLL
        generalize wc = V at *
        go_upto_region 8 with fail
        go_region_held2 (fun w' => Below V.heap.size V w' ∧ ∀ b o, b < V.heap.size → w'.cell? ⟨b, o, none⟩ = V.cell? ⟨b, o, none⟩)
            ((refine keepS ?_; first | with_reducible exact (Below.refl _ _).drew | with_reducible exact hB5 | with_reducible exact hB6 | with_reducible exact hB7 | with_reducible exact balloc (And.left (by assumption)) _ | with_reducible exact balloc_drew (And.left (by assumption)) _))
            (first | ((with_reducible refine if_step ?_); refine step_append_lst rfl (.tmp 30) (.tmp 33) 24 rfl V.heap.size 43 ie (.agg #[.string ByteArray.empty, .int .i64 0, .int .i64 0, .int .i64 0, .int .i64 0, .int .i64 0]) 6 56 Try.underlying24 hie he0 he1 he2 rfl (by decide) _ 0 [] rfl (own_blk (by first | with_reducible exact blk_t00 | with_reducible exact blk_t10 | with_reducible exact blk_t11 | with_reducible exact blk_t20 | with_reducible exact blk_t21 | with_reducible exact blk_t22 | with_reducible exact blk_drew blk_t00 | with_reducible exact blk_drew blk_t10 | with_reducible exact blk_drew blk_t11 | with_reducible exact blk_drew blk_t20 | with_reducible exact blk_drew blk_t21 | with_reducible exact blk_drew blk_t22) (by first | exact Nat.le_refl _ | omega)) a p cap (fun j => ocells (Q j)) (fun j => rfl) (fun j => or_one (Q j)) rfl (HQP.out.step (And.left (by assumption))) hnilp (by unfold maxLen; omega) (by omega) (szS (by assumption)) ?_; intro v1 w5 hown1 hgr1; have hB5 : Below V.heap.size V w5 := grS (by assumption) hgr1 (fun z hz => by simp [Act.eval, Value.ownBlock] at hz; omega); rw [Nat.zero_add, List.nil_append] at hown1; (try (refine lay_sl (u := .cells #[.string s, .int .i64 r, .int .i64 u, .int .i64 f, .int .i64 q, .int .i64 t] 43 (0, 0)) (.tmp 39) rfl (blk_grown hgr1 (by first | with_reducible exact blk_t00 | with_reducible exact blk_t10 | with_reducible exact blk_t11 | with_reducible exact blk_t20 | with_reducible exact blk_t21 | with_reducible exact blk_t22 | with_reducible exact blk_drew blk_t00 | with_reducible exact blk_drew blk_t10 | with_reducible exact blk_drew blk_t11 | with_reducible exact blk_drew blk_t20 | with_reducible exact blk_drew blk_t21 | with_reducible exact blk_drew blk_t22) (by simp [Act.eval, Value.ownBlock] <;> omega)) ?_; intro e39))) | ((with_reducible refine if_step ?_); refine step_append_lies (w := _) rfl (.tmp 34) (.tmp 39) 24 rfl V.heap.size 43 ie (.agg #[.string ByteArray.empty, .int .i64 0, .int .i64 0, .int .i64 0, .int .i64 0, .int .i64 0]) 6 56 Try.underlying24 hie he0 he1 he2 rfl (by decide) v1 p _ rfl (by first | with_reducible exact hown1 | with_reducible exact hown1.alloc _ | with_reducible exact hown1.drew | with_reducible exact (hown1.alloc _).drew) _ 1 1 [.string s, .int .i64 r, .int .i64 u, .int .i64 f, .int .i64 q, .int .i64 t] rfl rfl (World.news_of_block (by first | with_reducible exact e39 | with_reducible exact blk_old e39 | with_reducible exact blk_t00 | with_reducible exact blk_t10 | with_reducible exact blk_t11 | with_reducible exact blk_t20 | with_reducible exact blk_t21 | with_reducible exact blk_t22 | with_reducible exact blk_drew blk_t00 | with_reducible exact blk_drew blk_t10 | with_reducible exact blk_drew blk_t11 | with_reducible exact blk_drew blk_t20 | with_reducible exact blk_drew blk_t21 | with_reducible exact blk_drew blk_t22 | with_reducible exact blk_drew (e39) | with_reducible exact blk_drew (blk_old e39))) (by intro z hz; simp at hz; rcases hz with rfl | rfl | rfl | rfl | rfl | rfl <;> rfl) (by decide) (by unfold maxLen; omega) (by omega) (szS (by assumption)) _ rfl ?_; intro g cp w6 hown2 hgr2 hat2 hglt2; have hB6 : Below V.heap.size V w6 := grS (by assumption) hgr2 (fun z hz => (hown1.lt z hz).1)) | ((with_reducible refine if_step ?_); refine step_append_lst rfl (.tmp 40) (.tmp 43) 24 rfl V.heap.size 43 ie (.agg #[.string ByteArray.empty, .int .i64 0, .int .i64 0, .int .i64 0, .int .i64 0, .int .i64 0]) 6 56 Try.underlying24 hie he0 he1 he2 rfl (by decide) _ (p + 1) _ rfl hown2 a2 m2 c2 (fun j => ocells (Q (p + j))) (fun j => rfl) (fun j => or_one (Q (p + j))) rfl (HQ2.out _ (HQA.out.step (And.left (by assumption)))) hnil2 (by unfold maxLen; omega) (by omega) (szS (by assumption)) ?_; intro v3 w7 hown3 hgr3; have hB7 : Below V.heap.size V w7 := grS (by assumption) hgr3 (fun z hz => (hown2.lt z hz).1)))
        all_goals
          go_wp2_with fail
          have hown4 : w7.ownsRow V.heap.size 43 6 v3 (p + 1 + m2) (XR (fun j => ocells (Qd S i j)) p ++ ocells ⟨s, r, u, f, q, t⟩ ++ XR (fun j => ocells (Qd S i (p + j))) m2) := by rw [← HQD.out]; exact hown3
          obtain ⟨a5, cap5, hv5, hnil5, hform5, hic5, hcap5, hl5⟩ := rsort_next HP.out HM.out HX.out hown4 hi1
          have hBZ := bstep hbV.out hB7
          go_roundw
          case rel => exact ⟨i + 1, a5, cap5, by omega, by go_num, hv5, hnil5, hform5, hic5, hcap5, hl5, hBZ⟩
          case measure => simp [intOf]; omega
    · obtain rfl : i = n := by omega
      go_wp2_with fail
      go_ret
      exact ⟨a, cap, rfl, by
        have h1 := hQ.out
        refine ⟨h1.1, fun h0 => ?_⟩
        obtain ⟨b, off, ha, hlt, hc⟩ := h1.2 h0
        exact ⟨b, off, ha, hlt, fun j hj => by have h2 := hc j hj; simp only [Qd_all] at h2; exact h2⟩, hnil.out, hic, hcap, hbw.out⟩
end Go.Proofs.Ytjfcbflhnfjcfaa.W
