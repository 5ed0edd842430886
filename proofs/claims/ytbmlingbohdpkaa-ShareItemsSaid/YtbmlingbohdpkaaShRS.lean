/- ShareSplits: the walks of the document's wrong and Split; the statement's. -/
import Derived.Test.YtbmlingbohdpkaaShR
import Derived.Test.YtbmlingbohdpkaaShN
namespace Go.Proofs.Ytbmlingbohdpkaa.W
open Go.RowKit Go.Proofs.Ytbmlingbohdpkaa.M Go.Proofs.Ytbmlingbohdpkaa.B Go.Proofs.Ytbmlingbohdpkaa.H
set_option linter.unusedVariables false

theorem wrong_is (c : Int) (a : Option Addr) (n cap : Nat) (f : Nat → Int) (W : World) (hc : -9223372036854775808 ≤ c ∧ c ≤ 9223372036854775807) (hx : Vec .i64 W a n cap f) (hI : ∀ i, i < n → -9223372036854775808 ≤ f i ∧ f i ≤ 9223372036854775807) :
    Calls Try.prog 23 #[.int .i64 c, .slice a n cap] W fun e w' => e = .returned (.int .i64 (serr c f n)) ∧ W = w' := by
  by_cases d1 : c < -1125899906842624
  · have hw : serr c f n = 9 := by unfold serr; rw [if_pos (.inl d1)]
    have HW := Lib.hid hw
    have d2 : decide (1125899906842624 < c) = false := decide_eq_false (by omega)
    clear hw hI
    go_enter Try.func23, Try.ntmps23
    go_wp2_with fail
    go_ret
    exact ⟨ret_int HW.out.symm, rfl⟩
  have d1' : decide (c < -1125899906842624) = false := decide_eq_false d1
  by_cases d2 : 1125899906842624 < c
  · have hw : serr c f n = 9 := by unfold serr; rw [if_pos (.inr d2)]
    have HW := Lib.hid hw
    clear hw hI
    go_enter Try.func23, Try.ntmps23
    go_wp2_with fail
    go_ret
    exact ⟨ret_int HW.out.symm, rfl⟩
  have hse : serr c f n = werr f n := by unfold serr; rw [if_neg (by omega)]
  rw [hse]
  clear hse
  by_cases c0 : n = 0
  · subst c0
    have hw : werr f 0 = 10 := rfl
    rw [hw]
    go_enter Try.func23, Try.ntmps23
    go_wp2_with fail
    go_ret
    exact ⟨rfl, rfl⟩
  have hmax := hx.1
  have c0' : ¬ (n : Int) = 0 := by omega
  have c0'' : ((n : Int) == 0) = false := beq_eq_false_iff_ne.2 c0'
  by_cases c1 : 64 < n
  · have hw : werr f n = 5 := by unfold werr; rw [if_neg c0, if_pos c1]
    have c1' : (64 : Int) < (n : Int) := by omega
    rw [hw]
    go_enter Try.func23, Try.ntmps23
    go_wp2_with fail
    go_ret
    exact ⟨rfl, rfl⟩
  have c1' : ¬ (64 : Int) < (n : Int) := by omega
  have HI := Lib.hid hI
  have C0 := Lib.hid c0
  have C1 := Lib.hid c1
  clear hI c0 c1
  go_enter Try.func23, Try.ntmps23
  go_wp2_with fail
  go_loop [5, 6] (fun s4 s17 => ∃ (k : Nat) (t : Int), k ≤ n ∧ s17 = .int .i64 k ∧ s4 = .int .i64 t ∧ 0 ≤ t ∧ t ≤ k * 1125899906842624 ∧ Hid (sm f k = t ∧ ∀ i, i < k → 0 ≤ f i ∧ f i ≤ 1125899906842624)) (fun _ i => n - (intOf i).toNat)
  case atStart => exact ⟨0, 0, Nat.zero_le _, rfl, rfl, by omega, by omega, rfl, fun i hi => absurd hi (by omega)⟩
  case round =>
    obtain ⟨k, t, hk, rfl, rfl, t0, t1, hok⟩ := hrel
    by_cases c : k < n
    · obtain ⟨bb, off, rfl, hbl, hcell⟩ := hx.at_ c
      have hxb := HI.out k c
      generalize hbb : f k = x at *
      have HB := Lib.hid hbb; clear hbb
      have hk64 : (k : Int) < 64 := by omega
      by_cases o0 : x < 0
      · have hfin : Hid (werr f n = 2) := by
          show _ = _
          unfold werr
          rw [if_neg C0.out, if_neg C1.out, if_neg (fun h => by have := h k c; rw [HB.out] at this; omega)]
        go_wp2_with fail
        go_ret
        exact ⟨ret_int hfin.out.symm, rfl⟩
      by_cases o1 : 1125899906842624 < x
      · have hfin : Hid (werr f n = 2) := by
          show _ = _
          unfold werr
          rw [if_neg C0.out, if_neg C1.out, if_neg (fun h => by have := h k c; rw [HB.out] at this; omega)]
        go_wp2_with fail
        go_ret
        exact ⟨ret_int hfin.out.symm, rfl⟩
      · have hnx : Hid (sm f (k + 1) = t + x ∧ ∀ i, i < k + 1 → 0 ≤ f i ∧ f i ≤ 1125899906842624) := by
          refine ⟨by unfold sm; rw [hok.out.1, HB.out], fun i hi => ?_⟩
          by_cases e : i = k
          · subst e; rw [HB.out]; omega
          · exact hok.out.2 i (by omega)
        have o1' : decide (1125899906842624 < x) = false := decide_eq_false o1
        go_wp2_with fail
        go_round
        case rel => exact ⟨k + 1, t + x, by omega, by go_num, by go_num, by omega, by omega, hnx⟩
        case measure => simp [intOf]; omega
    · obtain rfl : k = n := by omega
      by_cases z : t = 0
      · have hfin : Hid (werr f k = 22) := by
          show _ = _
          unfold werr
          rw [if_neg C0.out, if_neg C1.out, if_pos hok.out.2, hok.out.1, if_pos z]
        subst z
        go_wp2_with fail
        go_ret
        exact ⟨ret_int hfin.out.symm, rfl⟩
      · have hfin : Hid (werr f k = 0) := by
          show _ = _
          unfold werr
          rw [if_neg C0.out, if_neg C1.out, if_pos hok.out.2, hok.out.1, if_neg z]
        have z' : (t == 0) = false := beq_eq_false_iff_ne.2 z
        go_wp2_with fail
        go_ret
        exact ⟨ret_int hfin.out.symm, rfl⟩

theorem own_row {k : IntKind} {w : World} {base : Nat} {e : TypeId} {v : Value} {n : Nat} {f : Nat → Int} (h : w.ownsRow base e 1 v n ((fl f n).map (Value.int k))) (hn : 0 < n) : ∃ g cap, v = .slice (some ⟨g, 0, none⟩) n cap ∧ base ≤ g ∧ Row k w g n f := by
  obtain ⟨g, cap, hv, hb, hlt⟩ := h.form hn
  subst hv
  refine ⟨g, cap, rfl, hb, hlt, fun i hi => ?_, fun o => h.frozenAt o⟩
  rw [h.cellAt i (by omega)]
  unfold fl
  simp [hi]
def Apart (u v : Value) : Prop := ∀ b, u.ownBlock = some b → v.ownBlock ≠ some b
theorem Apart.symm {u v : Value} (h : Apart u v) : Apart v u := fun b h1 h2 => h b h2 h1
theorem Apart.ne {u v : Value} (h : Apart u v) : u.ownBlock = none ∨ u.ownBlock ≠ v.ownBlock := by
  cases hu : u.ownBlock with
  | none => exact .inl rfl
  | some b => exact .inr fun hh => h b hu hh.symm
/-- Behind an append the new row is still apart. -/
theorem Apart.grow {u v : Value} (h : Apart u v) {w : World} {base : Nat} {e : TypeId} {m : Nat} {ys : List Value} (hv : w.ownsRow base e 1 v m ys) {g : Nat} {cap n : Nat} {H : Nat} (hH : w.heap.size ≤ H) (hat : u.ownBlock = some g ∨ g = H) : Apart (.slice (some ⟨g, 0, none⟩) n cap) v := fun b h1 h2 => by
  have e1 : g = b := by simpa [Value.ownBlock] using h1
  subst e1
  rcases hat with hat | hat
  · exact h g hat h2
  · have := (hv.lt g h2).2; omega

structure GivR (a : Int) (f : Nat → Int) (n k : Nat) (O R : Nat → Int) : Prop where
  fin : give (-1) n k O R = parts a f n
  pos : ∀ i, i < n → 0 ≤ O i ∧ O i + k ≤ a
theorem GivR.step {a : Int} {f : Nat → Int} {n k : Nat} {O R : Nat → Int} (h : GivR a f n (k + 1) O R) : GivR a f n k (upd O (bst R n) (O (bst R n) + 1)) (upd R (bst R n) (-1)) := by
  refine ⟨h.fin, fun i hi => ?_⟩
  have hp := h.pos i hi
  unfold upd
  split
  · subst i; omega
  · omega
theorem GivR.start {a : Int} {f : Nat → Int} {n : Nat} (ha : 0 ≤ a) (hf : ∀ i, i < n → 0 ≤ f i) (hA : 0 < sm f n) {L : Nat} (hL : a - sm (qq a (sm f n) f) n = L) : GivR a f n L (qq a (sm f n) f) (rr a (sm f n) f) := by
  obtain ⟨q1, q2, q3, q4⟩ := left_law ha hf hA
  refine ⟨?_, fun i hi => ⟨q1 i hi, ?_⟩⟩
  · rw [give_ref hA L _ _ _ q2 (by rw [← q3, hL]; exact Int.le_refl _) (fun i _ => .inl rfl)]
    unfold parts
    rw [hL, Int.toNat_natCast]
  · have h1 := sm_le n q1 i hi
    omega

set_option maxRecDepth 100000 in
set_option maxHeartbeats 4000000 in
theorem refSplit_f (c : Int) (b : Option Addr) (n cap : Nat) (f : Nat → Int) (W : World) (hc : -9223372036854775808 ≤ c ∧ c ≤ 9223372036854775807) (hx : Vec .i64 W b n cap f) (hI : ∀ i, i < n → -9223372036854775808 ≤ f i ∧ f i ≤ 9223372036854775807) :
    Calls Try.prog 12 #[.int .i64 c, .slice b n cap] W (SpOutF c f n W) := by
  have hwr := wrong_is c b n cap f W hc hx hI
  by_cases hz : serr c f n = 0
  · rw [hz] at hwr
    have HWR := Lib.hid hwr
    obtain ⟨c1, c2, hw⟩ := serr_ok hz
    obtain ⟨n0, n1, hf, s0, s1⟩ := werr_ok hw
    obtain ⟨s, hs⟩ : ∃ s : Nat, sm f n = s := ⟨(sm f n).toNat, by omega⟩
    have hsl : slen c f n = n := by unfold slen; rw [if_pos hz]
    have HZ := Lib.hid hz
    have HSL := Lib.hid hsl
    have HF := Lib.hid hf
    have HS := Lib.hid hs
    rw [hs] at s0 s1
    obtain ⟨ic, hic, ic0, ic1, ic2⟩ := info_parts infoCents
    obtain ⟨i0, hi, hz0, hz1, hz2⟩ := info_parts infoI64
    have HIC := Lib.hid hic
    have HI0 := Lib.hid hi
    clear hwr hz hw hsl hI hf hs hic hi
    by_cases p : 0 ≤ c
    · obtain ⟨a, ha⟩ : ∃ a : Nat, c = a := ⟨(c).toNat, by omega⟩
      have hsp : Hid (∀ i, sparts c f n i = (1) * parts a f n i) := fun i => by
        unfold sparts
        rw [if_pos p, ha]
        omega
      obtain rfl : c = a := by omega
      have ha2 : a ≤ 1125899906842624 := by omega
      have HL := Lib.hid (left_law (a := (a : Int)) (by omega) (fun i hi => (HF.out i hi).1) (by rw [HS.out]; exact s0))
      have HP := Lib.hid (parts_law (a := (a : Int)) (by omega) (fun i hi => (HF.out i hi).1) (by rw [HS.out]; exact s0))
      rw [HS.out] at HL
      have hst : Hid (∀ L : Nat, (a : Int) - sm (qq a s f) n = L → GivR a f n L (qq a s f) (rr a s f)) := fun L hL => by
        have h := GivR.start (a := (a : Int)) (f := f) (n := n) (by omega) (fun i hi => (HF.out i hi).1) (by rw [HS.out]; exact s0) (L := L) (by rw [HS.out]; exact hL)
        rw [HS.out] at h
        exact h
      clear ha hc
      go_enter Try.func12, Try.ntmps12
      go_wp2_with (go_at_call 23; refine HWR.out.mono ?_; rintro e w1 ⟨rfl, rfl⟩)
      go_loop [8, 9] (fun s8 s9 => ∃ (k : Nat) (t : Int), k ≤ n ∧ s9 = .int .i64 k ∧ s8 = .int .i64 t ∧ 0 ≤ t ∧ t ≤ k * 1125899906842624 ∧ Hid (sm f k = t)) (fun _ i => n - (intOf i).toNat)
      case atStart => exact ⟨0, 0, Nat.zero_le _, rfl, rfl, by omega, by omega, rfl⟩
      case round =>
        obtain ⟨k, t, hk, rfl, rfl, t0, t1, ht⟩ := hrel
        by_cases d : k < n
        · obtain ⟨bb, off, rfl, hbl, hcell⟩ := hx.at_ d
          have hxb := HF.out k d
          have hnx : Hid (sm f (k + 1) = t + f k) := by show _ = _; unfold sm; rw [ht.out]
          generalize f k = x at *
          have hk64 : (k : Int) < 64 := by omega
          go_wp2_with fail
          go_round
          case rel => exact ⟨k + 1, t + x, by omega, by go_num, by go_num, by omega, by omega, hnx⟩
          case measure => simp [intOf]; omega
        · obtain rfl : k = n := by omega
          obtain rfl : t = s := by rw [← ht.out]; exact HS.out
          clear t0 t1 ht
          go_wp2_with fail
          go_loopw [10, 11, 12, 13] (fun s10 s11 s12 s13 wx => ∃ (j : Nat) (t : Int), j ≤ k ∧ s13 = .int .i64 j ∧ s12 = .int .i64 (a - t) ∧ 0 ≤ t ∧ t ≤ a ∧ Hid (sm (qq a s f) j = t) ∧ wx.ownsRow W.heap.size 30 1 s10 j ((fl (qq a s f) j).map (Value.int .i64)) ∧ wx.ownsRow W.heap.size 2 1 s11 j ((fl (rr a s f) j).map (Value.int .i64)) ∧ Apart s10 s11 ∧ Below W.heap.size W wx) (fun _ _ _ i _ => k - (intOf i).toNat)
          case atStart => exact ⟨0, 0, Nat.zero_le _, rfl, by go_num, by omega, by omega, rfl, World.ownsRow_nil _ _ _ _, World.ownsRow_nil _ _ _ _, (fun b h => by cases h), Below.refl _ _⟩
          case round =>
            obtain ⟨j, t, hj, rfl, rfl, t0, t1, ht, ho, hr, hap, hbel⟩ := hrel
            by_cases d2 : j < k
            · obtain ⟨bb, off, rfl, hbl, hcell⟩ := hx.at_ d2
              have hcell := bc hbel hbl hcell
              have hbl2 : bb < wr.heap.size := Nat.lt_of_lt_of_le hbl hbel.size
              obtain ⟨w0, w1⟩ := HF.out j d2
              have hsx := sm_le k (fun i hi => (HF.out i hi).1) j d2
              rw [HS.out] at hsx
              obtain ⟨x, hx'⟩ : ∃ x : Nat, f j = x := ⟨(f j).toNat, by omega⟩
              rw [hx'] at hcell w0 w1 hsx
              obtain ⟨q, hq⟩ : ∃ q, a * x / s = q := ⟨_, rfl⟩
              obtain ⟨r, hr'⟩ : ∃ r, a * x % s = r := ⟨_, rfl⟩
              have hov := Lib.hid fun W => over_is a x s q r ha2 (by omega) (by omega) (by omega) hq hr' W
              have eq1 : qq a s f j = q := by unfold qq; rw [hx', ← hq]; norm_cast
              have eq2 : rr a s f j = r := by unfold rr; rw [hx', ← hr']; norm_cast
              have hsm : Hid (sm (qq a s f) (j + 1) = t + q) := by show _ = _; unfold sm; rw [ht.out, eq1]
              have htop : t + q ≤ a := by
                have h1 := sm_upto (qq a s f) (show j + 1 ≤ k by omega) HL.out.1
                rw [hsm.out] at h1
                exact Int.le_trans h1 HL.out.2.2.2
              have fo : Hid (fl (qq a s f) (j + 1) = fl (qq a s f) j ++ [(q : Int)]) := by rw [← eq1]; exact fl_succ _ j
              have fr : Hid (fl (rr a s f) (j + 1) = fl (rr a s f) j ++ [(r : Int)]) := by rw [← eq2]; exact fl_succ _ j
              have q0 : 0 ≤ (q : Int) := by omega
              have hsz := hbel.size
              clear hq hr' eq1 eq2 hsx hx'
              go_wp2_with (first
                | (go_at_call 24; refine (hov.out _).mono ?_; rintro e w1 ⟨rfl, rfl⟩)
                | (refine wpList_append_lies _ rfl (.tmp 58) (.tmp 60) 26 rfl W.heap.size 30 ic (.int .i64 0) 1 8 Try.underlying26 HIC.out ic0 ic1 ic2 rfl (by decide) u10 j ((fl (qq a s f) j).map (Value.int .i64)) (by simp [Act.eval]; done) (ho.alloc _) ⟨wr.heap.size, 0, none⟩ 1 1 [.int .i64 (q : Int)] (by simp [Act.eval]; done) rfl (World.news_of_block (cs := #[.int .i64 (q : Int)]) (block_alloc_last' _ _ (by simp))) (by simp [Value.oneCell']) (by omega) (by unfold maxLen; omega) (by omega) (by simp; omega) _ rfl ?_; intro g1 cap1 w2 ho2 hgrow1 hat1 hlt1; have hB1 := below_append ho ((Below.refl _ _).alloc (Nat.le_refl _) _) hgrow1 hsz; have hr2 := (hr.alloc _).kept hgrow1 hap.symm.ne; have hsz1 := hB1.size; have hap1 := hap.grow (n := j + 1) (cap := cap1) hr (by simp) hat1)
                | (refine wpList_append_lies _ rfl (.tmp 62) (.tmp 64) 24 rfl W.heap.size 2 i0 (.int .i64 0) 1 8 Try.underlying24 HI0.out hz0 hz1 hz2 rfl (by decide) u11 j ((fl (rr a s f) j).map (Value.int .i64)) (by simp [Act.eval]; done) (hr2.alloc _) ⟨w2.heap.size, 0, none⟩ 1 1 [.int .i64 (r : Int)] (by simp [Act.eval]; done) rfl (World.news_of_block (cs := #[.int .i64 (r : Int)]) (block_alloc_last' _ _ (by simp))) (by simp [Value.oneCell']) (by omega) (by unfold maxLen; omega) (by omega) (by simp; omega) _ rfl ?_; intro g2 cap2 w3 hr3 hgrow2 hat2 hlt2; have hB2 := below_append hr2 ((Below.refl _ _).alloc (Nat.le_refl _) _) hgrow2 (by omega); have ho3 := (ho2.alloc _).kept hgrow2 hap1.ne; have hap2 := hap1.symm.grow (n := j + 1) (cap := cap2) ho2 (by simp) hat2))
              go_round
              case rel =>
                refine ⟨j + 1, t + q, by omega, by go_num, by rw [Int.sub_sub], by omega, htop, hsm, ?_, ?_, hap2.symm, (hbel.trans hB1).trans hB2⟩
                · rw [fo.out, List.map_append]; exact ho3
                · rw [fr.out, List.map_append]; exact hr3
              case measure => simp [intOf]; omega
            · obtain rfl : j = k := by omega
              obtain ⟨L, hL⟩ : ∃ L : Nat, (a : Int) - t = L := ⟨((a : Int) - t).toNat, by omega⟩
              have hG := Lib.hid (hst.out L (by rw [ht.out, hL]))
              have hLa : L ≤ a := by omega
              rw [hL]
              obtain ⟨G1, cp1, hv1, hG1, hO1⟩ := own_row ho n0
              obtain ⟨G2, cp2, hv2, hG2, hR1⟩ := own_row hr n0
              subst hv1 hv2
              have g12 : G1 ≠ G2 := fun h => hap G1 rfl (by rw [h]; rfl)
              have g1 : (G2 = G1) = False := eq_false (fun h => g12 h.symm)
              have g2 : (G1 = G2) = False := eq_false g12
              have hG1' := Lib.hid hG1
              have hG2' := Lib.hid hG2
              clear hL t0 t1 ht ho hr hap hst g12 hG1 hG2
              rename World => V2
              go_wp2_with fail
              go_loopw [12] (fun s12 wx => ∃ (m : Nat) (O R : Nat → Int), m ≤ L ∧ s12 = .int .i64 (m : Int) ∧ Hid (GivR a f j m O R) ∧ Row .i64 wx G1 j O ∧ Row .i64 wx G2 j R ∧ Below W.heap.size W wx) (fun s12 _ => (intOf s12).toNat)
              case atStart => exact ⟨L, _, _, Nat.le_refl _, rfl, hG, hO1, hR1, hbel⟩
              case round =>
                obtain ⟨m, O, R, hm, rfl, hGm, hO, hR, hbw⟩ := hrel
                clear hbel hG hO1 hR1
                rename World => V3
                rcases m with _ | m
                · have hfin : O = parts a f j := by rw [← hGm.out.fin]; rfl
                  go_wp2_with fail
                  go_loopw [18] (fun s18 wx => ∃ k : Nat, k ≤ j ∧ s18 = .int .i64 k ∧ Row .i64 wx G1 j (fun i => if i < k then (1) * O i else O i) ∧ Below W.heap.size W wx) (fun i _ => j - (intOf i).toNat)
                  case atStart => exact ⟨0, Nat.zero_le _, rfl, hO.congr fun i _ => by simp, hbw⟩
                  case round =>
                    obtain ⟨k, hk, rfl, hN, hbn⟩ := hrel
                    clear hO hR hbw
                    by_cases d3 : k < j
                    · have e1 := hN.cell k d3
                      have z1 := hN.frz k
                      rw [if_neg (show ¬ k < k by omega)] at e1
                      obtain ⟨p0, p1, _⟩ := HP.out.2.1 k d3
                      rw [← hfin] at p0 p1
                      have hR1 : Row .i64 (wr.setCell ⟨G1, k, none⟩ (.int .i64 ((O k)))) G1 j (fun i => if i < k + 1 then (1) * O i else O i) := (hN.set d3 _).congr fun i hi => by
                        unfold upd
                        by_cases e : i = k
                        · subst e; rw [if_pos rfl, if_pos (by omega)]; try omega
                        · rw [if_neg e]
                          by_cases d : i < k
                          · show (if i < k then _ else _) = _
                            rw [if_pos d, if_pos (by omega)]
                          · show (if i < k then _ else _) = _
                            rw [if_neg d, if_neg (by omega)]
                      have hR2 := Lib.hid hR1
                      clear hR1
                      have hfin2 := Lib.hid hfin
                      clear hfin
                      generalize O k = x at *
                      go_wp2_with fail
                      go_round
                      case rel => exact ⟨k + 1, by omega, by go_num, hR2.out, hbn.setCell hG1'.out _⟩
                      case measure => simp [intOf]; omega
                    · obtain rfl : k = j := by omega
                      go_wp2_with fail
                      go_ret2
                      exact ⟨some ⟨G1, 0, none⟩, cp1, by rw [HZ.out, HSL.out]; rfl, by rw [HSL.out]; exact (hN.congr fun i hi => by rw [if_pos hi, hfin]; exact (hsp.out i).symm).vec (by omega), (fun x h => by cases h; exact hG1'.out), hbn⟩
                · have j1 : (0 : Int) < ((m + 1 : Nat) : Int) := by omega
                  have hmax : ((m + 1 : Nat) : Int) ≤ 1125899906842624 := by omega
                  go_wp2_with fail
                  go_loopw [16, 17] (fun s16 s17 wx => ∃ (i t : Nat), i ≤ j ∧ 1 ≤ i ∧ s17 = .int .i64 (i : Int) ∧ s16 = .int .i64 (bst R i : Int) ∧ wx = V3.drewN t) (fun _ s17 _ => j - (intOf s17).toNat)
                  case atStart => exact ⟨1, 0, by omega, by omega, rfl, by unfold bst; split <;> rfl, rfl⟩
                  case round =>
                    obtain ⟨i, t, hi, hi1, rfl, rfl, rfl⟩ := hrel
                    have hbk : bst R i < j := by have := bst_lt R i (by omega); omega
                    by_cases c : i < j
                    · have d1 := hR.cell i c
                      have d2 := hR.cell _ hbk
                      have e1 : bst R (i + 1) = if R (bst R i) < R i then i else bst R i := rfl
                      generalize bst R i = bi at *
                      generalize R bi = y at *
                      generalize R i = x at *
                      by_cases d : y < x
                      · rw [if_pos d] at e1
                        go_wp2_with fail
                        go_quiet (fail)
                        go_wp2_with fail
                        go_round
                        case rel => exact ⟨i + 1, _, by omega, by omega, by go_num, by rw [e1], rfl⟩
                        case measure => simp [intOf]; omega
                      · rw [if_neg d] at e1
                        have dd : decide (y < x) = false := decide_eq_false d
                        have e2 := Lib.hid e1
                        clear d e1
                        go_wp2_with fail
                        go_quiet (fail)
                        go_wp2_with fail
                        go_round
                        case rel => exact ⟨i + 1, _, by omega, by omega, by go_num, by rw [e2.out], rfl⟩
                        case measure => simp [intOf]; omega
                    · obtain rfl : i = j := by omega
                      have hnx := Lib.hid hGm.out.step
                      have hO1 := (hO.drewN t).set hbk (O (bst R i) + 1)
                      obtain ⟨p0, p1⟩ := hGm.out.pos _ hbk
                      have d1 := hO.cell _ hbk
                      have d2 := hR.cell _ hbk
                      have z1 := hO.frz (bst R i)
                      have z2 := hR.frz (bst R i)
                      generalize bst R i = bi at *
                      obtain ⟨y, hy⟩ : ∃ y, O bi = y := ⟨_, rfl⟩
                      rw [hy] at hnx hO1 p0 p1 d1
                      clear hy
                      go_wp2_with fail
                      go_round
                      case rel =>
                        exact ⟨m, _, _, by omega, by go_num, hnx, hO1.far (by simpa using g1) _, ((hR.drewN t).far (by simpa using g2) _).set hbk (-1),
                          ((below_drewN hbw t).setCell hG1'.out _).setCell hG2'.out _⟩
                      case measure => simp [intOf]
    · obtain ⟨a, ha⟩ : ∃ a : Nat, -c = a := ⟨(-c).toNat, by omega⟩
      have hsp : Hid (∀ i, sparts c f n i = (-1) * parts a f n i) := fun i => by
        unfold sparts
        rw [if_neg p, ha]
        omega
      obtain rfl : c = -(a : Int) := by omega
      have ha2 : a ≤ 1125899906842624 := by omega
      have HL := Lib.hid (left_law (a := (a : Int)) (by omega) (fun i hi => (HF.out i hi).1) (by rw [HS.out]; exact s0))
      have HP := Lib.hid (parts_law (a := (a : Int)) (by omega) (fun i hi => (HF.out i hi).1) (by rw [HS.out]; exact s0))
      rw [HS.out] at HL
      have hst : Hid (∀ L : Nat, (a : Int) - sm (qq a s f) n = L → GivR a f n L (qq a s f) (rr a s f)) := fun L hL => by
        have h := GivR.start (a := (a : Int)) (f := f) (n := n) (by omega) (fun i hi => (HF.out i hi).1) (by rw [HS.out]; exact s0) (L := L) (by rw [HS.out]; exact hL)
        rw [HS.out] at h
        exact h
      clear ha hc
      go_enter Try.func12, Try.ntmps12
      go_wp2_with (go_at_call 23; refine HWR.out.mono ?_; rintro e w1 ⟨rfl, rfl⟩)
      go_loop [8, 9] (fun s8 s9 => ∃ (k : Nat) (t : Int), k ≤ n ∧ s9 = .int .i64 k ∧ s8 = .int .i64 t ∧ 0 ≤ t ∧ t ≤ k * 1125899906842624 ∧ Hid (sm f k = t)) (fun _ i => n - (intOf i).toNat)
      case atStart => exact ⟨0, 0, Nat.zero_le _, rfl, rfl, by omega, by omega, rfl⟩
      case round =>
        obtain ⟨k, t, hk, rfl, rfl, t0, t1, ht⟩ := hrel
        by_cases d : k < n
        · obtain ⟨bb, off, rfl, hbl, hcell⟩ := hx.at_ d
          have hxb := HF.out k d
          have hnx : Hid (sm f (k + 1) = t + f k) := by show _ = _; unfold sm; rw [ht.out]
          generalize f k = x at *
          have hk64 : (k : Int) < 64 := by omega
          go_wp2_with fail
          go_round
          case rel => exact ⟨k + 1, t + x, by omega, by go_num, by go_num, by omega, by omega, hnx⟩
          case measure => simp [intOf]; omega
        · obtain rfl : k = n := by omega
          obtain rfl : t = s := by rw [← ht.out]; exact HS.out
          clear t0 t1 ht
          go_wp2_with fail
          go_loopw [10, 11, 12, 13] (fun s10 s11 s12 s13 wx => ∃ (j : Nat) (t : Int), j ≤ k ∧ s13 = .int .i64 j ∧ s12 = .int .i64 (a - t) ∧ 0 ≤ t ∧ t ≤ a ∧ Hid (sm (qq a s f) j = t) ∧ wx.ownsRow W.heap.size 30 1 s10 j ((fl (qq a s f) j).map (Value.int .i64)) ∧ wx.ownsRow W.heap.size 2 1 s11 j ((fl (rr a s f) j).map (Value.int .i64)) ∧ Apart s10 s11 ∧ Below W.heap.size W wx) (fun _ _ _ i _ => k - (intOf i).toNat)
          case atStart => exact ⟨0, 0, Nat.zero_le _, rfl, by go_num, by omega, by omega, rfl, World.ownsRow_nil _ _ _ _, World.ownsRow_nil _ _ _ _, (fun b h => by cases h), Below.refl _ _⟩
          case round =>
            obtain ⟨j, t, hj, rfl, rfl, t0, t1, ht, ho, hr, hap, hbel⟩ := hrel
            by_cases d2 : j < k
            · obtain ⟨bb, off, rfl, hbl, hcell⟩ := hx.at_ d2
              have hcell := bc hbel hbl hcell
              have hbl2 : bb < wr.heap.size := Nat.lt_of_lt_of_le hbl hbel.size
              obtain ⟨w0, w1⟩ := HF.out j d2
              have hsx := sm_le k (fun i hi => (HF.out i hi).1) j d2
              rw [HS.out] at hsx
              obtain ⟨x, hx'⟩ : ∃ x : Nat, f j = x := ⟨(f j).toNat, by omega⟩
              rw [hx'] at hcell w0 w1 hsx
              obtain ⟨q, hq⟩ : ∃ q, a * x / s = q := ⟨_, rfl⟩
              obtain ⟨r, hr'⟩ : ∃ r, a * x % s = r := ⟨_, rfl⟩
              have hov := Lib.hid fun W => over_is a x s q r ha2 (by omega) (by omega) (by omega) hq hr' W
              have eq1 : qq a s f j = q := by unfold qq; rw [hx', ← hq]; norm_cast
              have eq2 : rr a s f j = r := by unfold rr; rw [hx', ← hr']; norm_cast
              have hsm : Hid (sm (qq a s f) (j + 1) = t + q) := by show _ = _; unfold sm; rw [ht.out, eq1]
              have htop : t + q ≤ a := by
                have h1 := sm_upto (qq a s f) (show j + 1 ≤ k by omega) HL.out.1
                rw [hsm.out] at h1
                exact Int.le_trans h1 HL.out.2.2.2
              have fo : Hid (fl (qq a s f) (j + 1) = fl (qq a s f) j ++ [(q : Int)]) := by rw [← eq1]; exact fl_succ _ j
              have fr : Hid (fl (rr a s f) (j + 1) = fl (rr a s f) j ++ [(r : Int)]) := by rw [← eq2]; exact fl_succ _ j
              have q0 : 0 ≤ (q : Int) := by omega
              have hsz := hbel.size
              clear hq hr' eq1 eq2 hsx hx'
              go_wp2_with (first
                | (go_at_call 24; refine (hov.out _).mono ?_; rintro e w1 ⟨rfl, rfl⟩)
                | (refine wpList_append_lies _ rfl (.tmp 58) (.tmp 60) 26 rfl W.heap.size 30 ic (.int .i64 0) 1 8 Try.underlying26 HIC.out ic0 ic1 ic2 rfl (by decide) u10 j ((fl (qq a s f) j).map (Value.int .i64)) (by simp [Act.eval]; done) (ho.alloc _) ⟨wr.heap.size, 0, none⟩ 1 1 [.int .i64 (q : Int)] (by simp [Act.eval]; done) rfl (World.news_of_block (cs := #[.int .i64 (q : Int)]) (block_alloc_last' _ _ (by simp))) (by simp [Value.oneCell']) (by omega) (by unfold maxLen; omega) (by omega) (by simp; omega) _ rfl ?_; intro g1 cap1 w2 ho2 hgrow1 hat1 hlt1; have hB1 := below_append ho ((Below.refl _ _).alloc (Nat.le_refl _) _) hgrow1 hsz; have hr2 := (hr.alloc _).kept hgrow1 hap.symm.ne; have hsz1 := hB1.size; have hap1 := hap.grow (n := j + 1) (cap := cap1) hr (by simp) hat1)
                | (refine wpList_append_lies _ rfl (.tmp 62) (.tmp 64) 24 rfl W.heap.size 2 i0 (.int .i64 0) 1 8 Try.underlying24 HI0.out hz0 hz1 hz2 rfl (by decide) u11 j ((fl (rr a s f) j).map (Value.int .i64)) (by simp [Act.eval]; done) (hr2.alloc _) ⟨w2.heap.size, 0, none⟩ 1 1 [.int .i64 (r : Int)] (by simp [Act.eval]; done) rfl (World.news_of_block (cs := #[.int .i64 (r : Int)]) (block_alloc_last' _ _ (by simp))) (by simp [Value.oneCell']) (by omega) (by unfold maxLen; omega) (by omega) (by simp; omega) _ rfl ?_; intro g2 cap2 w3 hr3 hgrow2 hat2 hlt2; have hB2 := below_append hr2 ((Below.refl _ _).alloc (Nat.le_refl _) _) hgrow2 (by omega); have ho3 := (ho2.alloc _).kept hgrow2 hap1.ne; have hap2 := hap1.symm.grow (n := j + 1) (cap := cap2) ho2 (by simp) hat2))
              go_round
              case rel =>
                refine ⟨j + 1, t + q, by omega, by go_num, by rw [Int.sub_sub], by omega, htop, hsm, ?_, ?_, hap2.symm, (hbel.trans hB1).trans hB2⟩
                · rw [fo.out, List.map_append]; exact ho3
                · rw [fr.out, List.map_append]; exact hr3
              case measure => simp [intOf]; omega
            · obtain rfl : j = k := by omega
              obtain ⟨L, hL⟩ : ∃ L : Nat, (a : Int) - t = L := ⟨((a : Int) - t).toNat, by omega⟩
              have hG := Lib.hid (hst.out L (by rw [ht.out, hL]))
              have hLa : L ≤ a := by omega
              rw [hL]
              obtain ⟨G1, cp1, hv1, hG1, hO1⟩ := own_row ho n0
              obtain ⟨G2, cp2, hv2, hG2, hR1⟩ := own_row hr n0
              subst hv1 hv2
              have g12 : G1 ≠ G2 := fun h => hap G1 rfl (by rw [h]; rfl)
              have g1 : (G2 = G1) = False := eq_false (fun h => g12 h.symm)
              have g2 : (G1 = G2) = False := eq_false g12
              have hG1' := Lib.hid hG1
              have hG2' := Lib.hid hG2
              clear hL t0 t1 ht ho hr hap hst g12 hG1 hG2
              rename World => V2
              go_wp2_with fail
              go_loopw [12] (fun s12 wx => ∃ (m : Nat) (O R : Nat → Int), m ≤ L ∧ s12 = .int .i64 (m : Int) ∧ Hid (GivR a f j m O R) ∧ Row .i64 wx G1 j O ∧ Row .i64 wx G2 j R ∧ Below W.heap.size W wx) (fun s12 _ => (intOf s12).toNat)
              case atStart => exact ⟨L, _, _, Nat.le_refl _, rfl, hG, hO1, hR1, hbel⟩
              case round =>
                obtain ⟨m, O, R, hm, rfl, hGm, hO, hR, hbw⟩ := hrel
                clear hbel hG hO1 hR1
                rename World => V3
                rcases m with _ | m
                · have hfin : O = parts a f j := by rw [← hGm.out.fin]; rfl
                  go_wp2_with fail
                  go_loopw [18] (fun s18 wx => ∃ k : Nat, k ≤ j ∧ s18 = .int .i64 k ∧ Row .i64 wx G1 j (fun i => if i < k then (-1) * O i else O i) ∧ Below W.heap.size W wx) (fun i _ => j - (intOf i).toNat)
                  case atStart => exact ⟨0, Nat.zero_le _, rfl, hO.congr fun i _ => by simp, hbw⟩
                  case round =>
                    obtain ⟨k, hk, rfl, hN, hbn⟩ := hrel
                    clear hO hR hbw
                    by_cases d3 : k < j
                    · have e1 := hN.cell k d3
                      have z1 := hN.frz k
                      rw [if_neg (show ¬ k < k by omega)] at e1
                      obtain ⟨p0, p1, _⟩ := HP.out.2.1 k d3
                      rw [← hfin] at p0 p1
                      have hR1 : Row .i64 (wr.setCell ⟨G1, k, none⟩ (.int .i64 (-(O k)))) G1 j (fun i => if i < k + 1 then (-1) * O i else O i) := (hN.set d3 _).congr fun i hi => by
                        unfold upd
                        by_cases e : i = k
                        · subst e; rw [if_pos rfl, if_pos (by omega)]; try omega
                        · rw [if_neg e]
                          by_cases d : i < k
                          · show (if i < k then _ else _) = _
                            rw [if_pos d, if_pos (by omega)]
                          · show (if i < k then _ else _) = _
                            rw [if_neg d, if_neg (by omega)]
                      have hR2 := Lib.hid hR1
                      clear hR1
                      have hfin2 := Lib.hid hfin
                      clear hfin
                      generalize O k = x at *
                      go_wp2_with fail
                      go_round
                      case rel => exact ⟨k + 1, by omega, by go_num, hR2.out, hbn.setCell hG1'.out _⟩
                      case measure => simp [intOf]; omega
                    · obtain rfl : k = j := by omega
                      go_wp2_with fail
                      go_ret2
                      exact ⟨some ⟨G1, 0, none⟩, cp1, by rw [HZ.out, HSL.out]; rfl, by rw [HSL.out]; exact (hN.congr fun i hi => by rw [if_pos hi, hfin]; exact (hsp.out i).symm).vec (by omega), (fun x h => by cases h; exact hG1'.out), hbn⟩
                · have j1 : (0 : Int) < ((m + 1 : Nat) : Int) := by omega
                  have hmax : ((m + 1 : Nat) : Int) ≤ 1125899906842624 := by omega
                  go_wp2_with fail
                  go_loopw [16, 17] (fun s16 s17 wx => ∃ (i t : Nat), i ≤ j ∧ 1 ≤ i ∧ s17 = .int .i64 (i : Int) ∧ s16 = .int .i64 (bst R i : Int) ∧ wx = V3.drewN t) (fun _ s17 _ => j - (intOf s17).toNat)
                  case atStart => exact ⟨1, 0, by omega, by omega, rfl, by unfold bst; split <;> rfl, rfl⟩
                  case round =>
                    obtain ⟨i, t, hi, hi1, rfl, rfl, rfl⟩ := hrel
                    have hbk : bst R i < j := by have := bst_lt R i (by omega); omega
                    by_cases c : i < j
                    · have d1 := hR.cell i c
                      have d2 := hR.cell _ hbk
                      have e1 : bst R (i + 1) = if R (bst R i) < R i then i else bst R i := rfl
                      generalize bst R i = bi at *
                      generalize R bi = y at *
                      generalize R i = x at *
                      by_cases d : y < x
                      · rw [if_pos d] at e1
                        go_wp2_with fail
                        go_quiet (fail)
                        go_wp2_with fail
                        go_round
                        case rel => exact ⟨i + 1, _, by omega, by omega, by go_num, by rw [e1], rfl⟩
                        case measure => simp [intOf]; omega
                      · rw [if_neg d] at e1
                        have dd : decide (y < x) = false := decide_eq_false d
                        have e2 := Lib.hid e1
                        clear d e1
                        go_wp2_with fail
                        go_quiet (fail)
                        go_wp2_with fail
                        go_round
                        case rel => exact ⟨i + 1, _, by omega, by omega, by go_num, by rw [e2.out], rfl⟩
                        case measure => simp [intOf]; omega
                    · obtain rfl : i = j := by omega
                      have hnx := Lib.hid hGm.out.step
                      have hO1 := (hO.drewN t).set hbk (O (bst R i) + 1)
                      obtain ⟨p0, p1⟩ := hGm.out.pos _ hbk
                      have d1 := hO.cell _ hbk
                      have d2 := hR.cell _ hbk
                      have z1 := hO.frz (bst R i)
                      have z2 := hR.frz (bst R i)
                      generalize bst R i = bi at *
                      obtain ⟨y, hy⟩ : ∃ y, O bi = y := ⟨_, rfl⟩
                      rw [hy] at hnx hO1 p0 p1 d1
                      clear hy
                      go_wp2_with fail
                      go_round
                      case rel =>
                        exact ⟨m, _, _, by omega, by go_num, hnx, hO1.far (by simpa using g1) _, ((hR.drewN t).far (by simpa using g2) _).set hbk (-1),
                          ((below_drewN hbw t).setCell hG1'.out _).setCell hG2'.out _⟩
                      case measure => simp [intOf]
  · have HZ := Lib.hid hz
    generalize hk : serr c f n = k at *
    have z' : (k == 0) = false := beq_eq_false_iff_ne.2 hz
    have HWR := Lib.hid hwr
    have H1 := Lib.hid hk
    clear hwr hz hk hI
    go_enter Try.func12, Try.ntmps12
    go_wp2_with (go_at_call 23; refine HWR.out.mono ?_; rintro e w1 ⟨rfl, rfl⟩)
    go_ret2
    exact bad_out c f n W k H1.out HZ.out

theorem refSplit_is (c : Int) (b : Option Addr) (n cap : Nat) (f : Nat → Int) (W : World) (hc : -9223372036854775808 ≤ c ∧ c ≤ 9223372036854775807) (hx : Vec .i64 W b n cap f) (hI : ∀ i, i < n → -9223372036854775808 ≤ f i ∧ f i ≤ 9223372036854775807) :
    Calls Try.prog 12 #[.int .i64 c, .slice b n cap] W (SpOut c f n W) :=
  (refSplit_f c b n cap f W hc hx hI).mono fun _ _ h => h.out

theorem shareSplits (c : Int) (b : Option Addr) (n cap : Nat) (xs : List Int) (W : World) (hc : -9223372036854775808 ≤ c ∧ c ≤ 9223372036854775807) (hX : Ints .i64 W b n cap xs) (hB : ∀ x ∈ xs, -9223372036854775808 ≤ x ∧ x ≤ 9223372036854775807) :
    Calls Try.prog 4 #[.int .i64 c, .slice b n cap] W fun e w' => e = .returned (.bool true) ∧ Below W.heap.size W w' := by
  obtain ⟨f, hf⟩ : ∃ f : Nat → Int, (fun j => xs.getD j 0) = f := ⟨_, rfl⟩
  have hI : ∀ i, i < n → -9223372036854775808 ≤ f i ∧ f i ≤ 9223372036854775807 := fun i hi => by
    rw [← hf]
    have h1 : i < xs.length := by rw [hX.len]; exact hi
    have h2 : xs.getD i 0 = xs[i] := by simp [List.getD_eq_getElem?_getD, h1]
    show -9223372036854775808 ≤ xs.getD i 0 ∧ xs.getD i 0 ≤ 9223372036854775807
    rw [h2]; exact hB _ (List.getElem_mem _)
  have hx : Vec .i64 W b n cap f := by rw [← hf]; exact Vec.of_ints hX
  clear hf hX hB
  have hm := hx.1
  by_cases bn : 100 < n
  · have bn' : (100 : Int) < (n : Int) := by omega
    go_enter Try.func4, Try.ntmps4
    go_wp2_with fail
    refine (awake_is _).mono ?_
    rintro e w1 ⟨rfl, hb1⟩
    go_wp2_with fail
    go_ret
    exact ⟨rfl, hb1⟩
  have bn' : ¬ (100 : Int) < (n : Int) := by omega
  have s1 := fun V h => Split_is c b n cap f V hc h hI
  have s2 := fun V h => refSplit_is c b n cap f V hc h hI
  unfold SpOut at s1 s2
  generalize sparts c f n = p at *
  generalize slen c f n = m at *
  generalize serr c f n = k at *
  have S1 := Lib.hid s1
  have S2 := Lib.hid s2
  clear s1 s2 hI
  go_enter Try.func4, Try.ntmps4
  go_wp2_with fail
  refine (S1.out _ hx).mono ?_
  rintro e w1 ⟨a1, d1, rfl, hp1, hb1⟩
  go_wp2_with fail
  refine (S2.out _ (hx.step hb1)).mono ?_
  rintro e w2 ⟨a2, d2, rfl, hp2, hb2⟩
  have hp1' := Lib.hid (hp1.step hb2)
  have hp2' := Lib.hid hp2
  clear hp1 hp2 S1 S2
  go_wp2_with (first | (go_at_call 10; refine (awake_is _).mono ?_; rintro e w3 ⟨rfl, hb3⟩) | (go_at_call 13; refine (same_is a1 a2 m m d1 d2 p p true (decide_eq_true ⟨rfl, fun i hi => rfl⟩) _ (hp1'.out.step hb3) (hp2'.out.step hb3)).mono ?_; rintro e w4 ⟨rfl, t4, rfl⟩))
  go_ret
  exact ⟨rfl, below_drewN (bstep (bstep hb1 hb2) hb3) t4⟩
end Go.Proofs.Ytbmlingbohdpkaa.W
