/- The walk of slices.symMergeCmpFunc, the long way: turned, and merged by halves. -/
import Derived.Test.YtjfcbflhnfjcfaaAtWB
import Derived.Deep.Cut
import Derived.Deep.DeepCutAuto
namespace Go.Proofs.Ytjfcbflhnfjcfaa.Z
open Go.Proofs Go.Shelf Go.RowKit Go.Lib Go.Sort
set_option linter.unusedVariables false
variable {P : Program} {k : Nat} {α : Type} [Inhabited α]

/-- What symMerge leaves. -/
def MergeOut (enc : α → List Value) (k : Nat) (w : World) (blk off : Nat) (d' : Array α) (e : Ending) (w' : World) : Prop := e = .returned (.tuple #[]) ∧ ∃ q' os', w' = sortWorldK enc k w blk off q' d' os'

set_option maxHeartbeats 8000000 in
set_option maxRecDepth 1000000 in
theorem big_at (L : Lay P k) {enc : α → List Value} {cf : α → α → Int} {g : Nat} {cb : Array Value} {blk off : Nat} {d : Array α} {w : World} (R : Row P enc k w blk off d) (hcmp : CmpLays P g cb enc k cf blk off d.size w) (eg : ∀ args w, (callFunc g args).run P w = .ok (.enter g args) w)
    (f cap : Nat) (IH : ∀ (a m b q : Nat) (dq : Array α) (os : Array Obj), dq.size = d.size → b - a ≤ f → a < m → m < b → b ≤ d.size → Calls P 57 #[.slice (some ⟨blk, off, none⟩) d.size cap, .int .i64 a, .int .i64 m, .int .i64 b, .func (.func g) #[] cb] (sortWorldK enc k w blk off q dq os) (MergeOut enc k w blk off (symMerge (ltOf cf) f dq a m b)))
    (a m b q : Nat) (dq : Array α) (os : Array Obj) (hs : dq.size = d.size) (hf : b - a ≤ f + 1) (ham : a < m) (hmb : m < b) (hne : m ≠ a + 1) (hne2 : b ≠ m + 1) (hb : b ≤ d.size) :
    Calls P 57 #[.slice (some ⟨blk, off, none⟩) d.size cap, .int .i64 a, .int .i64 m, .int .i64 b, .func (.func g) #[] cb] (sortWorldK enc k w blk off q dq os) (MergeOut enc k w blk off (symMerge (ltOf cf) (f + 1) dq a m b)) := by
  have mixed := L.mixed; have t0 := L.t0; have a0 := L.a0; have z0 := L.z0; have v0 := L.v0; have t3 := L.t3; have a3 := L.a3; have z3 := L.z3; have v3 := L.v3; have t4 := L.t4; have a4 := L.a4; have z4 := L.z4; have v4 := L.v4; have t24 := L.t24; have a24 := L.a24; have z24 := L.z24; have v24 := L.v24; have t69 := L.t69; have a69 := L.a69; have z69 := L.z69; have v69 := L.v69; have t93 := L.t93; have a93 := L.a93; have z93 := L.z93; have v93 := L.v93; have aE := L.aE; have zE := L.zE
  have u24 := run_underlying L.t24
  have F := L.fm
  have er : ∀ args w, (callFunc 60 args).run P w = .ok (.enter 60 args) w := enters_of L.fr (by kernel_rfl) rfl
  have em : ∀ args w, (callFunc 57 args).run P w = .ok (.enter 57 args) w := enters_of L.fm (by kernel_rfl) rfl
  have hsz := R.hsz
  have HC : Aside _ := hcmp
  have HR := Lib.hid R
  have HL := Lib.hid L
  have HI := Lib.hid IH
  clear L R hcmp IH
  obtain ⟨p, hp⟩ : ∃ p : Nat → Bool, p = fun c => !ltOf cf dq[(a + b) / 2 + m - 1 - c]! dq[c]! := ⟨_, rfl⟩
  obtain ⟨s0, hs0⟩ : ∃ x, x = sBeg a m b := ⟨_, rfl⟩
  obtain ⟨r0, hr0⟩ : ∃ x, x = sEnd a m b := ⟨_, rfl⟩
  obtain ⟨mid, hmid⟩ : ∃ x, x = (a + b) / 2 := ⟨_, rfl⟩
  have HS : Hid (bs p s0 r0 = sAt (ltOf cf) dq a m b) := by show _ = _; rw [hp, hs0, hr0]; rfl
  have HP := Lib.hid hp
  have hpl := Lib.hid (fun c => sPlace (c := c) ham hmb)
  have hbd := sBeg_le a m b ham hmb
  rw [← hs0, ← hr0] at hbd
  rw [← hs0, ← hr0] at hpl
  have hS0 : Hid (s0 = if mid < m then mid + m - b else a) := by show _ = _; rw [hs0, hmid]; rfl
  have hR0 : Hid (r0 = if mid < m then mid else m) := by show _ = _; rw [hr0, hmid]; rfl
  clear hp hs0 hr0
  obtain ⟨bd1, bd2, bd3, bd4⟩ := hbd
  have hm1 : a < mid := by omega
  have hm2 : mid < b := by omega
  have hMid := Lib.hid hmid
  rw [← hmid] at bd4
  clear hmid
  have e1 : IntKind.i64.wrap ((m : Int) - (a : Int)) = (m : Int) - (a : Int) := by rw [IntKind.wrap_i64]; omega
  have n1 : ((m : Int) - (a : Int) == 1) = false := by rw [beq_eq_false_iff_ne]; omega
  have e2 : IntKind.i64.wrap ((b : Int) - (m : Int)) = (b : Int) - (m : Int) := by rw [IntKind.wrap_i64]; omega
  have n2 : ((b : Int) - (m : Int) == 1) = false := by rw [beq_eq_false_iff_ne]; omega
  have HM0 : Hid (symMerge (ltOf cf) (f + 1) dq a m b = (let s := sAt (ltOf cf) dq a m b; let e := (a + b) / 2 + m - s; let d1 := sRot (ltOf cf) dq a m b; let d2 := if a < s ∧ s < (a + b) / 2 then symMerge (ltOf cf) f d1 a s ((a + b) / 2) else d1; if (a + b) / 2 < e ∧ e < b then symMerge (ltOf cf) f d2 ((a + b) / 2) e b else d2)) := by
    show _ = _
    rw [symMerge, if_neg (by omega), if_neg (by omega)]
  clear hne hne2
  go_enter F, Try.ntmps57
  go_upto_region 25 with fail
  have eM : ((a : Int) + (b : Int)) / 2 = (mid : Int) := by have := hMid.out; omega
  rw [eM]
  clear eM
  have e3 : IntKind.i64.wrap ((mid : Int) + (m : Int)) = (mid : Int) + (m : Int) := by rw [IntKind.wrap_i64]; omega
  go_upto_if 140 with fail
  go_cut [20, 21] (fun v20 v21 wx => v20 = .int .i64 s0 ∧ v21 = .int .i64 r0 ∧ wx = sortWorldK enc k w blk off q dq os)
  case first =>
    as_aux_lemma =>
      by_cases c : mid < m
      · have cz : (mid : Int) < (m : Int) := by omega
        have e5 : s0 = mid + m - b := hS0.out.trans (if_pos c)
        have e6 : r0 = mid := hR0.out.trans (if_pos c)
        have e4 : IntKind.i64.wrap ((mid : Int) + (m : Int) - (b : Int)) = (s0 : Int) := by (have := hMid.out); rw [IntKind.wrap_i64]; omega
        clear e5
        subst e6
        go_wp2_with fail
        go_meet
        exact ⟨rfl, rfl, rfl⟩
      · have cz : ¬ (mid : Int) < (m : Int) := by omega
        have e5 : s0 = a := hS0.out.trans (if_neg c)
        have e6 : r0 = m := hR0.out.trans (if_neg c)
        subst e5 e6
        go_wp2_with fail
        go_meet
        exact ⟨rfl, rfl, rfl⟩
  case rest =>
    as_aux_lemma =>
      obtain ⟨rfl, rfl, rfl⟩ := hcut
      clear hS0 hR0 e1 e2 e3 n1 n2
      have e7 : IntKind.i64.wrap ((mid : Int) + (m : Int) - 1) = (mid : Int) + (m : Int) - 1 := by rw [IntKind.wrap_i64]; omega
      go_wp2_with fail
      go_loopg [20, 21] b (fun g1 vi vj wr => ∃ (i j q' : Nat) (os' : Array Obj), vi = .int .i64 i ∧ vj = .int .i64 j ∧ s0 ≤ i ∧ i ≤ j ∧ j ≤ r0 ∧ j - i ≤ g1 ∧ wr = sortWorldK enc k w blk off q' dq os' ∧ Hid (bs p i j = bs p s0 r0))
      case atStart => exact ⟨s0, r0, q, os, rfl, rfl, Nat.le_refl _, bd2, Nat.le_refl _, by omega, rfl, rfl⟩
      case round =>
        as_aux_lemma =>
          obtain ⟨i, j, q', os', rfl, rfl, hi, hij, hj, hg1, rfl, HO⟩ := hrel
          by_cases c : i < j
          · have cz : (i : Int) < (j : Int) := by omega
            obtain ⟨h, hh⟩ : ∃ h, h = (i + j) / 2 := ⟨_, rfl⟩
            have hlo : i ≤ h := by omega
            have hhi : h < j := by omega
            have hG := bs_go (p := p) c
            have hN := bs_no (p := p) c
            rw [← hh] at hG hN
            have hH2 := Lib.hid hh
            clear hh
            obtain ⟨pl1, pl2, pl3, pl4⟩ := hpl.out h (by omega) (by omega)
            obtain ⟨x, hx⟩ : ∃ x, x = (a + b) / 2 + m - 1 - h := ⟨_, rfl⟩
            rw [← hx] at pl3 pl4
            have hxe : (mid : Int) + (m : Int) - 1 - (h : Int) = (x : Int) := by have := hMid.out; omega
            have hpx : p h = !decide (cf dq[x]! dq[h]! < 0) := by rw [HP.out, hx]; rfl
            clear hx
            have wx : IntKind.i64.wrap ((mid : Int) + (m : Int) - 1 - (h : Int)) = (x : Int) := by rw [IntKind.wrap_i64]; omega
            clear hxe
            have pz : (h : Int) < (d.size : Int) := by omega
            have px : (x : Int) < (d.size : Int) := by omega
            have hE := cmp_of HR.out HC.out q' dq os' hs (x := x) (y := h) (by omega) (by omega)
            have CLS : Hid (∀ n' os'', grow ((sortWorldK enc k w blk off q' dq os').drewN n') os'' = sortWorldK enc k w blk off (q' + n') dq (os' ++ os'')) := fun n' os'' => sortWorldK_grown_c enc k w blk off q' n' dq os' os''
            generalize sortWorldK enc k w blk off q' dq os' = wq at hE CLS
            obtain ⟨lx, ly, cg⟩ := hE
            generalize enc dq[x]! = ex at lx cg
            generalize enc dq[h]! = ey at ly cg
            generalize cf dq[x]! dq[h]! = r at cg hpx
            go_wp2_with fail
            have eh : ((i : Int) + (j : Int)) / 2 = (h : Int) := by have := hH2.out; omega
            rw [eh]
            clear eh
            by_cases hr : r < 0
            · have HO' : Hid (bs p i h = bs p s0 r0) := (hN (by rw [hpx, decide_eq_true hr]; rfl)).symm.trans HO.out
              clear hG hN hpx
              go_quiet_grown (first | (go_at_fn g; refine Calls.grown_of (cg _ _)))
              go_wp2_with fail
              go_roundg (h - i)
              case measure => omega
              case rel => exact ⟨i, h, _, _, rfl, rfl, hi, by omega, by omega, Nat.le_refl _, CLS.out nq osq, HO'⟩
            · have HO' : Hid (bs p (h + 1) j = bs p s0 r0) := (hG (by rw [hpx, decide_eq_false hr]; rfl)).symm.trans HO.out
              clear hG hN hpx
              go_quiet_grown (first | (go_at_fn g; refine Calls.grown_of (cg _ _)))
              go_wp2_with fail
              go_roundg (j - (h + 1))
              case measure => omega
              case rel => exact ⟨h + 1, j, _, _, by go_num, rfl, by omega, by omega, hj, Nat.le_refl _, CLS.out nq osq, HO'⟩
          · have cz : ¬ (i : Int) < (j : Int) := by omega
            have HB : Hid (sAt (ltOf cf) dq a m b = i) := HS.out.symm.trans (HO.out.symm.trans (bs_end c))
            clear HO HC HS HP hpl bd1 bd2 bd3 bd4
            -- the places
            have hb1 := sAt_bound (ltOf cf) dq ham hmb
            have hb2 := sEnd_bound ham hmb hb1.1 hb1.2
            have hb3 := sRot_get (ltOf cf) dq ham hmb (show b ≤ dq.size by omega)
            rw [HB.out] at hb2
            rw [← hMid.out] at hb2
            clear hb1
            obtain ⟨k1, k2, k3, k4, k5, k6, k7⟩ := hb2
            have hz1 : (sRot (ltOf cf) dq a m b).size = d.size := hb3.1.trans hs
            clear hb3
            obtain ⟨e, he⟩ : ∃ e, e = mid + m - i := ⟨_, rfl⟩
            rw [← he] at k4 k5 k6 k7
            have we : IntKind.i64.wrap ((mid : Int) + (m : Int) - (i : Int)) = (e : Int) := by rw [IntKind.wrap_i64]; omega
            have HRt : Hid (sRot (ltOf cf) dq a m b = if i < m ∧ m < e then rotate dq i m e else dq) := by
              show _ = _
              unfold sRot
              rw [HB.out, ← hMid.out, ← he]
            have HM : Hid (symMerge (ltOf cf) (f + 1) dq a m b = (let d2 := if a < i ∧ i < mid then symMerge (ltOf cf) f (sRot (ltOf cf) dq a m b) a i mid else sRot (ltOf cf) dq a m b; if mid < e ∧ e < b then symMerge (ltOf cf) f d2 mid e b else d2)) := by
              show _ = _
              rw [HM0.out, HB.out, ← hMid.out, ← he]
            clear HM0
            generalize sRot (ltOf cf) dq a m b = d1 at hz1 HRt HM
            have hrot := Lib.hid (fun h1 h2 => rotate_at HL.out HR.out (.func (.func g) #[] cb) cap i e m q' dq os' hs h1 h2 (by omega))
            clear he hs
            go_upto_region 39 with fail
            go_cut [24, 185] (fun v24 v185 wx => v24 = .int .i64 e ∧ v185 = .bool (decide (i < m ∧ m < e)) ∧ wx = sortWorldK enc k w blk off q' dq os')
            case first =>
              as_aux_lemma =>
                by_cases c1 : i < m
                · have c1z : (i : Int) < (m : Int) := by omega
                  by_cases c2 : m < e
                  · have c2z : (m : Int) < (e : Int) := by omega
                    go_wp2_with fail
                    go_meet
                    exact ⟨rfl, by rw [decide_eq_true (show i < m ∧ m < e from ⟨c1, c2⟩)], rfl⟩
                  · have c2z : ¬ (m : Int) < (e : Int) := by omega
                    go_wp2_with fail
                    go_meet
                    exact ⟨rfl, by rw [decide_eq_false (show ¬ (i < m ∧ m < e) from fun h => c2 h.2)], rfl⟩
                · have c1z : ¬ (i : Int) < (m : Int) := by omega
                  go_wp2_with fail
                  go_meet
                  exact ⟨rfl, by rw [decide_eq_false (show ¬ (i < m ∧ m < e) from fun h => c1 h.1)], rfl⟩
            case rest =>
              as_aux_lemma =>
                obtain ⟨rfl, rfl, rfl⟩ := hcut
                go_upto_if 185 with fail
                go_cut [24] (fun v24 wx => v24 = .int .i64 e ∧ ∃ q2, wx = sortWorldK enc k w blk off q2 d1 os')
                case first =>
                  as_aux_lemma =>
                    by_cases c1 : i < m ∧ m < e
                    · have hc := hrot.out c1.1 c1.2
                      rw [← HRt.out.trans (if_pos c1)] at hc
                      have hdec : decide (i < m ∧ m < e) = true := decide_eq_true c1
                      clear HRt hrot HM HI HR HL HB hMid c1
                      generalize sortWorldK enc k w blk off q' dq os' = wq at hc ⊢
                      generalize decide (i < m ∧ m < e) = bb at hdec ⊢
                      subst hdec
                      go_wp2_with (go_at_fn 60; refine hc.mono ?_; rintro e' w' ⟨rfl, q2, rfl⟩)
                      go_meet
                      exact ⟨rfl, q2, rfl⟩
                    · have hd : d1 = dq := HRt.out.trans (if_neg c1)
                      have hdec : decide (i < m ∧ m < e) = false := decide_eq_false c1
                      subst hd
                      clear c1
                      generalize decide (i < m ∧ m < e) = bb at hdec ⊢
                      subst hdec
                      go_wp2_with fail
                      go_meet
                      exact ⟨rfl, q', rfl⟩
                case rest =>
                  as_aux_lemma =>
                    obtain ⟨rfl, q2, rfl⟩ := hcut
                    clear HRt hrot e7 we
                    obtain ⟨d2, hd2⟩ : ∃ x, x = if a < i ∧ i < mid then symMerge (ltOf cf) f d1 a i mid else d1 := ⟨_, rfl⟩
                    have HD2 := Lib.hid hd2
                    have hz2 : d2.size = d.size := by
                      rw [hd2]
                      split
                      · rename_i h
                        exact (symMerge_perm (ltOf cf) f d1 a i mid h.1 h.2 (by omega)).1.trans hz1
                      · exact hz1
                    clear hd2
                    have hI1 := Lib.hid (fun h1 h2 => HI.out a i mid q2 d1 os' hz1 (by omega) h1 h2 (by omega))
                    go_upto_region 41 with fail
                    go_cut [24, 199] (fun v24 v199 wx => v24 = .int .i64 e ∧ v199 = .bool (decide (a < i ∧ i < mid)) ∧ wx = sortWorldK enc k w blk off q2 d1 os')
                    case first =>
                      as_aux_lemma =>
                        by_cases c1 : a < i
                        · have c1z : (a : Int) < (i : Int) := by omega
                          by_cases c2 : i < mid
                          · have c2z : (i : Int) < (mid : Int) := by omega
                            go_wp2_with fail
                            go_meet
                            exact ⟨rfl, by rw [decide_eq_true (show a < i ∧ i < mid from ⟨c1, c2⟩)], rfl⟩
                          · have c2z : ¬ (i : Int) < (mid : Int) := by omega
                            go_wp2_with fail
                            go_meet
                            exact ⟨rfl, by rw [decide_eq_false (show ¬ (a < i ∧ i < mid) from fun h => c2 h.2)], rfl⟩
                        · have c1z : ¬ (a : Int) < (i : Int) := by omega
                          go_wp2_with fail
                          go_meet
                          exact ⟨rfl, by rw [decide_eq_false (show ¬ (a < i ∧ i < mid) from fun h => c1 h.1)], rfl⟩
                    case rest =>
                      as_aux_lemma =>
                        obtain ⟨rfl, rfl, rfl⟩ := hcut
                        go_upto_if 199 with fail
                        go_cut [24] (fun v24 wx => v24 = .int .i64 e ∧ ∃ q3 os3, wx = sortWorldK enc k w blk off q3 d2 os3)
                        case first =>
                          as_aux_lemma =>
                            by_cases c1 : a < i ∧ i < mid
                            · have hc := hI1.out c1.1 c1.2
                              rw [← HD2.out.trans (if_pos c1)] at hc
                              have hdec : decide (a < i ∧ i < mid) = true := decide_eq_true c1
                              clear HD2 hI1 HM HI HR HL HB hMid c1
                              generalize sortWorldK enc k w blk off q2 d1 os' = wq at hc ⊢
                              generalize decide (a < i ∧ i < mid) = bb at hdec ⊢
                              subst hdec
                              go_wp2_with (go_at_fn 57; refine hc.mono ?_; rintro e' w' ⟨rfl, q3, os3, rfl⟩)
                              go_meet
                              exact ⟨rfl, q3, os3, rfl⟩
                            · have hd : d2 = d1 := HD2.out.trans (if_neg c1)
                              have hdec : decide (a < i ∧ i < mid) = false := decide_eq_false c1
                              subst hd
                              clear c1
                              generalize decide (a < i ∧ i < mid) = bb at hdec ⊢
                              subst hdec
                              go_wp2_with fail
                              go_meet
                              exact ⟨rfl, q2, os', rfl⟩
                        case rest =>
                          as_aux_lemma =>
                            obtain ⟨rfl, q3, os3, rfl⟩ := hcut
                            have HM2 : Hid (symMerge (ltOf cf) (f + 1) dq a m b = if mid < e ∧ e < b then symMerge (ltOf cf) f d2 mid e b else d2) := by
                              show _ = _
                              rw [HM.out, HD2.out]
                            have hI2 := Lib.hid (fun h1 h2 => HI.out mid e b q3 d2 os3 hz2 (by omega) h1 h2 hb)
                            clear HM hI1 HI HR HL HB hMid HD2
                            by_cases c1 : mid < e
                            · have c1z : (mid : Int) < (e : Int) := by omega
                              by_cases c2 : e < b
                              · have c2z : (e : Int) < (b : Int) := by omega
                                have hc := hI2.out c1 c2
                                rw [← HM2.out.trans (if_pos ⟨c1, c2⟩)] at hc
                                clear HM2 hI2
                                generalize sortWorldK enc k w blk off q3 d2 os3 = wq at hc ⊢
                                go_wp2_with (go_at_fn 57; refine hc.mono ?_; rintro e' w' ⟨rfl, q4, os4, rfl⟩)
                                go_end0
                                exact ⟨rfl, q4, os4, rfl⟩
                              · have c2z : ¬ (e : Int) < (b : Int) := by omega
                                go_wp2_with fail
                                go_end0
                                exact ⟨rfl, q3, os3, by rw [HM2.out.trans (if_neg (fun h => c2 h.2))]⟩
                            · have c1z : ¬ (mid : Int) < (e : Int) := by omega
                              go_wp2_with fail
                              go_end0
                              exact ⟨rfl, q3, os3, by rw [HM2.out.trans (if_neg (fun h => c1 h.1))]⟩

/-- symMerge, at whatever size. -/
theorem symMerge_at (L : Lay P k) {enc : α → List Value} {cf : α → α → Int} {g : Nat} {cb : Array Value} {blk off : Nat} {d : Array α} {w : World} (R : Row P enc k w blk off d) (hcmp : CmpLays P g cb enc k cf blk off d.size w) (eg : ∀ args w, (callFunc g args).run P w = .ok (.enter g args) w) (cap : Nat) :
    ∀ (f a m b q : Nat) (dq : Array α) (os : Array Obj), dq.size = d.size → b - a ≤ f → a < m → m < b → b ≤ d.size → Calls P 57 #[.slice (some ⟨blk, off, none⟩) d.size cap, .int .i64 a, .int .i64 m, .int .i64 b, .func (.func g) #[] cb] (sortWorldK enc k w blk off q dq os) (MergeOut enc k w blk off (symMerge (ltOf cf) f dq a m b))
  | 0, a, m, b, q, dq, os, hs, hf, ham, hmb, hb => absurd ham (by omega)
  | f + 1, a, m, b, q, dq, os, hs, hf, ham, hmb, hb => by
    by_cases c1 : m = a + 1
    · have := one_at L R hcmp eg cap a m b q dq os hs c1 hmb hb
      rw [symMerge, if_pos (by omega)]
      exact this
    · by_cases c2 : b = m + 1
      · have := last_at L R hcmp eg cap a m b q dq os hs c2 ham c1 hb
        rw [symMerge, if_neg (by omega), if_pos (by omega)]
        exact this
      · exact big_at L R hcmp eg f cap (symMerge_at L R hcmp eg cap f) a m b q dq os hs hf ham hmb c1 c2 hb
end Go.Proofs.Ytjfcbflhnfjcfaa.Z
