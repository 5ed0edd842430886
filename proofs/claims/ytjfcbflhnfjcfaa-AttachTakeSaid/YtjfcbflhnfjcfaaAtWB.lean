/- The walk of slices.symMergeCmpFunc at a struct of k cells, over any program that has its text. -/
import Derived.Test.YtjfcbflhnfjcfaaAtWA
import Derived.Test.YtjfcbflhnfjcfaaAtZB
namespace Go.Proofs.Ytjfcbflhnfjcfaa.Z
open Go.Proofs Go.Shelf Go.RowKit Go.Lib Go.Sort
set_option linter.unusedVariables false
variable {P : Program} {k : Nat} {α : Type} [Inhabited α]

/-- A comparison of two elements, whatever was drawn and laid ahead of it. -/
structure Cmp (P : Program) (g : Nat) (cb : Array Value) (k : Nat) (wq : World) (blk off x y : Nat) (ex ey : List Value) (r : Int) : Prop where
  lx : ∀ n' os', Sem.run P (loadCellsFrom ⟨blk, off + x * k, none⟩ 0 k #[]) (grow (wq.drewN n') os') = .ok ex.toArray (grow (wq.drewN n') os')
  ly : ∀ n' os', Sem.run P (loadCellsFrom ⟨blk, off + y * k, none⟩ 0 k #[]) (grow (wq.drewN n') os') = .ok ey.toArray (grow (wq.drewN n') os')
  cg : ∀ n' os', Calls P g (#[.agg ex.toArray, .agg ey.toArray] ++ cb) (grow (wq.drewN n') os') fun e w' => e = .returned (.int .i64 r) ∧ ∃ q os'', w' = grow ((grow (wq.drewN n') os').drewN q) os''
theorem cmp_of {g : Nat} {cb : Array Value} {enc : α → List Value} {cf : α → α → Int} {blk off : Nat} {d : Array α} {w : World} (R : Row P enc k w blk off d) (hcmp : CmpLays P g cb enc k cf blk off d.size w) (q : Nat) (dq : Array α) (os : Array Obj) (hs : dq.size = d.size) {x y : Nat} (hx : x < d.size) (hy : y < d.size) :
    Cmp P g cb k (sortWorldK enc k w blk off q dq os) blk off x y (enc dq[x]!) (enc dq[y]!) (cf dq[x]! dq[y]!) := by
  have hcls : ∀ n' os', grow ((sortWorldK enc k w blk off q dq os).drewN n') os' = sortWorldK enc k w blk off (q + n') dq (os ++ os') := fun n' os' => sortWorldK_grown_c enc k w blk off q n' dq os os'
  have hHc : ∀ n' os', HoldsK enc k (grow ((sortWorldK enc k w blk off q dq os).drewN n') os') blk off dq := fun n' os' => by rw [hcls]; exact holdsK_sortWorldK_c enc k w blk off d dq _ _ R.hH R.hblk hs
  exact ⟨fun n' os' => run_loadCellsFrom_list P _ _ _ k (R.hk _) (HoldsK.cells (hHc n' os') R.hk (by omega)), fun n' os' => run_loadCellsFrom_list P _ _ _ k (R.hk _) (HoldsK.cells (hHc n' os') R.hk (by omega)), fun n' os' => by rw [hcls]; exact hcmp _ _ dq hs _ _⟩

theorem bs_go {p : Nat → Bool} {i j : Nat} (h : i < j) (hp : p ((i + j) / 2) = true) : bs p i j = bs p ((i + j) / 2 + 1) j := by
  conv => lhs; rw [bs, if_pos h, if_pos hp]
theorem bs_no {p : Nat → Bool} {i j : Nat} (h : i < j) (hp : p ((i + j) / 2) = false) : bs p i j = bs p i ((i + j) / 2) := by
  conv => lhs; rw [bs, if_pos h, if_neg (by rw [hp]; simp)]
theorem bs_end {p : Nat → Bool} {i j : Nat} (h : ¬ i < j) : bs p i j = i := by rw [bs, if_neg h]
theorem up_go {k e : Nat} {d : Array α} (h : k < e) : up k e d = up (k + 1) e (swp d k (k + 1)) := by conv => lhs; rw [up, if_pos h]
theorem up_end {k e : Nat} {d : Array α} (h : ¬ k < e) : up k e d = d := by rw [up, if_neg h]
theorem size_up : ∀ (s k e : Nat) (d : Array α), e - k = s → (up k e d).size = d.size
  | 0, k, e, d, h => by rw [up_end (by omega)]
  | s + 1, k, e, d, h => by rw [up_go (by omega), size_up s (k + 1) e _ (by omega), size_swp]
theorem down_go {i k : Nat} {d : Array α} (h : i < k + 1) : down i (k + 1) d = down i k (swp d (k + 1) k) := by rw [down, if_pos h]

set_option maxHeartbeats 4000000 in
set_option maxRecDepth 1000000 in
theorem one_at (L : Lay P k) {enc : α → List Value} {cf : α → α → Int} {g : Nat} {cb : Array Value} {blk off : Nat} {d : Array α} {w : World} (R : Row P enc k w blk off d) (hcmp : CmpLays P g cb enc k cf blk off d.size w) (eg : ∀ args w, (callFunc g args).run P w = .ok (.enter g args) w)
    (cap a m b q : Nat) (dq : Array α) (os : Array Obj) (hs : dq.size = d.size) (hm : m = a + 1) (hab : m < b) (hb : b ≤ d.size) :
    Calls P 57 #[.slice (some ⟨blk, off, none⟩) d.size cap, .int .i64 a, .int .i64 m, .int .i64 b, .func (.func g) #[] cb] (sortWorldK enc k w blk off q dq os) fun e w' =>
      e = .returned (.tuple #[]) ∧ ∃ q' os', w' = sortWorldK enc k w blk off q' (up a (bs (fun h => ltOf cf dq[h]! dq[a]!) m b - 1) dq) os' := by
  have mixed := L.mixed; have t0 := L.t0; have a0 := L.a0; have z0 := L.z0; have v0 := L.v0; have t3 := L.t3; have a3 := L.a3; have z3 := L.z3; have v3 := L.v3; have t4 := L.t4; have a4 := L.a4; have z4 := L.z4; have v4 := L.v4; have t24 := L.t24; have a24 := L.a24; have z24 := L.z24; have v24 := L.v24; have t69 := L.t69; have a69 := L.a69; have z69 := L.z69; have v69 := L.v69; have t93 := L.t93; have a93 := L.a93; have z93 := L.z93; have v93 := L.v93; have aE := L.aE; have zE := L.zE
  have u24 := run_underlying L.t24
  have F := L.fm
  have hsz := R.hsz
  have HC : Aside _ := hcmp
  have HR := Lib.hid R
  clear L R hcmp
  obtain ⟨p, hp⟩ : ∃ p : Nat → Bool, p = fun h => ltOf cf dq[h]! dq[a]! := ⟨_, rfl⟩
  have HP := Lib.hid hp
  rw [← hp]
  clear hp
  have e1 : IntKind.i64.wrap ((m : Int) - (a : Int)) = 1 := by rw [IntKind.wrap_i64]; omega
  have ham : a < m := by omega
  clear hm
  go_enter F, Try.ntmps57
  go_wp2_with fail
  go_loopg [10, 11] b (fun g1 vi vj wr => ∃ (i j q' : Nat) (os' : Array Obj), vi = .int .i64 i ∧ vj = .int .i64 j ∧ m ≤ i ∧ i ≤ j ∧ j ≤ b ∧ j - i ≤ g1 ∧ wr = sortWorldK enc k w blk off q' dq os' ∧ Hid (bs p i j = bs p m b))
  case atStart => exact ⟨m, b, q, os, rfl, rfl, by omega, by omega, by omega, by omega, rfl, rfl⟩
  case round =>
    obtain ⟨i, j, q', os', rfl, rfl, hi, hij, hj, hg1, rfl, HO⟩ := hrel
    by_cases c : i < j
    · have cz : (i : Int) < (j : Int) := by omega
      obtain ⟨h, hh⟩ : ∃ h, h = (i + j) / 2 := ⟨_, rfl⟩
      have hH2 := Lib.hid hh
      have hlo : i ≤ h := by omega
      have hhi : h < j := by omega
      have hG := bs_go (p := p) c
      have hN := bs_no (p := p) c
      rw [← hh] at hG hN
      clear hh
      have pz : (h : Int) < (d.size : Int) := by omega
      have pa : (a : Int) < (d.size : Int) := by omega
      have hE := cmp_of HR.out HC.out q' dq os' hs (x := h) (y := a) (by omega) (by omega)
      have hpx : p h = decide (cf dq[h]! dq[a]! < 0) := by rw [HP.out]; rfl
      have CLS : Hid (∀ n' os'', grow ((sortWorldK enc k w blk off q' dq os').drewN n') os'' = sortWorldK enc k w blk off (q' + n') dq (os' ++ os'')) := fun n' os'' => sortWorldK_grown_c enc k w blk off q' n' dq os' os''
      generalize sortWorldK enc k w blk off q' dq os' = wq at hE CLS
      obtain ⟨lx, ly, cg⟩ := hE
      generalize enc dq[h]! = ex at lx cg
      generalize enc dq[a]! = ey at ly cg
      generalize cf dq[h]! dq[a]! = r at cg hpx
      go_wp2_with fail
      have eh : ((i : Int) + (j : Int)) / 2 = (h : Int) := by have := hH2.out; omega
      rw [eh]
      by_cases hr : r < 0
      · have HO' : Hid (bs p (h + 1) j = bs p m b) := (hG (by rw [hpx]; exact decide_eq_true hr)).symm.trans HO.out
        clear hG hN hpx
        go_quiet_grown (first | (go_at_fn g; refine Calls.grown_of (cg _ _)))
        go_wp2_with fail
        go_roundg (j - (h + 1))
        case measure => omega
        case rel => exact ⟨h + 1, j, _, _, by go_num, rfl, by omega, by omega, hj, Nat.le_refl _, CLS.out nq osq, HO'⟩
      · have HO' : Hid (bs p i h = bs p m b) := (hN (by rw [hpx]; exact decide_eq_false hr)).symm.trans HO.out
        clear hG hN hpx
        go_quiet_grown (first | (go_at_fn g; refine Calls.grown_of (cg _ _)))
        go_wp2_with fail
        go_roundg (h - i)
        case measure => omega
        case rel => exact ⟨i, h, _, _, rfl, rfl, hi, by omega, by omega, Nat.le_refl _, CLS.out nq osq, HO'⟩
    · have cz : ¬ (i : Int) < (j : Int) := by omega
      have HB : Hid (bs p m b = i) := HO.out.symm.trans (bs_end c)
      clear HO HC
      have wi : IntKind.i64.wrap ((i : Int) - 1) = (i : Int) - 1 := by rw [IntKind.wrap_i64]; omega
      go_wp2_with fail
      go_loopg [13] i (fun g2 vk wr => ∃ (t q2 : Nat) (d2 : Array α), vk = .int .i64 t ∧ a ≤ t ∧ t ≤ i - 1 ∧ i - 1 - t ≤ g2 ∧ d2.size = d.size ∧ wr = sortWorldK enc k w blk off q2 d2 os' ∧ Hid (up t (i - 1) d2 = up a (i - 1) dq))
      case atStart => exact ⟨a, q', dq, rfl, Nat.le_refl _, by omega, by omega, hs, rfl, rfl⟩
      case round =>
        obtain ⟨t, q2, d2, rfl, hat, hti, hg2, hs2, rfl, HU⟩ := hrel
        by_cases c2 : t < i - 1
        · have c2z : (t : Int) < (i : Int) - 1 := by omega
          obtain ⟨xa, hxa⟩ : ∃ x, x = enc d2[t]! := ⟨_, rfl⟩
          obtain ⟨xb, hxb⟩ : ∃ x, x = enc d2[t + 1]! := ⟨_, rfl⟩
          have hE := exch_of P enc k HR.out.hk HR.out.h1 w blk off q2 d d2 os' HR.out.hH HR.out.hblk hs2 t (t + 1) (by omega) (by omega)
          rw [← hxa, ← hxb] at hE
          have HW : Hid (((sortWorldK enc k w blk off q2 d2 os').drew.setCells blk (off + t * k) xb).setCells blk (off + (t + 1) * k) xa = sortWorldK enc k w blk off (q2 + 1) (swp d2 t (t + 1)) os') := by
            show _ = _
            rw [hxa, hxb]
            exact sortWorldK_swp_c enc k w blk off HR.out.hk q2 d2 os' HR.out.hblk t (t + 1) (by omega) (by omega)
          have HU' : Hid (up (t + 1) (i - 1) (swp d2 t (t + 1)) = up a (i - 1) dq) := (up_go c2).symm.trans HU.out
          clear hxa hxb HU
          generalize hwq : sortWorldK enc k w blk off q2 d2 os' = wq at hE HW
          obtain ⟨li, lj, s1, s2, ni, nj⟩ := hE
          have wt : IntKind.i64.wrap ((t : Int) + 1) = (t : Int) + 1 := by rw [IntKind.wrap_i64]; omega
          have za : (t : Int) < (d.size : Int) := by omega
          have zb : (t : Int) + 1 < (d.size : Int) := by omega
          have eb : ((t : Int) + 1).toNat = t + 1 := by omega
          have pb : (0 : Int) ≤ (t : Int) + 1 := by omega
          have hz : Hid (d2.size = d.size) := hs2
          clear hwq hs2
          go_wp2_with fail
          go_big_region_o
          all_goals go_wp2
          go_roundg (i - 1 - (t + 1))
          case measure => omega
          case rel => exact ⟨t + 1, q2 + 1, swp d2 t (t + 1), by go_num, by omega, by omega, Nat.le_refl _, by rw [size_swp]; exact hz.out, HW.out, HU'⟩
        · have c2z : ¬ (t : Int) < (i : Int) - 1 := by omega
          have HF : Hid (up a (i - 1) dq = d2) := HU.out.symm.trans (up_end c2)
          go_wp2_with fail
          (try simp only [Exit.inBlock, Exit.then]); refine bodyPost_ret (results_none rfl _ _ _) rfl ?_
          exact ⟨rfl, q2, os', by rw [HB.out, HF.out]⟩
set_option maxHeartbeats 4000000 in
set_option maxRecDepth 1000000 in
theorem last_at (L : Lay P k) {enc : α → List Value} {cf : α → α → Int} {g : Nat} {cb : Array Value} {blk off : Nat} {d : Array α} {w : World} (R : Row P enc k w blk off d) (hcmp : CmpLays P g cb enc k cf blk off d.size w) (eg : ∀ args w, (callFunc g args).run P w = .ok (.enter g args) w)
    (cap a m b q : Nat) (dq : Array α) (os : Array Obj) (hs : dq.size = d.size) (hm : b = m + 1) (ham : a < m) (hne : m ≠ a + 1) (hb : b ≤ d.size) :
    Calls P 57 #[.slice (some ⟨blk, off, none⟩) d.size cap, .int .i64 a, .int .i64 m, .int .i64 b, .func (.func g) #[] cb] (sortWorldK enc k w blk off q dq os) fun e w' =>
      e = .returned (.tuple #[]) ∧ ∃ q' os', w' = sortWorldK enc k w blk off q' (down (bs (fun h => !ltOf cf dq[m]! dq[h]!) a m) m dq) os' := by
  have mixed := L.mixed; have t0 := L.t0; have a0 := L.a0; have z0 := L.z0; have v0 := L.v0; have t3 := L.t3; have a3 := L.a3; have z3 := L.z3; have v3 := L.v3; have t4 := L.t4; have a4 := L.a4; have z4 := L.z4; have v4 := L.v4; have t24 := L.t24; have a24 := L.a24; have z24 := L.z24; have v24 := L.v24; have t69 := L.t69; have a69 := L.a69; have z69 := L.z69; have v69 := L.v69; have t93 := L.t93; have a93 := L.a93; have z93 := L.z93; have v93 := L.v93; have aE := L.aE; have zE := L.zE
  have u24 := run_underlying L.t24
  have F := L.fm
  have hsz := R.hsz
  have HC : Aside _ := hcmp
  have HR := Lib.hid R
  clear L R hcmp
  obtain ⟨p, hp⟩ : ∃ p : Nat → Bool, p = fun h => !ltOf cf dq[m]! dq[h]! := ⟨_, rfl⟩
  have HP := Lib.hid hp
  rw [← hp]
  clear hp
  have e1 : IntKind.i64.wrap ((m : Int) - (a : Int)) = (m : Int) - (a : Int) := by rw [IntKind.wrap_i64]; omega
  have n1 : ((m : Int) - (a : Int) == 1) = false := by rw [beq_eq_false_iff_ne]; omega
  have e2 : IntKind.i64.wrap ((b : Int) - (m : Int)) = 1 := by rw [IntKind.wrap_i64]; omega
  have hmb : m < b := by omega
  clear hm hne
  go_enter F, Try.ntmps57
  go_wp2_with fail
  go_loopg [14, 15] m (fun g1 vi vj wr => ∃ (i j q' : Nat) (os' : Array Obj), vi = .int .i64 i ∧ vj = .int .i64 j ∧ a ≤ i ∧ i ≤ j ∧ j ≤ m ∧ j - i ≤ g1 ∧ wr = sortWorldK enc k w blk off q' dq os' ∧ Hid (bs p i j = bs p a m))
  case atStart => exact ⟨a, m, q, os, rfl, rfl, by omega, by omega, by omega, by omega, rfl, rfl⟩
  case round =>
    obtain ⟨i, j, q', os', rfl, rfl, hi, hij, hj, hg1, rfl, HO⟩ := hrel
    by_cases c : i < j
    · have cz : (i : Int) < (j : Int) := by omega
      obtain ⟨h, hh⟩ : ∃ h, h = (i + j) / 2 := ⟨_, rfl⟩
      have hH2 := Lib.hid hh
      have hlo : i ≤ h := by omega
      have hhi : h < j := by omega
      have hG := bs_go (p := p) c
      have hN := bs_no (p := p) c
      rw [← hh] at hG hN
      clear hh
      have pz : (h : Int) < (d.size : Int) := by omega
      have pm : (m : Int) < (d.size : Int) := by omega
      have hE := cmp_of HR.out HC.out q' dq os' hs (x := m) (y := h) (by omega) (by omega)
      have hpx : p h = !decide (cf dq[m]! dq[h]! < 0) := by rw [HP.out]; rfl
      have CLS : Hid (∀ n' os'', grow ((sortWorldK enc k w blk off q' dq os').drewN n') os'' = sortWorldK enc k w blk off (q' + n') dq (os' ++ os'')) := fun n' os'' => sortWorldK_grown_c enc k w blk off q' n' dq os' os''
      generalize sortWorldK enc k w blk off q' dq os' = wq at hE CLS
      obtain ⟨lx, ly, cg⟩ := hE
      generalize enc dq[m]! = ex at lx cg
      generalize enc dq[h]! = ey at ly cg
      generalize cf dq[m]! dq[h]! = r at cg hpx
      go_wp2_with fail
      have eh : ((i : Int) + (j : Int)) / 2 = (h : Int) := by have := hH2.out; omega
      rw [eh]
      by_cases hr : r < 0
      · have HO' : Hid (bs p i h = bs p a m) := (hN (by rw [hpx]; rw [decide_eq_true hr]; rfl)).symm.trans HO.out
        clear hG hN hpx
        go_quiet_grown (first | (go_at_fn g; refine Calls.grown_of (cg _ _)))
        go_wp2_with fail
        go_roundg (h - i)
        case measure => omega
        case rel => exact ⟨i, h, _, _, rfl, rfl, hi, by omega, by omega, Nat.le_refl _, CLS.out nq osq, HO'⟩
      · have HO' : Hid (bs p (h + 1) j = bs p a m) := (hG (by rw [hpx]; rw [decide_eq_false hr]; rfl)).symm.trans HO.out
        clear hG hN hpx
        go_quiet_grown (first | (go_at_fn g; refine Calls.grown_of (cg _ _)))
        go_wp2_with fail
        go_roundg (j - (h + 1))
        case measure => omega
        case rel => exact ⟨h + 1, j, _, _, by go_num, rfl, by omega, by omega, hj, Nat.le_refl _, CLS.out nq osq, HO'⟩
    · have cz : ¬ (i : Int) < (j : Int) := by omega
      have HB : Hid (bs p a m = i) := HO.out.symm.trans (bs_end c)
      clear HO HC
      go_wp2_with fail
      go_loopg [17] m (fun g2 vk wr => ∃ (t q2 : Nat) (d2 : Array α), vk = .int .i64 t ∧ i ≤ t ∧ t ≤ m ∧ t - i ≤ g2 ∧ d2.size = d.size ∧ wr = sortWorldK enc k w blk off q2 d2 os' ∧ Hid (down i t d2 = down i m dq))
      case atStart => exact ⟨m, q', dq, rfl, by omega, Nat.le_refl _, by omega, hs, rfl, rfl⟩
      case round =>
        obtain ⟨t, q2, d2, rfl, hat, hti, hg2, hs2, rfl, HU⟩ := hrel
        by_cases c2 : i < t
        · obtain ⟨u, rfl⟩ : ∃ u, t = u + 1 := ⟨t - 1, by omega⟩
          have c2z : (i : Int) < (u : Int) + 1 := by omega
          obtain ⟨xa, hxa⟩ : ∃ x, x = enc d2[u + 1]! := ⟨_, rfl⟩
          obtain ⟨xb, hxb⟩ : ∃ x, x = enc d2[u]! := ⟨_, rfl⟩
          have hE := exch_of P enc k HR.out.hk HR.out.h1 w blk off q2 d d2 os' HR.out.hH HR.out.hblk hs2 (u + 1) u (by omega) (by omega)
          rw [← hxa, ← hxb] at hE
          have HW : Hid (((sortWorldK enc k w blk off q2 d2 os').drew.setCells blk (off + (u + 1) * k) xb).setCells blk (off + u * k) xa = sortWorldK enc k w blk off (q2 + 1) (swp d2 (u + 1) u) os') := by
            show _ = _
            rw [hxa, hxb]
            exact sortWorldK_swp_c enc k w blk off HR.out.hk q2 d2 os' HR.out.hblk (u + 1) u (by omega) (by omega)
          have HU' : Hid (down i u (swp d2 (u + 1) u) = down i m dq) := (down_go c2).symm.trans HU.out
          clear hxa hxb HU
          generalize hwq : sortWorldK enc k w blk off q2 d2 os' = wq at hE HW
          obtain ⟨li, lj, s1, s2, ni, nj⟩ := hE
          have wu : IntKind.i64.wrap (u : Int) = (u : Int) := by rw [IntKind.wrap_i64]; omega
          have za : (u : Int) + 1 < (d.size : Int) := by omega
          have zb : (u : Int) < (d.size : Int) := by omega
          have eb : ((u : Int) + 1).toNat = u + 1 := by omega
          have pb : (0 : Int) ≤ (u : Int) + 1 := by omega
          have hz : Hid (d2.size = d.size) := hs2
          clear hwq hs2
          go_wp2_with fail
          go_big_region_o
          all_goals go_wp2
          go_roundg (u - i)
          case measure => omega
          case rel => exact ⟨u, q2 + 1, swp d2 (u + 1) u, by first | rfl | go_num | (congr 1; omega), by omega, by omega, Nat.le_refl _, by rw [size_swp]; exact hz.out, HW.out, HU'⟩
        · have c2z : ¬ (i : Int) < (t : Int) := by omega
          have HF : Hid (down i m dq = d2) := by
            show _ = _
            rw [← HU.out]
            cases t with
            | zero => rfl
            | succ t => rw [down, if_neg (by omega)]
          go_wp2_with fail
          (try simp only [Exit.inBlock, Exit.then]); refine bodyPost_ret (results_none rfl _ _ _) rfl ?_
          exact ⟨rfl, q2, os', by rw [HB.out, HF.out]⟩

end Go.Proofs.Ytjfcbflhnfjcfaa.Z
