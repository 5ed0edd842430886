/- The walk of slices.swapRangeCmpFunc and rotateCmpFunc at a struct of k cells, over any program that has their text. -/
import Derived.Test.YtjfcbflhnfjcfaaAtZ
import Derived.Test.YtjfcbflhnfjcfaaChecked
import Derived.Shelf.SlSortCmp.InsertionK
import Derived.Lib.Hide
namespace Go.Proofs.Ytjfcbflhnfjcfaa.Z
open Go.Proofs Go.Shelf Go.RowKit Go.Lib Go.Sort
set_option linter.unusedVariables false
variable {P : Program} {k : Nat} {α : Type} [Inhabited α]

/-- What the sort's texts lean on. -/
structure Lay (P : Program) (k : Nat) : Prop where
  mixed : P.follows .mixedOrders = true
  t0 : P.underlying 0 = some (TypeDesc.tuple #[])
  a0 : ∀ w, (isAgg 0).run P w = .ok false w
  z0 : ∀ w, (Go.sizeOf 0).run P w = .ok 1 w
  v0 : ∀ w, (zeroValue 0).run P w = .ok (Value.tuple #[]) w
  t3 : P.underlying 3 = some (TypeDesc.int IntKind.i64)
  a3 : ∀ w, (isAgg 3).run P w = .ok false w
  z3 : ∀ w, (Go.sizeOf 3).run P w = .ok 1 w
  v3 : ∀ w, (zeroValue 3).run P w = .ok (Value.int IntKind.i64 0) w
  t4 : P.underlying 4 = some (TypeDesc.bool)
  a4 : ∀ w, (isAgg 4).run P w = .ok false w
  z4 : ∀ w, (Go.sizeOf 4).run P w = .ok 1 w
  v4 : ∀ w, (zeroValue 4).run P w = .ok (Value.bool false) w
  t24 : P.underlying 24 = some (TypeDesc.slice 43)
  a24 : ∀ w, (isAgg 24).run P w = .ok false w
  z24 : ∀ w, (Go.sizeOf 24).run P w = .ok 1 w
  v24 : ∀ w, (zeroValue 24).run P w = .ok (Value.slice none 0 0) w
  t69 : P.underlying 69 = some (TypeDesc.func #[43, 43] #[3] false)
  a69 : ∀ w, (isAgg 69).run P w = .ok false w
  z69 : ∀ w, (Go.sizeOf 69).run P w = .ok 1 w
  v69 : ∀ w, (zeroValue 69).run P w = .ok (Value.nilFunc) w
  t93 : P.underlying 93 = some (TypeDesc.int IntKind.u64)
  a93 : ∀ w, (isAgg 93).run P w = .ok false w
  z93 : ∀ w, (Go.sizeOf 93).run P w = .ok 1 w
  v93 : ∀ w, (zeroValue 93).run P w = .ok (Value.int IntKind.u64 0) w
  aE : ∀ w, (isAgg 43).run P w = .ok true w
  zE : ∀ w, (Go.sizeOf 43).run P w = .ok k w
  fs : P.funcs[66]? = some Try.f66
  fr : P.funcs[60]? = some Try.f60
  fm : P.funcs[57]? = some Try.f57
  ft : P.funcs[46]? = some Try.f46

/-- The exchange of two elements, as one run of loads and stores. -/
structure Exch (P : Program) (enc : α → List Value) (k : Nat) (wq : World) (blk off : Nat) (dj : Array α) (i j : Nat) (xi xj : List Value) : Prop where
  li : Sem.run P (loadCellsFrom ⟨blk, off + i * k, none⟩ 0 k #[]) wq.drew = .ok xi.toArray wq.drew
  lj : Sem.run P (loadCellsFrom ⟨blk, off + j * k, none⟩ 0 k #[]) wq.drew = .ok xj.toArray wq.drew
  s1 : Sem.run P (storeCells ⟨blk, off + i * k, none⟩ xj 0) wq.drew = .ok () (wq.drew.setCells blk (off + i * k) xj)
  s2 : Sem.run P (storeCells ⟨blk, off + j * k, none⟩ xi 0) (wq.drew.setCells blk (off + i * k) xj) = .ok () ((wq.drew.setCells blk (off + i * k) xj).setCells blk (off + j * k) xi)
  ni : xi.length = k
  nj : xj.length = k
theorem exch_of (P : Program) (enc : α → List Value) (k : Nat) (hk : ∀ x, (enc x).length = k) (h1 : ∀ x, ∀ v ∈ enc x, v.oneCell' = true) (w : World) (blk off m : Nat) (d dj : Array α) (oj : Array Obj) (hH : HoldsK enc k w blk off d) (hblk : blk < w.heap.size) (hs : dj.size = d.size) (i j : Nat) (hi : i < d.size) (hj : j < d.size) :
    Exch P enc k (sortWorldK enc k w blk off m dj oj) blk off dj i j (enc dj[i]!) (enc dj[j]!) := by
  have hHd : HoldsK enc k (sortWorldK enc k w blk off m dj oj).drew blk off dj := holdsK_sortWorldK_c enc k w blk off d dj _ _ hH hblk hs
  generalize sortWorldK enc k w blk off m dj oj = wq at hHd ⊢
  have bnd : ∀ x, x < dj.size → x * k + k ≤ dj.size * k := fun x hx => by
    have := Nat.mul_le_mul_right k (show x + 1 ≤ dj.size from hx); rwa [Nat.add_mul, Nat.one_mul] at this
  refine ⟨run_loadCellsFrom_list P _ _ _ k (hk _) (HoldsK.cells hHd hk (by omega)), run_loadCellsFrom_list P _ _ _ k (hk _) (HoldsK.cells hHd hk (by omega)), ?_, ?_, hk _, hk _⟩
  · exact stores_of_holds P hHd (i * k) _ (by rw [hk, size_flatK]; exact bnd i (by omega)) (h1 _)
  · exact stores_of_holds P (holds_setCells_c hHd (i * k) _ (by rw [hk, size_flatK]; exact bnd i (by omega))) (j * k) _ (by rw [hk, size_setMany, size_flatK]; exact bnd j (by omega)) (h1 _)

set_option maxHeartbeats 4000000 in
set_option maxRecDepth 1000000 in
theorem swapRange_is (L : Lay P k) (enc : α → List Value) (hk : ∀ x, (enc x).length = k) (h1 : ∀ x, ∀ v ∈ enc x, v.oneCell' = true) (fv : Value) (blk off cap a b n : Nat) (d : Array α) (w : World)
    (hH : HoldsK enc k w blk off d) (hblk : blk < w.heap.size) (ha : a + n ≤ d.size) (hb : b + n ≤ d.size) (hsz : d.size < 4611686018427387904) :
    Calls P 66 #[.slice (some ⟨blk, off, none⟩) d.size cap, .int .i64 a, .int .i64 b, .int .i64 n, fv] w fun e w' =>
      e = .returned (.tuple #[]) ∧ ∃ m, w' = sortWorldK enc k w blk off m (swaps n a b d) #[] := by
  have mixed := L.mixed; have t0 := L.t0; have a0 := L.a0; have z0 := L.z0; have v0 := L.v0; have t3 := L.t3; have a3 := L.a3; have z3 := L.z3; have v3 := L.v3; have t4 := L.t4; have a4 := L.a4; have z4 := L.z4; have v4 := L.v4; have t24 := L.t24; have a24 := L.a24; have z24 := L.z24; have v24 := L.v24; have aE := L.aE; have zE := L.zE
  have u24 := run_underlying L.t24
  have F := L.fs
  have HST : Hid (w = sortWorldK enc k w blk off 0 d #[]) := by show w = _; unfold sortWorldK; rw [grow_empty]; exact (putRowK_self enc k w blk off d hH).symm
  have HH : Hid (HoldsK enc k w blk off d) := hH
  have HK : Hid (∀ x, (enc x).length = k) := hk
  have H1 : Hid (∀ x, ∀ v ∈ enc x, v.oneCell' = true) := h1
  clear hH hk h1 L
  go_enter F, Try.ntmps66
  go_wp2
  go_loopg [10] n (fun g1 vi wr => ∃ (i m : Nat) (dk : Array α), vi = .int .i64 i ∧ i ≤ n ∧ n - i ≤ g1 ∧ dk.size = d.size ∧ wr = sortWorldK enc k w blk off m dk #[] ∧ Hid (swaps (n - i) (a + i) (b + i) dk = swaps n a b d))
  case atStart => exact ⟨0, 0, d, rfl, Nat.zero_le _, Nat.le_refl _, rfl, HST.out, rfl⟩
  case round =>
    obtain ⟨i, m, dk, rfl, hin, hg1, hsk, rfl, HO⟩ := hrel
    by_cases hlt : i < n
    · have hltz : (i : Int) < (n : Int) := by omega
      obtain ⟨xa, hxa⟩ : ∃ x, x = enc dk[a + i]! := ⟨_, rfl⟩
      obtain ⟨xb, hxb⟩ : ∃ x, x = enc dk[b + i]! := ⟨_, rfl⟩
      have hE := exch_of P enc k HK.out H1.out w blk off m d dk #[] HH.out hblk hsk (a + i) (b + i) (by omega) (by omega)
      rw [← hxa, ← hxb] at hE
      have HW : Hid ((((sortWorldK enc k w blk off m dk #[]).drew.setCells blk (off + (a + i) * k) xb).setCells blk (off + (b + i) * k) xa) = sortWorldK enc k w blk off (m + 1) (swp dk (a + i) (b + i)) #[]) := by
        show _ = _
        rw [hxa, hxb]
        exact sortWorldK_swp_c enc k w blk off HK.out m dk #[] hblk (a + i) (b + i) (by omega) (by omega)
      clear hxa hxb
      generalize hwq : sortWorldK enc k w blk off m dk #[] = wq at hE HW
      obtain ⟨li, lj, s1, s2, ni, nj⟩ := hE
      have wa : IntKind.i64.wrap ((a : Int) + (i : Int)) = (a : Int) + (i : Int) := by rw [IntKind.wrap_i64]; omega
      have wb : IntKind.i64.wrap ((b : Int) + (i : Int)) = (b : Int) + (i : Int) := by rw [IntKind.wrap_i64]; omega
      have za : (a : Int) + (i : Int) < (d.size : Int) := by omega
      have zb : (b : Int) + (i : Int) < (d.size : Int) := by omega
      have ea : ((a : Int) + (i : Int)).toNat = a + i := by omega
      have eb : ((b : Int) + (i : Int)).toNat = b + i := by omega
      have pa : (0 : Int) ≤ (a : Int) + (i : Int) := by omega
      have pb : (0 : Int) ≤ (b : Int) + (i : Int) := by omega
      have hz : Hid (dk.size = d.size) := hsk
      clear hwq hsk
      go_wp2_with fail
      go_big_region_o
      all_goals go_wp2
      go_roundg (n - (i + 1))
      case measure => omega
      case rel =>
        refine ⟨i + 1, m + 1, swp dk (a + i) (b + i), by go_num, by omega, Nat.le_refl _, by rw [size_swp]; exact hz.out, HW.out, (show Hid _ from ?_)⟩
        show _ = _
        rw [← HO.out, show n - i = (n - (i + 1)) + 1 by omega]
        rfl
    · have hltz : ¬ (i : Int) < (n : Int) := by omega
      go_wp2
      go_end0
      refine ⟨rfl, m, ?_⟩
      have := HO.out
      rw [show n - i = 0 by omega] at this
      rw [← this]; rfl

theorem sortWorldK_step (enc : α → List Value) (k : Nat) (w : World) (blk off m m' : Nat) (d d' : Array α) (os os' : Array Obj) (hblk : blk < w.heap.size) (h : d'.size = d.size) :
    sortWorldK enc k (sortWorldK enc k w blk off m d os) blk off m' d' os' = sortWorldK enc k w blk off (m + m') d' (os ++ os') := by
  unfold sortWorldK
  exact grow_step_growK enc k w os os' m m' blk off d d' hblk h

/-- The ground on which the sort walks: a row of elements. -/
structure Row (P : Program) (enc : α → List Value) (k : Nat) (w : World) (blk off : Nat) (d : Array α) : Prop where
  hk : ∀ x, (enc x).length = k
  h1 : ∀ x, ∀ v ∈ enc x, v.oneCell' = true
  hH : HoldsK enc k w blk off d
  hblk : blk < w.heap.size
  hsz : d.size < 4611686018427387904

theorem swapRange_at (L : Lay P k) {enc : α → List Value} {blk off : Nat} {d : Array α} {w : World} (R : Row P enc k w blk off d) (fv : Value) (cap a b n m : Nat) (dk : Array α) (os : Array Obj)
    (hs : dk.size = d.size) (ha : a + n ≤ d.size) (hb : b + n ≤ d.size) :
    Calls P 66 #[.slice (some ⟨blk, off, none⟩) d.size cap, .int .i64 a, .int .i64 b, .int .i64 n, fv] (sortWorldK enc k w blk off m dk os) fun e w' =>
      e = .returned (.tuple #[]) ∧ ∃ m', w' = sortWorldK enc k w blk off m' (swaps n a b dk) os := by
  have hc := swapRange_is L enc R.hk R.h1 fv blk off cap a b n dk (sortWorldK enc k w blk off m dk os) (holdsK_sortWorldK_c enc k w blk off d dk _ _ R.hH R.hblk hs) (Nat.lt_of_lt_of_le R.hblk (size_sortWorldK_c enc k w blk off m dk os)) (by omega) (by omega) (by have := R.hsz; omega)
  rw [hs] at hc
  refine hc.mono ?_
  rintro e w' ⟨he, m', hw⟩
  refine ⟨he, m + m', ?_⟩
  rw [hw, sortWorldK_step enc k w blk off m m' dk _ os #[] R.hblk (size_swaps _ _ _ _), Array.append_empty]

set_option maxHeartbeats 4000000 in
set_option maxRecDepth 1000000 in
theorem rotate_at (L : Lay P k) {enc : α → List Value} {blk off : Nat} {d : Array α} {w : World} (R : Row P enc k w blk off d) (fv : Value) (cap a b m q : Nat) (dq : Array α) (os : Array Obj)
    (hs : dq.size = d.size) (ham : a < m) (hmb : m < b) (hb : b ≤ d.size) :
    Calls P 60 #[.slice (some ⟨blk, off, none⟩) d.size cap, .int .i64 a, .int .i64 m, .int .i64 b, fv] (sortWorldK enc k w blk off q dq os) fun e w' =>
      e = .returned (.tuple #[]) ∧ ∃ q', w' = sortWorldK enc k w blk off q' (rotate dq a m b) os := by
  have mixed := L.mixed; have t0 := L.t0; have a0 := L.a0; have z0 := L.z0; have v0 := L.v0; have t3 := L.t3; have a3 := L.a3; have z3 := L.z3; have v3 := L.v3; have t4 := L.t4; have a4 := L.a4; have z4 := L.z4; have v4 := L.v4; have t24 := L.t24; have a24 := L.a24; have z24 := L.z24; have v24 := L.v24; have t69 := L.t69; have a69 := L.a69; have z69 := L.z69; have v69 := L.v69
  have F := L.fr
  have es : ∀ args w, (callFunc 66 args).run P w = .ok (.enter 66 args) w := enters_of L.fs (by kernel_rfl) rfl
  have HS := Lib.hid (fun a b n q dk hs ha hb => swapRange_at L R fv cap a b n q dk os hs ha hb)
  have hsz := R.hsz
  clear L R
  go_enter F, Try.ntmps60
  go_wp2_with fail
  go_loopg [10, 11] (b - a) (fun g1 vi vj wr => ∃ (i j m' : Nat) (dk : Array α), vi = .int .i64 i ∧ vj = .int .i64 j ∧ 0 < i ∧ 0 < j ∧ i ≤ m ∧ m + j ≤ d.size ∧ i + j ≤ g1 ∧ dk.size = d.size ∧ wr = sortWorldK enc k w blk off m' dk os ∧ Hid (rotGo m i j dk = rotGo m (m - a) (b - m) dq))
  case atStart => exact ⟨m - a, b - m, q, dq, by go_num, by go_num, by omega, by omega, by omega, by omega, by omega, hs, rfl, rfl⟩
  case round =>
    obtain ⟨i, j, m', dk, rfl, rfl, hi, hj, him, hmj, hg, hsk, rfl, HO⟩ := hrel
    have w1 : IntKind.i64.wrap ((m : Int) - (i : Int)) = ((m - i : Nat) : Int) := by rw [IntKind.wrap_i64]; omega
    have w2 : IntKind.i64.wrap ((i : Int) - (j : Int)) = (i : Int) - (j : Int) := by rw [IntKind.wrap_i64]; omega
    have w3 : IntKind.i64.wrap ((j : Int) - (i : Int)) = (j : Int) - (i : Int) := by rw [IntKind.wrap_i64]; omega
    by_cases c1 : i = j
    · subst c1
      have hc := HS.out (m - i) m i m' dk hsk (by omega) (by omega)
      have HR : Hid (rotGo m (m - a) (b - m) dq = swaps i (m - i) m dk) := by
        show _ = _
        rw [← HO.out, rotGo, dif_pos ⟨hi, hi⟩, if_pos rfl]
      generalize sortWorldK enc k w blk off m' dk os = wr at hc
      go_wp2_with (go_at_fn 66; refine hc.mono ?_; rintro e w' ⟨rfl, q', rfl⟩)
      go_end0
      exact ⟨rfl, q', by unfold rotate; rw [HR.out]⟩
    · have hne : ((i : Int) != (j : Int)) = true := by rw [bne_iff_ne]; omega
      by_cases c2 : j < i
      · have c2z : (j : Int) < (i : Int) := by omega
        have hc := HS.out (m - i) m j m' dk hsk (by omega) (by omega)
        have HR : Hid (rotGo m (i - j) j (swaps j (m - i) m dk) = rotGo m (m - a) (b - m) dq) := by
          show _ = _
          rw [← HO.out]
          conv => rhs; rw [rotGo, dif_pos ⟨hi, hj⟩, if_neg c1, if_pos c2]
        generalize sortWorldK enc k w blk off m' dk os = wr at hc
        go_wp2_with (go_at_fn 66; refine hc.mono ?_; rintro e w' ⟨rfl, q', rfl⟩)
        go_roundg (i - j + j)
        case measure => omega
        case rel => exact ⟨i - j, j, q', swaps j (m - i) m dk, by go_num, rfl, by omega, hj, by omega, hmj, Nat.le_refl _, by rw [size_swaps]; exact hsk, rfl, HR⟩
      · have c2z : ¬ (j : Int) < (i : Int) := by omega
        have w4 : IntKind.i64.wrap ((m : Int) + (j : Int)) = (m : Int) + (j : Int) := by rw [IntKind.wrap_i64]; omega
        have w5 : IntKind.i64.wrap ((m : Int) + (j : Int) - (i : Int)) = (m : Int) + (j : Int) - (i : Int) := by rw [IntKind.wrap_i64]; omega
        have hc := HS.out (m - i) (m + j - i) i m' dk hsk (by omega) (by omega)
        rw [show ((m + j - i : Nat) : Int) = (m : Int) + (j : Int) - (i : Int) by omega] at hc
        have HR : Hid (rotGo m i (j - i) (swaps i (m - i) (m + j - i) dk) = rotGo m (m - a) (b - m) dq) := by
          show _ = _
          rw [← HO.out]
          conv => rhs; rw [rotGo, dif_pos ⟨hi, hj⟩, if_neg c1, if_neg c2]
        generalize sortWorldK enc k w blk off m' dk os = wr at hc
        go_wp2_with (go_at_fn 66; refine hc.mono ?_; rintro e w' ⟨rfl, q', rfl⟩)
        go_roundg (i + (j - i))
        case measure => omega
        case rel => exact ⟨i, j - i, q', swaps i (m - i) (m + j - i) dk, rfl, by go_num, hi, by omega, him, by omega, Nat.le_refl _, by rw [size_swaps]; exact hsk, rfl, HR⟩
end Go.Proofs.Ytjfcbflhnfjcfaa.Z
