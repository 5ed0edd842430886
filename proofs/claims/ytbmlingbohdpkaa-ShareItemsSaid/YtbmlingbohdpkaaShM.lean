/- The walks of share: rows in memory, part, sum. -/
import Derived.Test.YtbmlingbohdpkaaDivH
import Derived.Test.YtbmlingbohdpkaaShL
import Derived.Deep.OwnRows
namespace Go.Proofs.Ytbmlingbohdpkaa.W
open Go.RowKit Go.Proofs.Ytbmlingbohdpkaa.M Go.Proofs.Ytbmlingbohdpkaa.B Go.Proofs.Ytbmlingbohdpkaa.H
set_option linter.unusedVariables false

/-- A slice that reads as n values of f. -/
def Vec (k : IntKind) (w : World) (a : Option Addr) (n cap : Nat) (f : Nat → Int) : Prop :=
  n ≤ 9223372036854775807 ∧ (0 < n → ∃ b off, a = some ⟨b, off, none⟩ ∧ b < w.heap.size ∧ ∀ j, j < n → w.cell? ⟨b, off + j, none⟩ = some (.int k (f j)))
theorem Vec.next {k : IntKind} {w w' : World} {a : Option Addr} {n cap : Nat} {f : Nat → Int} (h : Vec k w a n cap f) {B : Nat} (hb : Below B w w') (hB : w.heap.size ≤ B) : Vec k w' a n cap f :=
  ⟨h.1, fun hn => by
    obtain ⟨b, off, ha, hlt, hc⟩ := h.2 hn
    exact ⟨b, off, ha, Nat.lt_of_lt_of_le hlt hb.size, fun j hj => bc hb (Nat.lt_of_lt_of_le hlt hB) (hc j hj)⟩⟩
theorem Vec.step {k : IntKind} {w w' : World} {a : Option Addr} {n cap : Nat} {f : Nat → Int} (h : Vec k w a n cap f) (hb : Below w.heap.size w w') : Vec k w' a n cap f := h.next hb (Nat.le_refl _)
theorem Vec.at_ {k : IntKind} {w : World} {a : Option Addr} {n cap : Nat} {f : Nat → Int} {j : Nat} (h : Vec k w a n cap f) (hj : j < n) : ∃ b off, a = some ⟨b, off, none⟩ ∧ b < w.heap.size ∧ w.cell? ⟨b, off + j, none⟩ = some (.int k (f j)) := by
  obtain ⟨b, off, ha, hlt, hc⟩ := h.2 (by omega)
  exact ⟨b, off, ha, hlt, hc j hj⟩
theorem Vec.of_ints {k : IntKind} {w : World} {a : Option Addr} {n cap : Nat} {xs : List Int} (h : Ints k w a n cap xs) : Vec k w a n cap fun j => xs.getD j 0 :=
  ⟨by have h1 := h.2.1; have h2 := h.2.2.1; unfold maxLen at h2; omega, h.2.2.2⟩
theorem Vec.nil {k : IntKind} {w : World} {a : Option Addr} {cap : Nat} {f : Nat → Int} : Vec k w a 0 cap f := ⟨by omega, fun h => absurd h (by omega)⟩
theorem Vec.congr {k : IntKind} {w : World} {a : Option Addr} {n cap : Nat} {f g : Nat → Int} (h : Vec k w a n cap f) (e : ∀ i, i < n → f i = g i) : Vec k w a n cap g :=
  ⟨h.1, fun hn => by
    obtain ⟨b, off, ha, hlt, hc⟩ := h.2 hn
    exact ⟨b, off, ha, hlt, fun j hj => by rw [hc j hj, e j hj]⟩⟩

/-- A row of its own block. -/
structure Row (k : IntKind) (w : World) (g n : Nat) (f : Nat → Int) : Prop where
  lt : g < w.heap.size
  cell : ∀ i, i < n → w.cell? ⟨g, i, none⟩ = some (.int k (f i))
  frz : ∀ o, w.frozen? ⟨g, o, none⟩ = false
theorem Row.next {k : IntKind} {w w' : World} {g n : Nat} {f : Nat → Int} (h : Row k w g n f) {B : Nat} (hb : Below B w w') (hB : g < B) : Row k w' g n f :=
  ⟨Nat.lt_of_lt_of_le h.lt hb.size, fun i hi => bc hb hB (h.cell i hi), fun o => bf hb hB (h.frz o)⟩
theorem Row.step {k : IntKind} {w w' : World} {g n : Nat} {f : Nat → Int} (h : Row k w g n f) (hb : Below w.heap.size w w') : Row k w' g n f := h.next hb h.lt
theorem Row.congr {k : IntKind} {w : World} {g n : Nat} {f f' : Nat → Int} (h : Row k w g n f) (e : ∀ i, i < n → f i = f' i) : Row k w g n f' :=
  ⟨h.lt, fun i hi => by rw [h.cell i hi, e i hi], h.frz⟩
theorem Row.set {k : IntKind} {w : World} {g n : Nat} {f : Nat → Int} (h : Row k w g n f) {i : Nat} (hi : i < n) (v : Int) : Row k (w.setCell ⟨g, i, none⟩ (.int k v)) g n (upd f i v) := by
  refine ⟨by simpa using h.lt, fun j hj => ?_, fun o => by rw [World.frozen?_setCell]; exact h.frz o⟩
  by_cases e : j = i
  · subst e; rw [upd_same]; exact World.cell?_setCell_same _ _ _ (h.cell j hj)
  · rw [upd_other _ _ e]
    exact (World.cell?_setCell_other _ _ _ _ (fun hh => e (by injection hh with _ h2; exact h2.symm))).trans (h.cell j hj)
theorem Row.far {k : IntKind} {w : World} {g n : Nat} {f : Nat → Int} (h : Row k w g n f) {g2 i : Nat} (hg : g2 ≠ g) (v : Value) : Row k (w.setCell ⟨g2, i, none⟩ v) g n f :=
  ⟨by simpa using h.lt, fun j hj => (World.cell?_setCell_other _ _ _ _ (fun hh => hg (by injection hh with h1))).trans (h.cell j hj), fun o => by rw [World.frozen?_setCell]; exact h.frz o⟩
theorem Row.made (k : IntKind) (w : World) (n : Nat) (E : TypeId) : Row k (w.alloc (.cells (madeCells #[.int k 0] n) E)) w.heap.size n fun _ => 0 := by
  refine ⟨by simp, fun i hi => ?_, fun o => World.frozen?_alloc_at _ _ _ _ rfl⟩
  rw [World.cell?_alloc_at _ _ _ _ rfl, ← Array.getElem?_toList, toList_madeCells_one]
  simp [hi]
theorem Row.drewN {k : IntKind} {w : World} {g n : Nat} {f : Nat → Int} (h : Row k w g n f) (m : Nat) : Row k (w.drewN m) g n f := ⟨h.lt, h.cell, h.frz⟩
theorem Row.vec {k : IntKind} {w : World} {g n cap : Nat} {f : Nat → Int} (h : Row k w g n f) (hn : n ≤ 9223372036854775807) : Vec k w (some ⟨g, 0, none⟩) n cap f :=
  ⟨hn, fun _ => ⟨g, 0, rfl, h.lt, fun j hj => by rw [Nat.zero_add]; exact h.cell j hj⟩⟩

theorem mul_v (x y hi lo : Nat) (hx : x < 18446744073709551616) (hy : y < 18446744073709551616) (hh : Hid (x * y / 18446744073709551616 = hi)) (hl : Hid (x * y % 18446744073709551616 = lo)) (w : World) :
    Calls Try.prog 30 #[.int .u64 (x : Int), .int .u64 (y : Int)] w fun e w' => e = .returned (.tuple #[.int .u64 (hi : Int), .int .u64 (lo : Int)]) ∧ w = w' := by
  have h := mul64 x y hx hy w
  rw [hh.out, hl.out] at h
  exact h
theorem div_v (hi lo y q r : Nat) (h1 : hi < y) (hy : y < 9223372036854775808) (h2 : lo < 18446744073709551616) (hq : Hid ((hi * 18446744073709551616 + lo) / y = q)) (hr : Hid ((hi * 18446744073709551616 + lo) % y = r)) (w : World) :
    Calls Try.prog 31 #[.int .u64 (hi : Int), .int .u64 (lo : Int), .int .u64 (y : Int)] w (DivOut q r w) := by
  have h := div64 hi lo y h1 hy h2 w
  rw [hq.out, hr.out] at h
  exact h

/-- An amount times a weight by the sum. -/
theorem part_is (a w s q r : Nat) (ha : a ≤ 1125899906842624) (h0 : 0 < s) (hs : s < 9223372036854775808) (hw : w ≤ s) (hq : Hid (a * w / s = q)) (hr : Hid (a * w % s = r)) (W : World) :
    Calls Try.prog 27 #[.int .u64 (a : Int), .int .u64 (w : Int), .int .u64 (s : Int)] W (DivOut q r W) := by
  obtain ⟨hi, hhi⟩ : ∃ hi, a * w / 18446744073709551616 = hi := ⟨_, rfl⟩
  obtain ⟨lo, hlo⟩ : ∃ lo, a * w % 18446744073709551616 = lo := ⟨_, rfl⟩
  have e : hi * 18446744073709551616 + lo = a * w := by rw [← hhi, ← hlo]; omega
  have hlt : hi < s := by
    rw [← hhi]
    have h1 : a * w ≤ 1125899906842624 * s := Nat.mul_le_mul ha hw
    omega
  have hm := Lib.hid fun W => mul_v a w hi lo (by omega) (by omega) hhi hlo W
  have hd := Lib.hid fun W => div_v hi lo s q r hlt hs (by omega) (by show _ = _; rw [e]; exact hq) (by show _ = _; rw [e]; exact hr) W
  clear hlt e hhi hlo hs h0 hw ha
  go_enter Try.func27, Try.ntmps27
  go_wp2_with (go_at_call 30; refine (hm.out _).mono ?_; rintro e w1 ⟨rfl, rfl⟩)
  refine (hd.out _).mono ?_
  rintro e w1 ⟨rfl, m, rfl⟩
  go_wp2_with fail
  go_ret2
  exact ⟨rfl, m, rfl⟩

/-- What is wrong with weights. -/
def werr (f : Nat → Int) (n : Nat) : Int :=
  if n = 0 then 10 else if 64 < n then 5 else if ∀ i, i < n → 0 ≤ f i ∧ f i ≤ 1125899906842624 then (if sm f n = 0 then 22 else 0) else 2
theorem sm_top {f : Nat → Int} : ∀ n, (∀ i, i < n → 0 ≤ f i ∧ f i ≤ 1125899906842624) → 0 ≤ sm f n ∧ sm f n ≤ n * 1125899906842624
  | 0, _ => by simp [sm]
  | n + 1, h => by
    have h1 := sm_top n fun i hi => h i (by omega)
    have h2 := h n (by omega)
    unfold sm; omega
theorem werr_ok {f : Nat → Int} {n : Nat} (h : werr f n = 0) : 0 < n ∧ n ≤ 64 ∧ (∀ i, i < n → 0 ≤ f i ∧ f i ≤ 1125899906842624) ∧ 0 < sm f n ∧ sm f n ≤ 72057594037927936 := by
  unfold werr at h
  split at h
  · omega
  split at h
  · omega
  split at h
  · rename_i c
    split at h
    · omega
    · have := sm_top n c
      refine ⟨by omega, by omega, c, by omega, by omega⟩
  · omega
def SumOut (f : Nat → Int) (n : Nat) (w : World) (e : Ending) (w' : World) : Prop := e = .returned (.tuple #[.int .u64 (if werr f n = 0 then sm f n else 0), .int .i64 (werr f n)]) ∧ w = w'
theorem ret_ui {a a' b b' : Int} (h : a = a') (h2 : b = b') : Ending.returned (.tuple #[.int .u64 a, .int .i64 b]) = .returned (.tuple #[.int .u64 a', .int .i64 b']) := by rw [h, h2]
theorem sum_is (a : Option Addr) (n cap : Nat) (f : Nat → Int) (W : World) (hx : Vec .i64 W a n cap f) (hI : ∀ i, i < n → -9223372036854775808 ≤ f i ∧ f i ≤ 9223372036854775807) :
    Calls Try.prog 21 #[.slice a n cap] W (SumOut f n W) := by
  by_cases c0 : n = 0
  · subst c0
    have hw : werr f 0 = 10 := rfl
    unfold SumOut; rw [hw]
    go_enter Try.func21, Try.ntmps21
    go_wp2_with fail
    go_ret2
    exact ⟨rfl, rfl⟩
  have hmax := hx.1
  have c0' : ¬ (n : Int) = 0 := by omega
  have c0'' : ((n : Int) == 0) = false := beq_eq_false_iff_ne.2 c0'
  by_cases c1 : 64 < n
  · have hw : werr f n = 5 := by unfold werr; rw [if_neg c0, if_pos c1]
    have c1' : (64 : Int) < (n : Int) := by omega
    unfold SumOut; rw [hw]
    go_enter Try.func21, Try.ntmps21
    go_wp2_with fail
    go_ret2
    exact ⟨rfl, rfl⟩
  have c1' : ¬ (64 : Int) < (n : Int) := by omega
  have HI := Lib.hid hI
  have C0 := Lib.hid c0
  have C1 := Lib.hid c1
  clear hI c0 c1
  go_enter Try.func21, Try.ntmps21
  go_wp2_with fail
  go_loop [4, 17] (fun s4 s17 => ∃ (k : Nat) (t : Int), k ≤ n ∧ s17 = .int .i64 k ∧ s4 = .int .u64 t ∧ 0 ≤ t ∧ t ≤ k * 1125899906842624 ∧ Hid (sm f k = t ∧ ∀ i, i < k → 0 ≤ f i ∧ f i ≤ 1125899906842624)) (fun _ i => n - (intOf i).toNat)
  case atStart => exact ⟨0, 0, Nat.zero_le _, rfl, rfl, by omega, by omega, rfl, fun i hi => absurd hi (by omega)⟩
  case round =>
    obtain ⟨k, t, hk, rfl, rfl, t0, t1, hok⟩ := hrel
    by_cases c : k < n
    · obtain ⟨bb, off, rfl, hbl, hcell⟩ := hx.at_ c
      have hxb := HI.out k c
      generalize hbb : f k = x at *
      have HB := Lib.hid hbb; clear hbb
      by_cases o0 : x < 0
      · have hfin : Hid (werr f n = 2) := by
          show _ = _
          unfold werr
          rw [if_neg C0.out, if_neg C1.out, if_neg (fun h => by have := h k c; rw [HB.out] at this; omega)]
        go_wp2_with fail
        go_ret2
        exact ⟨ret_ui (by rw [hfin.out]; rfl) hfin.out.symm, rfl⟩
      by_cases o1 : 1125899906842624 < x
      · have hfin : Hid (werr f n = 2) := by
          show _ = _
          unfold werr
          rw [if_neg C0.out, if_neg C1.out, if_neg (fun h => by have := h k c; rw [HB.out] at this; omega)]
        go_wp2_with fail
        go_ret2
        exact ⟨ret_ui (by rw [hfin.out]; rfl) hfin.out.symm, rfl⟩
      · have hnx : Hid (sm f (k + 1) = t + x ∧ ∀ i, i < k + 1 → 0 ≤ f i ∧ f i ≤ 1125899906842624) := by
          refine ⟨by unfold sm; rw [hok.out.1, HB.out], fun i hi => ?_⟩
          by_cases e : i = k
          · subst e; rw [HB.out]; omega
          · exact hok.out.2 i (by omega)
        have hk64 : (k : Int) < 64 := by omega
        go_wp2_with fail
        go_round
        case rel => exact ⟨k + 1, t + x, by omega, by go_num, by go_num, by omega, by omega, hnx⟩
        case measure => simp [intOf]; omega
    · obtain rfl : k = n := by omega
      by_cases z : t = 0
      · have hfin : Hid (werr f k = 22) := by
          show _ = _
          unfold werr
          rw [if_neg C0.out, if_neg C1.out, if_pos hok.out.2, hok.out.1, if_pos z]
        subst z
        go_wp2_with fail
        go_ret2
        exact ⟨ret_ui (by rw [hfin.out]; rfl) hfin.out.symm, rfl⟩
      · have hfin : Hid (werr f k = 0) := by
          show _ = _
          unfold werr
          rw [if_neg C0.out, if_neg C1.out, if_pos hok.out.2, hok.out.1, if_neg z]
        have z' : (t == 0) = false := beq_eq_false_iff_ne.2 z
        go_wp2_with fail
        go_ret2
        exact ⟨ret_ui (by rw [if_pos hfin.out, hok.out.1]) hfin.out.symm, rfl⟩
end Go.Proofs.Ytbmlingbohdpkaa.W
