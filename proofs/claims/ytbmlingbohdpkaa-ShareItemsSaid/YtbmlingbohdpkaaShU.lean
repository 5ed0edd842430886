/- The walks of share.UpTo, share.Between, and of what compares amounts. -/
import Derived.Test.YtbmlingbohdpkaaShT
namespace Go.Proofs.Ytbmlingbohdpkaa.W
open Go.RowKit Go.Proofs.Ytbmlingbohdpkaa.M Go.Proofs.Ytbmlingbohdpkaa.B Go.Proofs.Ytbmlingbohdpkaa.H
set_option linter.unusedVariables false

theorem ret_b {b c : Bool} (h : b = c) : Ending.returned (.bool b) = .returned (.bool c) := by rw [h]
theorem same_is (a b : Option Addr) (n m ca cb : Nat) (f g : Nat → Int) (r : Bool) (hr : Hid (decide (n = m ∧ ∀ i, i < n → f i = g i) = r)) (W : World) (ha : Vec .i64 W a n ca f) (hb : Vec .i64 W b m cb g) :
    Calls Try.prog 13 #[.slice a n ca, .slice b m cb] W fun e w' => e = .returned (.bool r) ∧ ∃ k, w' = W.drewN k := by
  have hn := ha.1
  have hm := hb.1
  by_cases c0 : n = m
  · subst c0
    go_enter Try.func13, Try.ntmps13
    go_wp2_with fail
    go_loopw [13] (fun s13 wx => ∃ j t : Nat, j ≤ n ∧ s13 = .int .i64 j ∧ wx = W.drewN t ∧ Hid (∀ i, i < j → f i = g i)) (fun i _ => n - (intOf i).toNat)
    case atStart => exact ⟨0, 0, Nat.zero_le _, rfl, rfl, fun i hi => absurd hi (by omega)⟩
    case round =>
      obtain ⟨j, t, hj, rfl, rfl, hok⟩ := hrel
      by_cases c : j < n
      · obtain ⟨b1, o1, rfl, h1, d1⟩ := ha.at_ c
        obtain ⟨b2, o2, rfl, h2, d2⟩ := hb.at_ c
        obtain ⟨x, hx⟩ : ∃ x, f j = x := ⟨_, rfl⟩
        obtain ⟨y, hy⟩ : ∃ y, g j = y := ⟨_, rfl⟩
        rw [hx] at d1
        rw [hy] at d2
        have HX := Lib.hid hx
        have HY := Lib.hid hy
        clear hx hy
        by_cases e : x = y
        · have hnx : Hid (∀ i, i < j + 1 → f i = g i) := fun i hi => by
            by_cases e1 : i = j
            · subst e1; rw [HX.out, HY.out, e]
            · exact hok.out i (by omega)
          subst e
          go_wp2_with fail
          go_quiet (fail)
          go_wp2_with fail
          go_round
          case rel => exact ⟨j + 1, _, by omega, by go_num, rfl, hnx⟩
          case measure => simp [intOf]; omega
        · have e' : (x == y) = false := beq_eq_false_iff_ne.2 e
          have hfin : Hid (r = false) := by
            show _ = _; rw [← hr.out]; exact decide_eq_false fun h => e (by rw [← HX.out, ← HY.out]; exact h.2 j c)
          clear e
          go_wp2_with fail
          go_quiet (fail)
          go_wp2_with fail
          go_ret
          exact ⟨ret_b hfin.out.symm, _, by rw [World.drewN_drewN]⟩
      · obtain rfl : j = n := by omega
        have hfin : Hid (r = true) := by
          show _ = _; rw [← hr.out]; exact decide_eq_true (by first | exact ⟨rfl, hok.out⟩ | exact ⟨trivial, hok.out⟩)
        go_wp2_with fail
        go_ret
        exact ⟨ret_b hfin.out.symm, t, rfl⟩
  · have c1 : ((n : Int) == (m : Int)) = false := beq_eq_false_iff_ne.2 (by omega)
    have hfin : Hid (r = false) := by
      show _ = _; rw [← hr.out]; exact decide_eq_false fun h => c0 h.1
    go_enter Try.func13, Try.ntmps13
    go_wp2_with fail
    go_ret
    exact ⟨ret_b hfin.out.symm, 0, rfl⟩

/-- The part of an amount up to there, to the nearest cent. -/
def up1 (a w s : Int) : Int := if s ≤ 2 * (a * w % s) then a * w / s + 1 else a * w / s
def upv (c w s : Int) : Int := if c < 0 then -(up1 (-c) w s) else up1 c w s
def wherr (c s : Int) : Int := if c < -1125899906842624 ∨ 1125899906842624 < c then 9 else if s = 0 then 22 else if s < 0 ∨ 1125899906842624 < s then 2 else 0
def uperr (c w s : Int) : Int := if wherr c s = 0 then (if w < 0 ∨ s < w then 2 else 0) else wherr c s
theorem up1_range {a w s : Int} (ha : 0 ≤ a) (hs : 0 < s) (h0 : 0 ≤ w) (h1 : w ≤ s) : 0 ≤ up1 a w s ∧ up1 a w s ≤ a := by
  have e := Int.mul_ediv_add_emod (a * w) s
  have r0 := Int.emod_nonneg (a * w) (b := s) (by omega)
  have r1 := Int.emod_lt_of_pos (a * w) hs
  have q0 : 0 ≤ a * w / s := Int.ediv_nonneg (Int.mul_nonneg ha h0) (by omega)
  have m1 : a * w ≤ a * s := Int.mul_le_mul_of_nonneg_left h1 ha
  have q1 : a * w / s ≤ a := by
    have := Int.ediv_le_ediv hs m1
    rwa [Int.mul_ediv_cancel _ (by omega)] at this
  unfold up1
  split
  · refine ⟨by omega, ?_⟩
    rcases Int.lt_or_le' (a * w / s) a with h | h
    · omega
    · have e2 : a * w / s = a := by omega
      rw [e2, Int.mul_comm s a] at e
      omega
  · exact ⟨q0, q1⟩

theorem whole_is (c s : Int) (W : World) (hc : -9223372036854775808 ≤ c ∧ c ≤ 9223372036854775807) (hs : -9223372036854775808 ≤ s ∧ s ≤ 9223372036854775807) :
    Calls Try.prog 25 #[.int .i64 c, .int .i64 s] W fun e w' => e = .returned (.int .i64 (wherr c s)) ∧ W = w' := by
  obtain ⟨bf, hbf⟩ : ∃ b, decide (-1125899906842624 ≤ c ∧ c ≤ 1125899906842624) = b := ⟨_, rfl⟩
  have hfit := Lib.hid fun W => fits_b c bf hbf W
  rcases bf with _ | _
  · have hn := of_decide_eq_false hbf
    have hw : wherr c s = 9 := by unfold wherr; rw [if_pos (by omega)]
    rw [hw]
    clear hn hbf
    go_enter Try.func25, Try.ntmps25
    go_wp2_with (go_at_call 20; refine (hfit.out _).mono ?_; rintro e w1 ⟨rfl, rfl⟩)
    go_ret
    exact ⟨rfl, rfl⟩
  have hn := of_decide_eq_true hbf
  by_cases c0 : s = 0
  · have hw : wherr c s = 22 := by unfold wherr; rw [if_neg (by omega), if_pos c0]
    rw [hw]
    clear hn hbf
    subst c0
    go_enter Try.func25, Try.ntmps25
    go_wp2_with (go_at_call 20; refine (hfit.out _).mono ?_; rintro e w1 ⟨rfl, rfl⟩)
    go_ret
    exact ⟨rfl, rfl⟩
  have c0' : (s == 0) = false := beq_eq_false_iff_ne.2 c0
  by_cases c1 : s < 0
  · have hw : wherr c s = 2 := by unfold wherr; rw [if_neg (by omega), if_neg c0, if_pos (by omega)]
    rw [hw]
    clear hn hbf c0
    go_enter Try.func25, Try.ntmps25
    go_wp2_with (go_at_call 20; refine (hfit.out _).mono ?_; rintro e w1 ⟨rfl, rfl⟩)
    go_ret
    exact ⟨rfl, rfl⟩
  by_cases c2 : 1125899906842624 < s
  · have hw : wherr c s = 2 := by unfold wherr; rw [if_neg (by omega), if_neg c0, if_pos (by omega)]
    rw [hw]
    clear hn hbf c0
    go_enter Try.func25, Try.ntmps25
    go_wp2_with (go_at_call 20; refine (hfit.out _).mono ?_; rintro e w1 ⟨rfl, rfl⟩)
    go_ret
    exact ⟨rfl, rfl⟩
  · have hw : wherr c s = 0 := by unfold wherr; rw [if_neg (by omega), if_neg c0, if_neg (by omega)]
    rw [hw]
    have c3 : decide (1125899906842624 < s) = false := decide_eq_false c2
    clear hn hbf c0
    go_enter Try.func25, Try.ntmps25
    go_wp2_with (go_at_call 20; refine (hfit.out _).mono ?_; rintro e w1 ⟨rfl, rfl⟩)
    go_ret
    exact ⟨rfl, rfl⟩

/-- The closure of upTo. -/
theorem inner_is (a w s : Nat) (v : Int) (g h : Nat) (W : World) (ha : a ≤ 1125899906842624) (h0 : 0 < s) (hs : s ≤ 1125899906842624) (hw : w ≤ s) (hv : Hid (up1 a w s = v)) (d1 : W.cell? ⟨g, 0, none⟩ = some (.int .i64 (w : Int))) (d2 : W.cell? ⟨h, 0, none⟩ = some (.int .i64 (s : Int))) :
    Calls Try.prog 29 #[.int .u64 (a : Int), .pointer (some ⟨g, 0, none⟩), .pointer (some ⟨h, 0, none⟩)] W fun e w' => e = .returned (.int .i64 v) ∧ ∃ m, w' = W.drewN m := by
  obtain ⟨q, hq⟩ : ∃ q, a * w / s = q := ⟨_, rfl⟩
  obtain ⟨r, hr⟩ : ∃ r, a * w % s = r := ⟨_, rfl⟩
  have hpart := Lib.hid fun W => part_is a w s q r ha h0 (by omega) (by omega) hq hr W
  have hV : v = if (s : Int) ≤ 2 * (r : Int) then (q : Int) + 1 else q := by
    rw [← hv.out, ← hq, ← hr]
    unfold up1
    norm_cast
  have hR := up1_range (a := (a : Int)) (w := (w : Int)) (s := (s : Int)) (by omega) (by omega) (by omega) (by omega)
  rw [hv.out, hV] at hR
  have hrs : r < s := by rw [← hr]; exact Nat.mod_lt _ h0
  have HV := Lib.hid hV
  clear hv hq hr hV
  by_cases c : (s : Int) ≤ 2 * (r : Int)
  · rw [if_pos c] at hR HV
    have HV := HV
    obtain ⟨hR1, hR2⟩ := hR
    go_enter Try.func29, Try.ntmps29
    go_wp2_with fail
    refine (hpart.out _).mono ?_
    rintro e w1 ⟨rfl, m, rfl⟩
    go_wp2_with fail
    go_ret
    exact ⟨ret_int HV.out.symm, m, rfl⟩
  · rw [if_neg c] at hR HV
    obtain ⟨hR1, hR2⟩ := hR
    go_enter Try.func29, Try.ntmps29
    go_wp2_with fail
    refine (hpart.out _).mono ?_
    rintro e w1 ⟨rfl, m, rfl⟩
    go_wp2_with fail
    go_ret
    exact ⟨ret_int HV.out.symm, m, rfl⟩

theorem turned_is (c : Int) (w s : Nat) (v : Int) (g h : Nat) (W : World) (hc : -1125899906842624 ≤ c) (hc2 : c ≤ 1125899906842624) (h0 : 0 < s) (hs : s ≤ 1125899906842624) (hw : w ≤ s) (hv : Hid (upv c w s = v)) (d1 : W.cell? ⟨g, 0, none⟩ = some (.int .i64 (w : Int))) (d2 : W.cell? ⟨h, 0, none⟩ = some (.int .i64 (s : Int))) :
    Calls Try.prog 28 #[.int .i64 c, .func (.func 29) #[] #[.pointer (some ⟨g, 0, none⟩), .pointer (some ⟨h, 0, none⟩)]] W fun e w' => e = .returned (.int .i64 v) ∧ ∃ m, w' = W.drewN m := by
  by_cases p : c < 0
  · obtain ⟨a, ha⟩ : ∃ a : Nat, -c = a := ⟨(-c).toNat, by omega⟩
    obtain ⟨x, hx⟩ : ∃ x, up1 a w s = x := ⟨_, rfl⟩
    have hin := Lib.hid fun W d1 d2 => inner_is a w s x g h W (by omega) h0 hs hw hx d1 d2
    have hV : v = -x := by rw [← hv.out]; unfold upv; rw [if_pos p, ha, hx]
    have hr := up1_range (a := (a : Int)) (w := (w : Int)) (s := (s : Int)) (by omega) (by omega) (by omega) (by omega)
    rw [hx] at hr
    obtain ⟨r0, r1⟩ := hr
    obtain rfl : c = -(a : Int) := by omega
    have HV := Lib.hid hV
    clear hV hv hx ha
    go_enter Try.func28, Try.ntmps28
    go_wp2_with fail
    refine (hin.out _ d1 d2).mono ?_
    rintro e w1 ⟨rfl, m, rfl⟩
    go_wp2_with fail
    go_ret
    exact ⟨ret_int HV.out.symm, m, rfl⟩
  · obtain ⟨a, rfl⟩ : ∃ a : Nat, c = a := ⟨c.toNat, by omega⟩
    have hin := Lib.hid fun W d1 d2 => inner_is a w s v g h W (by omega) h0 hs hw (by rw [← hv.out]; unfold upv; rw [if_neg p]; exact rfl) d1 d2
    clear hv
    go_enter Try.func28, Try.ntmps28
    go_wp2_with fail
    refine (hin.out _ d1 d2).mono ?_
    rintro e w1 ⟨rfl, m, rfl⟩
    go_wp2_with fail
    go_ret
    exact ⟨rfl, m, rfl⟩

theorem upTo_in (c : Int) (w s : Nat) (v : Int) (W : World) (hc : -1125899906842624 ≤ c) (hc2 : c ≤ 1125899906842624) (h0 : 0 < s) (hs : s ≤ 1125899906842624) (hw : w ≤ s) (hv : Hid (upv c w s = v)) :
    Calls Try.prog 26 #[.int .i64 c, .int .i64 (w : Int), .int .i64 (s : Int)] W fun e w' => e = .returned (.int .i64 v) ∧ Below W.heap.size W w' := by
  have hin := Lib.hid fun g h W d1 d2 => turned_is c w s v g h W hc hc2 h0 hs hw hv d1 d2
  have hmf : ∀ (fn : Fn) (first cap : Array Value) (w : World), (Instr.makeFunc fn first cap).run Try.prog w = .ok (.func fn first cap) w := fun _ _ _ _ => rfl
  go_enter Try.func26, Try.ntmps26
  go_wp2_with fail
  refine (hin.out _ _ _ ?_ ?_).mono ?_
  · go_simp
  · go_simp
  rintro e w1 ⟨rfl, m, rfl⟩
  go_wp2_with fail
  go_ret
  exact ⟨rfl, below_drewN (balloc (balloc (Below.refl _ _) _) _) m⟩

def upr (c w s : Int) : Int := if uperr c w s = 0 then upv c w s else 0
theorem upr_bad {c w s k : Int} (h : uperr c w s = k) (hk : k ≠ 0) : upr c w s = 0 := by unfold upr; rw [h, if_neg hk]
theorem upr_ok {c w s : Int} (h : uperr c w s = 0) : upr c w s = upv c w s := by unfold upr; rw [if_pos h]
def UpOut (c w s : Int) (W : World) (e : Ending) (w' : World) : Prop :=
  e = .returned (.tuple #[.int .i64 (upr c w s), .int .i64 (uperr c w s)]) ∧ Below W.heap.size W w'
theorem wherr_ok {c s : Int} (h : wherr c s = 0) : -1125899906842624 ≤ c ∧ c ≤ 1125899906842624 ∧ 0 < s ∧ s ≤ 1125899906842624 := by
  unfold wherr at h
  split at h
  · omega
  split at h
  · omega
  split at h
  · omega
  · omega
theorem ret_ii {a a' b b' : Int} (h : a = a') (h2 : b = b') : Ending.returned (.tuple #[.int .i64 a, .int .i64 b]) = .returned (.tuple #[.int .i64 a', .int .i64 b']) := by rw [h, h2]
theorem UpTo_is (c w s : Int) (W : World) (hc : -9223372036854775808 ≤ c ∧ c ≤ 9223372036854775807) (hw : -9223372036854775808 ≤ w ∧ w ≤ 9223372036854775807) (hs : -9223372036854775808 ≤ s ∧ s ≤ 9223372036854775807) :
    Calls Try.prog 14 #[.int .i64 c, .int .i64 w, .int .i64 s] W (UpOut c w s W) := by
  unfold UpOut
  have hwh := whole_is c s W hc hs
  obtain ⟨k, hk⟩ : ∃ k, wherr c s = k := ⟨_, rfl⟩
  rw [hk] at hwh
  have HW := Lib.hid hwh
  clear hwh
  by_cases z : k = 0
  · subst z
    obtain ⟨c1, c2, s1, s2⟩ := wherr_ok hk
    by_cases a1 : w < 0
    · have hu : uperr c w s = 2 := by unfold uperr; rw [if_pos hk, if_pos (.inl a1)]
      have HU := Lib.hid hu
      clear hu hk
      go_enter Try.func14, Try.ntmps14
      go_wp2_with (go_at_call 25; refine HW.out.mono ?_; rintro e w1 ⟨rfl, rfl⟩)
      go_ret2
      exact ⟨ret_ii (upr_bad HU.out (by omega)).symm HU.out.symm, Below.refl _ _⟩
    by_cases a2 : s < w
    · have hu : uperr c w s = 2 := by unfold uperr; rw [if_pos hk, if_pos (.inr a2)]
      have HU := Lib.hid hu
      clear hu hk
      go_enter Try.func14, Try.ntmps14
      go_wp2_with (go_at_call 25; refine HW.out.mono ?_; rintro e w1 ⟨rfl, rfl⟩)
      go_ret2
      exact ⟨ret_ii (upr_bad HU.out (by omega)).symm HU.out.symm, Below.refl _ _⟩
    · have hu : uperr c w s = 0 := by unfold uperr; rw [if_pos hk, if_neg (by omega)]
      have HU := Lib.hid hu
      obtain ⟨x, rfl⟩ : ∃ x : Nat, w = x := ⟨w.toNat, by omega⟩
      obtain ⟨y, rfl⟩ : ∃ y : Nat, s = y := ⟨s.toNat, by omega⟩
      have hin := Lib.hid fun W => upTo_in c x y _ W c1 c2 (by omega) (by omega) (by omega) rfl
      have a2' : decide ((y : Int) < (x : Int)) = false := decide_eq_false a2
      clear hu hk
      go_enter Try.func14, Try.ntmps14
      go_wp2_with (go_at_call 25; refine HW.out.mono ?_; rintro e w1 ⟨rfl, rfl⟩)
      refine (hin.out _).mono ?_
      rintro e w1 ⟨rfl, hb1⟩
      go_wp2_with fail
      go_ret2
      exact ⟨ret_ii (upr_ok HU.out).symm HU.out.symm, hb1⟩
  · have hu : uperr c w s = k := by unfold uperr; rw [hk, if_neg z]
    have HU := Lib.hid hu
    have z' : (k == 0) = false := beq_eq_false_iff_ne.2 z
    have HZ := Lib.hid z
    clear hu hk z
    go_enter Try.func14, Try.ntmps14
    go_wp2_with (go_at_call 25; refine HW.out.mono ?_; rintro e w1 ⟨rfl, rfl⟩)
    go_ret2
    exact ⟨ret_ii (upr_bad HU.out HZ.out).symm HU.out.symm, Below.refl _ _⟩
end Go.Proofs.Ytbmlingbohdpkaa.W
