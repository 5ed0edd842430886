/- The walks of share.Split and of what compares amounts. -/
import Derived.Test.YtbmlingbohdpkaaShS
namespace Go.Proofs.Ytbmlingbohdpkaa.W
open Go.RowKit Go.Proofs.Ytbmlingbohdpkaa.M Go.Proofs.Ytbmlingbohdpkaa.B Go.Proofs.Ytbmlingbohdpkaa.H
set_option linter.unusedVariables false

def serr (c : Int) (f : Nat → Int) (n : Nat) : Int := if c < -1125899906842624 ∨ 1125899906842624 < c then 9 else werr f n
def sparts (c : Int) (f : Nat → Int) (n : Nat) : Nat → Int := if 0 ≤ c then parts c f n else fun i => -(parts (-c) f n i)
def slen (c : Int) (f : Nat → Int) (n : Nat) : Nat := if serr c f n = 0 then n else 0
def SpOut (c : Int) (f : Nat → Int) (n : Nat) (W : World) (e : Ending) (w' : World) : Prop :=
  ∃ (a : Option Addr) (cap : Nat), e = .returned (.tuple #[.slice a (slen c f n) cap, .int .i64 (serr c f n)]) ∧ Vec .i64 w' a (slen c f n) cap (sparts c f n) ∧ Below W.heap.size W w'
/-- .. and the block is a new one. -/
def SpOutF (c : Int) (f : Nat → Int) (n : Nat) (W : World) (e : Ending) (w' : World) : Prop :=
  ∃ (a : Option Addr) (cap : Nat), e = .returned (.tuple #[.slice a (slen c f n) cap, .int .i64 (serr c f n)]) ∧ Vec .i64 w' a (slen c f n) cap (sparts c f n) ∧ (∀ x, a = some x → W.heap.size ≤ x.block) ∧ Below W.heap.size W w'
theorem SpOutF.out {c : Int} {f : Nat → Int} {n : Nat} {W : World} {e : Ending} {w' : World} (h : SpOutF c f n W e w') : SpOut c f n W e w' := by
  obtain ⟨a, cap, h1, h2, _, h4⟩ := h
  exact ⟨a, cap, h1, h2, h4⟩
theorem serr_ok {c : Int} {f : Nat → Int} {n : Nat} (h : serr c f n = 0) : -1125899906842624 ≤ c ∧ c ≤ 1125899906842624 ∧ werr f n = 0 := by
  unfold serr at h
  split at h
  · omega
  · exact ⟨by omega, by omega, h⟩

theorem fits_b (c : Int) (b : Bool) (hb : Hid (decide (-1125899906842624 ≤ c ∧ c ≤ 1125899906842624) = b)) (W : World) :
    Calls Try.prog 20 #[.int .i64 c] W fun e w' => e = .returned (.bool b) ∧ W = w' := by
  have e : (decide (-1125899906842624 ≤ c ∧ c ≤ 1125899906842624)) = b := hb.out
  by_cases c1 : c < -1125899906842624
  · obtain rfl : b = false := by rw [← e]; exact decide_eq_false (by omega)
    clear e hb
    go_enter Try.func20, Try.ntmps20
    go_wp2
    go_ret
    exact ⟨rfl, rfl⟩
  by_cases c2 : 1125899906842624 < c
  · obtain rfl : b = false := by rw [← e]; exact decide_eq_false (by omega)
    have c3 : decide (c ≤ 1125899906842624) = false := decide_eq_false (by omega)
    clear e hb
    go_enter Try.func20, Try.ntmps20
    go_wp2
    go_ret
    exact ⟨rfl, rfl⟩
  · obtain rfl : b = true := by rw [← e]; exact decide_eq_true (by omega)
    clear e hb
    go_enter Try.func20, Try.ntmps20
    go_wp2
    go_ret
    exact ⟨rfl, rfl⟩

theorem bad_out (c : Int) (f : Nat → Int) (n : Nat) (W : World) (k : Int) (h : serr c f n = k) (hk : k ≠ 0) : SpOutF c f n W (.returned (.tuple #[.slice none 0 0, .int .i64 k])) W := by
  have e : slen c f n = 0 := by unfold slen; rw [h, if_neg hk]
  exact ⟨none, 0, by rw [e, h], by rw [e]; exact Vec.nil, (fun x h => by cases h), Below.refl _ _⟩

set_option maxRecDepth 100000 in
theorem Split_f (c : Int) (b : Option Addr) (n cap : Nat) (f : Nat → Int) (W : World) (hc : -9223372036854775808 ≤ c ∧ c ≤ 9223372036854775807) (hx : Vec .i64 W b n cap f) (hI : ∀ i, i < n → -9223372036854775808 ≤ f i ∧ f i ≤ 9223372036854775807) :
    Calls Try.prog 11 #[.int .i64 c, .slice b n cap] W (SpOutF c f n W) := by
  obtain ⟨bf, hbf⟩ : ∃ b, decide (-1125899906842624 ≤ c ∧ c ≤ 1125899906842624) = b := ⟨_, rfl⟩
  have hfit := Lib.hid fun W => fits_b c bf hbf W
  rcases bf with _ | _
  · have hn := of_decide_eq_false hbf
    have hs : serr c f n = 9 := by unfold serr; rw [if_pos (by omega)]
    clear hn hbf hI
    go_enter Try.func11, Try.ntmps11
    go_wp2_with (go_at_call 20; refine (hfit.out _).mono ?_; rintro e w1 ⟨rfl, rfl⟩)
    go_ret2
    exact bad_out c f n W 9 hs (by omega)
  have hn := of_decide_eq_true hbf
  obtain ⟨c1, c2⟩ := hn
  have hse : serr c f n = werr f n := by unfold serr; rw [if_neg (by omega)]
  have hsum := sum_is b n cap f W hx hI
  unfold SumOut at hsum
  by_cases hz : werr f n = 0
  · rw [if_pos hz, hz] at hsum
    rw [hz] at hse
    obtain ⟨n0, n1, hw, s0, s1⟩ := werr_ok hz
    obtain ⟨s, hs⟩ : ∃ s : Nat, sm f n = s := ⟨(sm f n).toNat, by omega⟩
    rw [hs] at hsum
    have hsl : slen c f n = n := by unfold slen; rw [if_pos hse]
    by_cases p : 0 ≤ c
    · obtain ⟨a, ha⟩ : ∃ a : Nat, c = a := ⟨c.toNat, by omega⟩
      have hsp := Lib.hid fun W (hx : Vec .i64 W b n cap f) => split_is a s b n cap f W (by omega) hx hz hs
      subst ha
      have hfin : sparts (a : Int) f n = parts a f n := by unfold sparts; rw [if_pos p]
      have H1 := Lib.hid hfin
      have H2 := Lib.hid hse
      have H3 := Lib.hid hsl
      have HS := Lib.hid hsum
      clear hfin hse hsl hz hw s0 s1 hs hbf hc hI hsum
      go_enter Try.func11, Try.ntmps11
      go_wp2_with (first | (go_at_call 20; refine (hfit.out _).mono ?_; rintro e w1 ⟨rfl, rfl⟩) | (go_at_call 21; refine HS.out.mono ?_; rintro e w1 ⟨rfl, rfl⟩))
      refine (hsp.out _ hx).mono ?_
      rintro e w1 ⟨g, rfl, hg, hgl, hbl⟩
      go_wp2_with fail
      go_ret2
      exact ⟨some ⟨g, 0, none⟩, n, by rw [H2.out, H3.out]; rfl, by rw [H3.out, H1.out]; exact hg.vec (by omega), (fun x h => by cases h; exact hgl), hbl⟩
    · obtain ⟨a, ha⟩ : ∃ a : Nat, -c = a := ⟨(-c).toNat, by omega⟩
      have hsp := Lib.hid fun W (hx : Vec .i64 W b n cap f) => split_is a s b n cap f W (by omega) hx hz hs
      have hfin : sparts c f n = fun i => -(parts a f n i) := by unfold sparts; rw [if_neg p, ha]
      have hpb : Hid (∀ i, i < n → 0 ≤ parts a f n i ∧ parts a f n i ≤ a) := fun i hi => by
        have := (parts_law (a := (a : Int)) (by omega) (fun i hi => (hw i hi).1) s0).2.1 i hi
        exact ⟨this.1, this.2.1⟩
      obtain rfl : c = -(a : Int) := by omega
      have a1 : (a : Int) ≤ 1125899906842624 := by omega
      have H1 := Lib.hid hfin
      have H2 := Lib.hid hse
      have H3 := Lib.hid hsl
      have HS := Lib.hid hsum
      clear hfin hse hsl hz hw s0 s1 hs hbf hc hI hsum ha
      go_enter Try.func11, Try.ntmps11
      go_wp2_with (first | (go_at_call 20; refine (hfit.out _).mono ?_; rintro e w1 ⟨rfl, rfl⟩) | (go_at_call 21; refine HS.out.mono ?_; rintro e w1 ⟨rfl, rfl⟩))
      refine (hsp.out _ hx).mono ?_
      rintro e w1 ⟨g, rfl, hg, hgl, hbl⟩
      clear hsp HS hfit hx
      go_wp2_with fail
      go_loopw [36] (fun s36 wx => ∃ k : Nat, k ≤ n ∧ s36 = .int .i64 k ∧ Row .i64 wx g n (fun i => if i < k then -(parts a f n i) else parts a f n i) ∧ Below W.heap.size W wx) (fun i _ => n - (intOf i).toNat)
      case atStart => exact ⟨0, Nat.zero_le _, rfl, hg.congr fun i _ => by simp, hbl⟩
      case round =>
        obtain ⟨k, hk, rfl, hR, hbw⟩ := hrel
        clear hg hbl
        by_cases c : k < n
        · have d1 := hR.cell k c
          have z1 := hR.frz k
          obtain ⟨p0, p1⟩ := hpb.out k c
          rw [if_neg (show ¬ k < k by omega)] at d1
          have hR1 : Row .i64 (wr.setCell ⟨g, k, none⟩ (.int .i64 (-(parts a f n k)))) g n (fun i => if i < k + 1 then -(parts a f n i) else parts a f n i) := (hR.set c _).congr fun i hi => by
            unfold upd
            by_cases e : i = k
            · subst e; rw [if_pos rfl, if_pos (by omega)]
            · rw [if_neg e]
              by_cases d : i < k
              · show (if i < k then _ else _) = _
                rw [if_pos d, if_pos (by omega)]
              · show (if i < k then _ else _) = _
                rw [if_neg d, if_neg (by omega)]
          have hR2 := Lib.hid hR1
          clear hR1
          generalize parts a f n k = x at *
          go_wp2_with fail
          go_round
          case rel => exact ⟨k + 1, by omega, by go_num, hR2.out, hbw.setCell hgl _⟩
          case measure => simp [intOf]; omega
        · obtain rfl : k = n := by omega
          go_wp2_with fail
          go_ret2
          exact ⟨some ⟨g, 0, none⟩, k, by rw [H2.out, H3.out]; rfl, by rw [H3.out, H1.out]; exact (hR.congr fun i hi => by rw [if_pos hi]).vec (by omega), (fun x h => by cases h; exact hgl), hbw⟩
  · rw [if_neg hz] at hsum
    rw [← hse] at hsum hz
    generalize hk : serr c f n = k at *
    have HS := Lib.hid hsum
    have H1 := Lib.hid hk
    have hz' : (k == 0) = false := beq_eq_false_iff_ne.2 hz
    have H2 := Lib.hid hz
    clear hbf hsum hk hse hz
    go_enter Try.func11, Try.ntmps11
    go_wp2_with (first | (go_at_call 20; refine (hfit.out _).mono ?_; rintro e w1 ⟨rfl, rfl⟩) | (go_at_call 21; refine HS.out.mono ?_; rintro e w1 ⟨rfl, rfl⟩))
    go_ret2
    exact bad_out c f n W k H1.out H2.out
theorem Split_is (c : Int) (b : Option Addr) (n cap : Nat) (f : Nat → Int) (W : World) (hc : -9223372036854775808 ≤ c ∧ c ≤ 9223372036854775807) (hx : Vec .i64 W b n cap f) (hI : ∀ i, i < n → -9223372036854775808 ≤ f i ∧ f i ≤ 9223372036854775807) :
    Calls Try.prog 11 #[.int .i64 c, .slice b n cap] W (SpOut c f n W) :=
  (Split_f c b n cap f W hc hx hI).mono fun _ _ h => h.out
end Go.Proofs.Ytbmlingbohdpkaa.W
