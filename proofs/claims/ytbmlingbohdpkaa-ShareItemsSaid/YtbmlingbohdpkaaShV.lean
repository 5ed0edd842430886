/- The walks of share.Between, and of the examples. -/
import Derived.Test.YtbmlingbohdpkaaShU
namespace Go.Proofs.Ytbmlingbohdpkaa.W
open Go.RowKit Go.Proofs.Ytbmlingbohdpkaa.M Go.Proofs.Ytbmlingbohdpkaa.B Go.Proofs.Ytbmlingbohdpkaa.H
set_option linter.unusedVariables false

theorem upv_range {c w s : Int} (hs : 0 < s) (h0 : 0 ≤ w) (h1 : w ≤ s) (c1 : -1125899906842624 ≤ c) (c2 : c ≤ 1125899906842624) : -1125899906842624 ≤ upv c w s ∧ upv c w s ≤ 1125899906842624 := by
  unfold upv
  split
  · have := up1_range (a := -c) (by omega) hs h0 h1; omega
  · have := up1_range (a := c) (by omega) hs h0 h1; omega
def bterr (c w v s : Int) : Int := if wherr c s = 0 then (if w < 0 ∨ s < w ∨ v < 0 ∨ s < v then 2 else if v < w then 8 else 0) else wherr c s
def btr (c w v s : Int) : Int := if bterr c w v s = 0 then upv c v s - upv c w s else 0
theorem btr_bad {c w v s k : Int} (h : bterr c w v s = k) (hk : k ≠ 0) : btr c w v s = 0 := by unfold btr; rw [h, if_neg hk]
theorem btr_ok {c w v s : Int} (h : bterr c w v s = 0) : btr c w v s = upv c v s - upv c w s := by unfold btr; rw [if_pos h]
def BtOut (c w v s : Int) (W : World) (e : Ending) (w' : World) : Prop :=
  e = .returned (.tuple #[.int .i64 (btr c w v s), .int .i64 (bterr c w v s)]) ∧ Below W.heap.size W w'
theorem Between_is (c w v s : Int) (W : World) (hc : -9223372036854775808 ≤ c ∧ c ≤ 9223372036854775807) (hw : -9223372036854775808 ≤ w ∧ w ≤ 9223372036854775807) (hv : -9223372036854775808 ≤ v ∧ v ≤ 9223372036854775807) (hs : -9223372036854775808 ≤ s ∧ s ≤ 9223372036854775807) :
    Calls Try.prog 16 #[.int .i64 c, .int .i64 w, .int .i64 v, .int .i64 s] W (BtOut c w v s W) := by
  unfold BtOut
  have hwh := whole_is c s W hc hs
  obtain ⟨k, hk⟩ : ∃ k, wherr c s = k := ⟨_, rfl⟩
  rw [hk] at hwh
  have HW := Lib.hid hwh
  clear hwh
  by_cases z : k = 0
  · subst z
    obtain ⟨c1, c2, s1, s2⟩ := wherr_ok hk
    by_cases a1 : w < 0
    · have hu : bterr c w v s = 2 := by unfold bterr; rw [if_pos hk, if_pos (by omega)]
      have HU := Lib.hid hu
      clear hu hk
      go_enter Try.func16, Try.ntmps16
      go_wp2_with (go_at_call 25; refine HW.out.mono ?_; rintro e w1 ⟨rfl, rfl⟩)
      go_ret2
      exact ⟨ret_ii (btr_bad HU.out (by omega)).symm HU.out.symm, Below.refl _ _⟩
    by_cases a2 : s < w
    · have hu : bterr c w v s = 2 := by unfold bterr; rw [if_pos hk, if_pos (by omega)]
      have HU := Lib.hid hu
      clear hu hk
      go_enter Try.func16, Try.ntmps16
      go_wp2_with (go_at_call 25; refine HW.out.mono ?_; rintro e w1 ⟨rfl, rfl⟩)
      go_ret2
      exact ⟨ret_ii (btr_bad HU.out (by omega)).symm HU.out.symm, Below.refl _ _⟩
    have a2' : decide (s < w) = false := decide_eq_false a2
    by_cases a3 : v < 0
    · have hu : bterr c w v s = 2 := by unfold bterr; rw [if_pos hk, if_pos (by omega)]
      have HU := Lib.hid hu
      clear hu hk
      go_enter Try.func16, Try.ntmps16
      go_wp2_with (go_at_call 25; refine HW.out.mono ?_; rintro e w1 ⟨rfl, rfl⟩)
      go_ret2
      exact ⟨ret_ii (btr_bad HU.out (by omega)).symm HU.out.symm, Below.refl _ _⟩
    have a3' : decide (v < 0) = false := decide_eq_false a3
    by_cases a4 : s < v
    · have hu : bterr c w v s = 2 := by unfold bterr; rw [if_pos hk, if_pos (by omega)]
      have HU := Lib.hid hu
      clear hu hk
      go_enter Try.func16, Try.ntmps16
      go_wp2_with (go_at_call 25; refine HW.out.mono ?_; rintro e w1 ⟨rfl, rfl⟩)
      go_ret2
      exact ⟨ret_ii (btr_bad HU.out (by omega)).symm HU.out.symm, Below.refl _ _⟩
    have a4' : decide (s < v) = false := decide_eq_false a4
    by_cases a5 : v < w
    · have hu : bterr c w v s = 8 := by unfold bterr; rw [if_pos hk, if_neg (by omega), if_pos a5]
      have HU := Lib.hid hu
      clear hu hk
      go_enter Try.func16, Try.ntmps16
      go_wp2_with (go_at_call 25; refine HW.out.mono ?_; rintro e w1 ⟨rfl, rfl⟩)
      go_ret2
      exact ⟨ret_ii (btr_bad HU.out (by omega)).symm HU.out.symm, Below.refl _ _⟩
    · have hu : bterr c w v s = 0 := by unfold bterr; rw [if_pos hk, if_neg (by omega), if_neg a5]
      have HU := Lib.hid hu
      obtain ⟨x, rfl⟩ : ∃ x : Nat, w = x := ⟨w.toNat, by omega⟩
      obtain ⟨y, rfl⟩ : ∃ y : Nat, s = y := ⟨s.toNat, by omega⟩
      obtain ⟨u, rfl⟩ : ∃ u : Nat, v = u := ⟨v.toNat, by omega⟩
      obtain ⟨p, hp⟩ : ∃ p, upv c u y = p := ⟨_, rfl⟩
      obtain ⟨q, hq⟩ : ∃ q, upv c x y = q := ⟨_, rfl⟩
      have i1 := Lib.hid fun W => upTo_in c u y _ W c1 c2 (by omega) (by omega) (by omega) hp
      have i2 := Lib.hid fun W => upTo_in c x y _ W c1 c2 (by omega) (by omega) (by omega) hq
      obtain ⟨p0, p1⟩ := upv_range (c := c) (w := u) (s := y) (by omega) (by omega) (by omega) c1 c2
      obtain ⟨q0, q1⟩ := upv_range (c := c) (w := x) (s := y) (by omega) (by omega) (by omega) c1 c2
      have hfin := Lib.hid (btr_ok hu)
      rw [hp] at p0 p1
      rw [hq] at q0 q1
      rw [hp, hq] at hfin
      clear hu hk hp hq
      go_enter Try.func16, Try.ntmps16
      go_wp2_with (go_at_call 25; refine HW.out.mono ?_; rintro e w1 ⟨rfl, rfl⟩)
      refine (i1.out _).mono ?_
      rintro e w1 ⟨rfl, hb1⟩
      go_wp2_with fail
      refine (i2.out _).mono ?_
      rintro e w2 ⟨rfl, hb2⟩
      go_wp2_with fail
      go_ret2
      exact ⟨ret_ii hfin.out.symm HU.out.symm, bstep hb1 hb2⟩
  · have hu : bterr c w v s = k := by unfold bterr; rw [hk, if_neg z]
    have HU := Lib.hid hu
    have z' : (k == 0) = false := beq_eq_false_iff_ne.2 z
    have HZ := Lib.hid z
    clear hu hk z
    go_enter Try.func16, Try.ntmps16
    go_wp2_with (go_at_call 25; refine HW.out.mono ?_; rintro e w1 ⟨rfl, rfl⟩)
    go_ret2
    exact ⟨ret_ii (btr_bad HU.out HZ.out).symm HU.out.symm, Below.refl _ _⟩

theorem ones (w : World) (E : TypeId) : Vec .i64 (w.alloc (.cells #[.int .i64 1, .int .i64 1, .int .i64 1] E)) (some ⟨w.heap.size, 0, none⟩) 3 3 fun _ => 1 :=
  ⟨by omega, fun _ => ⟨_, 0, rfl, by simp, fun j hj => by
    rw [World.cell?_alloc_at _ _ _ _ rfl]
    rcases (by omega : j = 0 ∨ j = 1 ∨ j = 2) with rfl | rfl | rfl <;> rfl⟩⟩
theorem three (w : World) (a b c : Int) (E : TypeId) : Vec .i64 (w.alloc (.cells #[.int .i64 a, .int .i64 b, .int .i64 c] E)) (some ⟨w.heap.size, 0, none⟩) 3 3 fun j => if j = 0 then a else if j = 1 then b else c :=
  ⟨by omega, fun _ => ⟨_, 0, rfl, by simp, fun j hj => by
    rw [World.cell?_alloc_at _ _ _ _ rfl]
    rcases (by omega : j = 0 ∨ j = 1 ∨ j = 2) with rfl | rfl | rfl <;> rfl⟩⟩
theorem ex_parts (i : Nat) (hi : i < 3) : sparts 100 (fun _ => 1) 3 i = if i = 0 then 34 else if i = 1 then 33 else 33 := by
  rcases (by omega : i = 0 ∨ i = 1 ∨ i = 2) with rfl | rfl | rfl <;> decide
theorem awake_is (W : World) : Calls Try.prog 10 #[] W fun e w' => e = .returned (.bool true) ∧ Below W.heap.size W w' := by
  have hser : serr 100 (fun _ => 1) 3 = 0 := by decide
  have hsl : slen 100 (fun _ => 1) 3 = 3 := by unfold slen; rw [if_pos hser]
  have hue : uperr 5 1 2 = 0 := by decide
  have hup : upr 5 1 2 = 3 := by decide
  have hsp := Lib.hid fun (W : World) (E : TypeId) => Split_is 100 (some ⟨W.heap.size, 0, none⟩) 3 3 (fun _ => 1) (W.alloc (.cells #[.int .i64 1, .int .i64 1, .int .i64 1] E)) (by omega) (ones W E) (by intros; omega)
  have hut := Lib.hid fun W => UpTo_is 5 1 2 W (by omega) (by omega) (by omega)
  go_enter Try.func10, Try.ntmps10
  go_wp2_with fail
  refine (hsp.out _ _).mono ?_
  rintro e w1 ⟨a, cap, rfl, hv, hb1⟩
  rw [hsl] at hv
  rw [hsl, hser]
  go_wp2_with fail
  refine (hut.out _).mono ?_
  rintro e w2 ⟨rfl, hb2⟩
  rw [hue, hup]
  go_wp2_with fail
  refine (same_is _ _ 3 3 _ _ (sparts 100 (fun _ => 1) 3) (fun j => if j = 0 then 34 else if j = 1 then 33 else 33) true (decide_eq_true ⟨rfl, fun i hi => ex_parts i hi⟩) _ ((hv.step hb2).step (balloc (Below.refl _ _) _)) (three _ 34 33 33 _)).mono ?_
  rintro e w3 ⟨rfl, m, rfl⟩
  go_wp2_with fail
  go_ret
  exact ⟨rfl, below_drewN (balloc (bstep (bstep (balloc (Below.refl _ _) _) hb1) hb2) _) m⟩
end Go.Proofs.Ytbmlingbohdpkaa.W
