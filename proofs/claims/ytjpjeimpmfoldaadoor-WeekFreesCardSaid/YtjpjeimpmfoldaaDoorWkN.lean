/- The walk of WeekFrees. -/
import Derived.Test.YtjpjeimpmfoldaaDoorWkK
import Derived.Test.YtjpjeimpmfoldaaDoorApp
import Derived.Deep.DeepCutAuto
namespace Go.Proofs.YtjpjeimpmfoldaaDoor.W
open Go.RowKit Go.Proofs.YtjpjeimpmfoldaaDoor.M Go.Proofs.YtjpjeimpmfoldaaDoor.WL
set_option linter.unusedVariables false

theorem infoDay : (Tryd.prog.info? 27).map (fun i => (i.zero, i.size, i.bytes)) = some (some (.int .i64 0), 1, 8) := by kernel_rfl
theorem own_empty (w : World) (base : Nat) (hb : base ≤ w.heap.size) (e : TypeId) : (w.alloc (.cells #[] e)).ownsRow base e 1 (.slice (some ⟨w.heap.size, 0, none⟩) 0 0) 0 (([] : List Int).map (Value.int .i64)) :=
  World.ownsRow_lit w #[] 0 hb (by decide) rfl
theorem own_ints {w : World} {base : Nat} {e : TypeId} {v : Value} {N : Nat} {k : IntKind} {zs : List Int} (h : w.ownsRow base e 1 v N (zs.map (Value.int k))) : ∃ a cap, v = .slice a N cap ∧ Ints k w a N cap zs := by
  have hl : zs.length = N := by simpa using h.1
  subst hl
  exact Ints.of_own h
theorem ints_one {w : World} {b : Nat} {d : Int} (hb : b < w.heap.size) (hc : w.cell? ⟨b, 0, none⟩ = some (.int .i64 d)) : Ints .i64 w (some ⟨b, 0, none⟩) 1 1 [d] :=
  ⟨rfl, Nat.le_refl _, by decide, fun _ => ⟨b, 0, rfl, hb, fun j hj => by
    obtain rfl : j = 0 := by omega
    exact hc⟩⟩
theorem grown_below {B : Nat} {w W w' : World} {e : TypeId} {v : Value} {n : Nat} {xs : List Value} (hB : Below B w W) (hs : B ≤ W.heap.size) (h : W.ownsRow B e 1 v n xs) (hg : W.grownBy w' v.ownBlock) : Below B w w' :=
  hB.grown hg hs (fun k hk => (h.lt k hk).1)
theorem all_lt {xs : List Int} {d : Int} (hs : xs.Pairwise (· < ·)) (h : 0 < xs.length → xs.getD (xs.length - 1) 0 < d) : ∀ x ∈ xs, x < d := by
  intro x hx
  obtain ⟨t, ht, e⟩ := mem_getD hx
  have h1 := h (by omega)
  by_cases c : t = xs.length - 1
  · subst c; omega
  · have := sorted_at hs t (xs.length - 1) (by omega) (by omega)
    omega

theorem frees_great (k : Nat → Int) (a : Option Addr) (n cap : Nat) (xs : List Int) (d f t : Int) (w : World) (ht : Tab w) (hx : Ints .i64 w a n cap xs) (hb : IB xs) (hz : a = none → cap = 0) (hd : -9223372036854775808 ≤ d ∧ d ≤ 9223372036854775807) (_hf : -9223372036854775808 ≤ f ∧ f ≤ 9223372036854775807) (_ht : -9223372036854775808 ≤ t ∧ t ≤ 9223372036854775807) (big : 300 < n) :
    Calls Tryd.prog 6 #[.agg #[.int .i64 (k 0), .int .i64 (k 1), .int .i64 (k 2), .int .i64 (k 3), .int .i64 (k 4), .int .i64 (k 5), .int .i64 (k 6), .slice a n cap], .int .i64 d, .agg #[.int .i64 f, .int .i64 t]] w fun e w' => e = .returned (.bool true) ∧ Below w.heap.size w w' := by
  have hx1 := (hx.alloc (.cells #[.int .i64 (k 0), .int .i64 (k 1), .int .i64 (k 2), .int .i64 (k 3), .int .i64 (k 4), .int .i64 (k 5), .int .i64 (k 6), .slice a n cap] 26)).alloc (.cells #[.int .i64 f, .int .i64 t] 37)
  have ht1 := (ht.alloc (.cells #[.int .i64 (k 0), .int .i64 (k 1), .int .i64 (k 2), .int .i64 (k 3), .int .i64 (k 4), .int .i64 (k 5), .int .i64 (k 6), .slice a n cap] 26)).alloc (.cells #[.int .i64 f, .int .i64 t] 37)
  have hb0 := balloc (balloc (Below.refl w.heap.size w) (.cells #[.int .i64 (k 0), .int .i64 (k 1), .int .i64 (k 2), .int .i64 (k 3), .int .i64 (k 4), .int .i64 (k 5), .int .i64 (k 6), .slice a n cap] 26)) (.cells #[.int .i64 f, .int .i64 t] 37)
  clear hx ht
  go_enter Tryd.func6, Tryd.ntmps6
  go_wp2_with fail
  refine (great_yes k a n cap _ big).mono ?_
  rintro e w1 ⟨rfl, hb1⟩
  go_wp2_with fail
  refine (awake_any _ (ht1.step hb1)).mono ?_
  rintro e w2 ⟨rfl, hb2⟩
  go_wp2_with fail
  go_ret
  exact ⟨rfl, bstep hb0 (bstep hb1 hb2)⟩

theorem frees_wrong (k : Nat → Int) (a : Option Addr) (n cap : Nat) (xs : List Int) (d f t : Int) (w : World) (ht : Tab w) (hx : Ints .i64 w a n cap xs) (hb : IB xs) (hz : a = none → cap = 0) (hd : -9223372036854775808 ≤ d ∧ d ≤ 9223372036854775807) (_hf : -9223372036854775808 ≤ f ∧ f ≤ 9223372036854775807) (_ht : -9223372036854775808 ≤ t ∧ t ≤ 9223372036854775807) (big : ¬ 300 < n) (hk : ¬ chk k xs = 0) :
    Calls Tryd.prog 6 #[.agg #[.int .i64 (k 0), .int .i64 (k 1), .int .i64 (k 2), .int .i64 (k 3), .int .i64 (k 4), .int .i64 (k 5), .int .i64 (k 6), .slice a n cap], .int .i64 d, .agg #[.int .i64 f, .int .i64 t]] w fun e w' => e = .returned (.bool true) ∧ Below w.heap.size w w' := by
  have hx1 := (hx.alloc (.cells #[.int .i64 (k 0), .int .i64 (k 1), .int .i64 (k 2), .int .i64 (k 3), .int .i64 (k 4), .int .i64 (k 5), .int .i64 (k 6), .slice a n cap] 26)).alloc (.cells #[.int .i64 f, .int .i64 t] 37)
  have ht1 := (ht.alloc (.cells #[.int .i64 (k 0), .int .i64 (k 1), .int .i64 (k 2), .int .i64 (k 3), .int .i64 (k 4), .int .i64 (k 5), .int .i64 (k 6), .slice a n cap] 26)).alloc (.cells #[.int .i64 f, .int .i64 t] 37)
  have hb0 := balloc (balloc (Below.refl w.heap.size w) (.cells #[.int .i64 (k 0), .int .i64 (k 1), .int .i64 (k 2), .int .i64 (k 3), .int .i64 (k 4), .int .i64 (k 5), .int .i64 (k 6), .slice a n cap] 26)) (.cells #[.int .i64 f, .int .i64 t] 37)
  clear hx ht
  have hne : (chk k xs != 0) = true := by simp [hk]
  clear hk
  go_enter Tryd.func6, Tryd.ntmps6
  go_wp2_with fail
  refine (great_no k a n cap _ big).mono ?_
  rintro e w1 ⟨rfl, hb1⟩
  obtain ⟨hc, hf'⟩ := bcell hb1
  go_wp2_with fail
  refine (rcheck_any k a n cap xs _ (hx1.next hb1 (Nat.le_refl _)) hb).mono ?_
  rintro e w2 ⟨rfl, hb2⟩
  go_wp2_with fail
  refine (awake_any _ ((ht1.step hb1).step hb2)).mono ?_
  rintro e w3 ⟨rfl, hb3⟩
  go_wp2_with fail
  go_ret
  exact ⟨rfl, bstep hb0 (bstep hb1 (bstep hb2 hb3))⟩

theorem frees_out (k : Nat → Int) (a : Option Addr) (n cap : Nat) (xs : List Int) (d f t : Int) (w : World) (ht : Tab w) (hx : Ints .i64 w a n cap xs) (hb : IB xs) (hz : a = none → cap = 0) (hd : -9223372036854775808 ≤ d ∧ d ≤ 9223372036854775807) (_hf : -9223372036854775808 ≤ f ∧ f ≤ 9223372036854775807) (_ht : -9223372036854775808 ≤ t ∧ t ≤ 9223372036854775807) (big : ¬ 300 < n) (hk : chk k xs = 0) (ho : d < -25567 ∨ 84005 < d) :
    Calls Tryd.prog 6 #[.agg #[.int .i64 (k 0), .int .i64 (k 1), .int .i64 (k 2), .int .i64 (k 3), .int .i64 (k 4), .int .i64 (k 5), .int .i64 (k 6), .slice a n cap], .int .i64 d, .agg #[.int .i64 f, .int .i64 t]] w fun e w' => e = .returned (.bool true) ∧ Below w.heap.size w w' := by
  have hx1 := (hx.alloc (.cells #[.int .i64 (k 0), .int .i64 (k 1), .int .i64 (k 2), .int .i64 (k 3), .int .i64 (k 4), .int .i64 (k 5), .int .i64 (k 6), .slice a n cap] 26)).alloc (.cells #[.int .i64 f, .int .i64 t] 37)
  have ht1 := (ht.alloc (.cells #[.int .i64 (k 0), .int .i64 (k 1), .int .i64 (k 2), .int .i64 (k 3), .int .i64 (k 4), .int .i64 (k 5), .int .i64 (k 6), .slice a n cap] 26)).alloc (.cells #[.int .i64 f, .int .i64 t] 37)
  have hb0 := balloc (balloc (Below.refl w.heap.size w) (.cells #[.int .i64 (k 0), .int .i64 (k 1), .int .i64 (k 2), .int .i64 (k 3), .int .i64 (k 4), .int .i64 (k 5), .int .i64 (k 6), .slice a n cap] 26)) (.cells #[.int .i64 f, .int .i64 t] 37)
  clear hx ht
  have hk' := Lib.hid hk
  clear hk
  go_enter Tryd.func6, Tryd.ntmps6
  go_wp2_with fail
  refine (great_no k a n cap _ big).mono ?_
  rintro e w1 ⟨rfl, hb1⟩
  obtain ⟨hc, hf'⟩ := bcell hb1
  go_wp2_with fail
  refine (rcheck_any k a n cap xs _ (hx1.next hb1 (Nat.le_refl _)) hb).mono ?_
  rintro e w2 ⟨rfl, hb2⟩
  rw [hk'.out]
  go_wp2_with (go_at_call 19; refine (rin_no d _ ho).mono ?_; rintro e w' ⟨rfl, rfl⟩)
  refine (awake_any _ ((ht1.step hb1).step hb2)).mono ?_
  rintro e w3 ⟨rfl, hb3⟩
  go_wp2_with fail
  go_ret
  exact ⟨rfl, bstep hb0 (bstep hb1 (bstep hb2 hb3))⟩

theorem frees_last (k : Nat → Int) (a : Option Addr) (n cap : Nat) (xs : List Int) (d f t : Int) (w : World) (ht : Tab w) (hx : Ints .i64 w a n cap xs) (hb : IB xs) (hz : a = none → cap = 0) (hd : -9223372036854775808 ≤ d ∧ d ≤ 9223372036854775807) (_hf : -9223372036854775808 ≤ f ∧ f ≤ 9223372036854775807) (_ht : -9223372036854775808 ≤ t ∧ t ≤ 9223372036854775807) (big : ¬ 300 < n) (hk : chk k xs = 0) (h0 : -25567 ≤ d) (h1 : d ≤ 84005) (hn : 0 < n) (hl : d ≤ xs.getD (n - 1) 0) :
    Calls Tryd.prog 6 #[.agg #[.int .i64 (k 0), .int .i64 (k 1), .int .i64 (k 2), .int .i64 (k 3), .int .i64 (k 4), .int .i64 (k 5), .int .i64 (k 6), .slice a n cap], .int .i64 d, .agg #[.int .i64 f, .int .i64 t]] w fun e w' => e = .returned (.bool true) ∧ Below w.heap.size w w' := by
  have hx1 := (hx.alloc (.cells #[.int .i64 (k 0), .int .i64 (k 1), .int .i64 (k 2), .int .i64 (k 3), .int .i64 (k 4), .int .i64 (k 5), .int .i64 (k 6), .slice a n cap] 26)).alloc (.cells #[.int .i64 f, .int .i64 t] 37)
  have ht1 := (ht.alloc (.cells #[.int .i64 (k 0), .int .i64 (k 1), .int .i64 (k 2), .int .i64 (k 3), .int .i64 (k 4), .int .i64 (k 5), .int .i64 (k 6), .slice a n cap] 26)).alloc (.cells #[.int .i64 f, .int .i64 t] 37)
  have hb0 := balloc (balloc (Below.refl w.heap.size w) (.cells #[.int .i64 (k 0), .int .i64 (k 1), .int .i64 (k 2), .int .i64 (k 3), .int .i64 (k 4), .int .i64 (k 5), .int .i64 (k 6), .slice a n cap] 26)) (.cells #[.int .i64 f, .int .i64 t] 37)
  clear hx ht
  have hk' := Lib.hid hk
  clear hk
  obtain ⟨b, off, rfl, hbl, hcell⟩ := hx1.at_ (j := n - 1) (by omega)
  generalize xs.getD (n - 1) 0 = x at *
  go_enter Tryd.func6, Tryd.ntmps6
  go_wp2_with fail
  refine (great_no k _ n cap _ big).mono ?_
  rintro e w1 ⟨rfl, hb1⟩
  obtain ⟨hc, hf'⟩ := bcell hb1
  go_wp2_with fail
  refine (rcheck_any k _ n cap xs _ (hx1.next hb1 (Nat.le_refl _)) hb).mono ?_
  rintro e w2 ⟨rfl, hb2⟩
  rw [hk'.out]
  have h12 := bstep hb1 hb2
  clear hc hf'
  obtain ⟨hc, hf'⟩ := bcell h12
  have hcl := bc h12 hbl hcell
  go_wp2_with (go_at_call 19; refine (rin_yes d _ h0 h1).mono ?_; rintro e w' ⟨rfl, rfl⟩)
  refine (awake_any _ (ht1.step h12)).mono ?_
  rintro e w3 ⟨rfl, hb3⟩
  go_wp2_with fail
  go_ret
  exact ⟨rfl, bstep hb0 (bstep h12 hb3)⟩

end Go.Proofs.YtjpjeimpmfoldaaDoor.W
