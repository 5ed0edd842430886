/- ShareScales: the walk. -/
import Derived.Test.YtbmlingbohdpkaaShN
namespace Go.Proofs.Ytbmlingbohdpkaa.W
open Go.RowKit Go.Proofs.Ytbmlingbohdpkaa.M Go.Proofs.Ytbmlingbohdpkaa.B Go.Proofs.Ytbmlingbohdpkaa.H
set_option linter.unusedVariables false

theorem sm_times (k : Int) (f : Nat → Int) (n : Nat) : sm (fun i => k * f i) n = k * sm f n := sm_mul k f n
theorem parts_times {a k : Int} {f : Nat → Int} {n : Nat} (hk : 0 < k) : parts a (fun i => k * f i) n = parts a f n := by
  unfold parts
  rw [sm_times]
  have e1 : qq a (k * sm f n) (fun i => k * f i) = qq a (sm f n) f := by
    funext i
    show a * (k * f i) / (k * sm f n) = a * f i / sm f n
    rw [Int.mul_left_comm, Int.mul_ediv_mul_of_pos _ _ hk]
  have e2 : rr a (k * sm f n) (fun i => k * f i) = fun i => k * rr a (sm f n) f i := by
    funext i
    show a * (k * f i) % (k * sm f n) = k * (a * f i % sm f n)
    rw [Int.mul_left_comm, Int.mul_emod_mul_of_pos _ _ hk]
  rw [e1, e2]
  exact give_times hk _ _ _
theorem serr_times {c k : Int} {f : Nat → Int} {n : Nat} (h0 : 1 ≤ k) (h1 : k ≤ 256) (hf : ∀ i, i < n → 0 ≤ f i ∧ f i ≤ 1099511627776) : serr c (fun i => k * f i) n = serr c f n := by
  have a1 : ∀ i, i < n → 0 ≤ k * f i ∧ k * f i ≤ 1125899906842624 := fun i hi => by
    obtain ⟨b0, b1⟩ := hf i hi
    have := mul_bd (x := k) (y := f i) (A := 256) (B := 1099511627776) (by omega) h1 b0 b1
    exact ⟨Int.mul_nonneg (by omega) b0, by omega⟩
  have a2 : ∀ i, i < n → 0 ≤ f i ∧ f i ≤ 1125899906842624 := fun i hi => by have := hf i hi; omega
  unfold serr werr
  rw [if_pos a1, if_pos a2, sm_times]
  have e : (k * sm f n = 0) = (sm f n = 0) := propext ⟨fun h => by
    rcases Int.mul_eq_zero.1 h with h | h
    · omega
    · exact h, fun h => by rw [h, Int.mul_zero]⟩
  simp only [e]
theorem serr_neg (c : Int) (f : Nat → Int) (n : Nat) : serr (-c) f n = serr c f n := by
  unfold serr
  by_cases h : c < -1125899906842624 ∨ 1125899906842624 < c
  · rw [if_pos h, if_pos (by omega)]
  · rw [if_neg h, if_neg (by omega)]
theorem sparts_times {c k : Int} {f : Nat → Int} {n : Nat} (hk : 0 < k) : sparts c (fun i => k * f i) n = sparts c f n := by
  unfold sparts
  rw [parts_times hk, parts_times hk]
theorem sparts_neg {c : Int} {f : Nat → Int} {n : Nat} (h : serr c f n = 0) (i : Nat) (hi : i < n) : sparts (-c) f n i = -(sparts c f n i) := by
  rcases Int.lt_trichotomy c 0 with d | d | d
  · unfold sparts; rw [if_pos (by omega), if_neg (by omega), Int.neg_neg]
  · subst d
    have := (sparts_law h).2.1 i hi
    have h2 := this.1 (by omega)
    rw [Int.neg_zero]; omega
  · unfold sparts; rw [if_neg (by omega), if_pos (by omega), Int.neg_neg]

set_option maxRecDepth 100000 in
theorem shareScales (c : Int) (b : Option Addr) (n cap : Nat) (xs : List Int) (u : Int) (W : World) (hc : -9223372036854775808 ≤ c ∧ c ≤ 9223372036854775807) (hX : Ints .i64 W b n cap xs) (hB : ∀ x ∈ xs, -9223372036854775808 ≤ x ∧ x ≤ 9223372036854775807) (hu : 0 ≤ u ∧ u ≤ 255) :
    Calls Try.prog 6 #[.int .i64 c, .slice b n cap, .int .u8 u] W fun e w' => e = .returned (.bool true) ∧ Below W.heap.size W w' := by
  obtain ⟨f, hf⟩ : ∃ f : Nat → Int, (fun j => xs.getD j 0) = f := ⟨_, rfl⟩
  have hI : ∀ i, i < n → -9223372036854775808 ≤ f i ∧ f i ≤ 9223372036854775807 := fun i hi => by
    rw [← hf]
    have h1 : i < xs.length := by rw [hX.len]; exact hi
    have h2 : xs.getD i 0 = xs[i] := by simp [List.getD_eq_getElem?_getD, h1]
    show -9223372036854775808 ≤ xs.getD i 0 ∧ xs.getD i 0 ≤ 9223372036854775807
    rw [h2]; exact hB _ (List.getElem_mem _)
  have hx : Vec .i64 W b n cap f := by rw [← hf]; exact Vec.of_ints hX
  clear hf hX hB
  have hm := hx.1
  obtain ⟨u0, u1⟩ := hu
  by_cases bn : 64 < n
  · have bn' : (64 : Int) < (n : Int) := by omega
    go_enter Try.func6, Try.ntmps6
    go_wp2_with fail
    refine (awake_is _).mono ?_
    rintro e w1 ⟨rfl, hb1⟩
    go_wp2_with fail
    go_ret
    exact ⟨rfl, hb1⟩
  have bn' : ¬ (64 : Int) < (n : Int) := by omega
  have HI := Lib.hid hI
  obtain ⟨i0, hi, hz0, hz1, hz2⟩ := info_parts infoI64
  have Hi := Lib.hid hi
  clear hI hi
  go_enter Try.func6, Try.ntmps6
  go_wp2_with fail
  go_loopw [8, 27] (fun s8 s27 wx => ∃ (k : Nat), k ≤ n ∧ s27 = .int .i64 k ∧ Hid (∀ i, i < k → 0 ≤ f i ∧ f i ≤ 1099511627776) ∧ wx.ownsRow W.heap.size 2 1 s8 k ((fl (fun i => (u + 1) * f i) k).map (Value.int .i64)) ∧ Below W.heap.size W wx) (fun _ i _ => n - (intOf i).toNat)
  case atStart => exact ⟨0, Nat.zero_le _, rfl, fun i hi => absurd hi (by omega), World.ownsRow_nil _ _ _ _, Below.refl _ _⟩
  case round =>
    obtain ⟨k, hk, rfl, hok, hown, hbel⟩ := hrel
    by_cases cj : k < n
    · obtain ⟨b2, o2, rfl, h2, d2⟩ := hx.at_ cj
      have d3 := bc hbel h2 d2
      have hxr := HI.out k cj
      have hxr2 : b2 < wr.heap.size := Nat.lt_of_lt_of_le h2 hbel.size
      have hk64 : (k : Int) < 64 := by omega
      obtain ⟨x, hxe⟩ : ∃ x, f k = x := ⟨_, rfl⟩
      have hfl : Hid (fl (fun i => (u + 1) * f i) (k + 1) = fl (fun i => (u + 1) * f i) k ++ [(u + 1) * x]) := by rw [← hxe]; exact fl_succ _ k
      rw [hxe] at hxr d3
      have HE := Lib.hid hxe
      clear d2 hxe
      have hsz := hbel.size
      by_cases a0 : x < 0
      · clear hown hfl
        go_wp2_with fail
        refine (awake_is _).mono ?_
        rintro e w1 ⟨rfl, hb1⟩
        go_wp2_with fail
        go_ret
        exact ⟨rfl, bstep hbel hb1⟩
      by_cases a1 : 1099511627776 < x
      · clear hown hfl
        go_wp2_with fail
        refine (awake_is _).mono ?_
        rintro e w1 ⟨rfl, hb1⟩
        go_wp2_with fail
        go_ret
        exact ⟨rfl, bstep hbel hb1⟩
      have hok1 : Hid (∀ i, i < k + 1 → 0 ≤ f i ∧ f i ≤ 1099511627776) := fun i hi => by
        by_cases e1 : i = k
        · subst e1; rw [HE.out]; omega
        · exact hok.out i (by omega)
      obtain ⟨p0, p1⟩ := mul_bd (x := u + 1) (y := x) (A := 256) (B := 1099511627776) (by omega) (by omega) (by omega) (by omega)
      clear hok
      go_wp2_with (refine wpList_append_lies _ rfl (.tmp 38) (.tmp 42) 24 rfl W.heap.size 2 i0 (.int .i64 0) 1 8 Try.underlying24 Hi.out hz0 hz1 hz2 rfl (by decide) u8 k ((fl (fun i => (u + 1) * f i) k).map (Value.int .i64)) (by simp [Act.eval]) (hown.alloc _) ⟨wr.heap.size, 0, none⟩ 1 1 [.int .i64 ((u + 1) * x)] (by simp [Act.eval]) rfl (World.news_of_block (cs := #[.int .i64 ((u + 1) * x)]) (block_alloc_last' _ _ (by simp))) (by simp [Value.oneCell']) (by omega) (by unfold maxLen; omega) (by omega) (by simp; omega) _ rfl ?_; intro g cap2 w2 hown2 hgrow2 hat2 hlt2)
      go_round
      case rel =>
        refine ⟨k + 1, by omega, by go_num, hok1, ?_, ?_⟩
        · rw [hfl.out, List.map_append]; exact hown2
        · exact hbel.trans (below_append hown ((Below.refl _ _).alloc (Nat.le_refl _) _) hgrow2 hsz)
      case measure => simp [intOf]; omega
    · obtain rfl : k = n := by omega
      obtain ⟨a, cap1, rfl, hv⟩ := own_vec hown (by omega)
      clear hown
      rename World => V1
      by_cases c1 : 1125899906842624 < c
      · go_wp2_with fail
        refine (awake_is _).mono ?_
        rintro e w1 ⟨rfl, hb1⟩
        go_wp2_with fail
        go_ret
        exact ⟨rfl, bstep hbel hb1⟩
      by_cases c2 : c < -1125899906842624
      · go_wp2_with fail
        refine (awake_is _).mono ?_
        rintro e w1 ⟨rfl, hb1⟩
        go_wp2_with fail
        go_ret
        exact ⟨rfl, bstep hbel hb1⟩
      have c3 : decide (c < -1125899906842624) = false := decide_eq_false c2
      have hkb : ∀ i, i < k → -9223372036854775808 ≤ (u + 1) * f i ∧ (u + 1) * f i ≤ 9223372036854775807 := fun i hi => by
        obtain ⟨b0, b1⟩ := hok.out i hi
        have := mul_bd (x := u + 1) (y := f i) (A := 256) (B := 1099511627776) (by omega) (by omega) b0 b1
        omega
      have hE1 := serr_times (c := c) (k := u + 1) (f := f) (n := k) (by omega) (by omega) hok.out
      have hE2 := serr_neg c f k
      have hL1 : slen c (fun i => (u + 1) * f i) k = slen c f k := by unfold slen; rw [hE1]
      have hL2 : slen (-c) f k = slen c f k := by unfold slen; rw [hE2]
      have hsp1 := fun V hv => Split_is c b k cap f V (by omega) hv HI.out
      have hsp2 := fun V hv => Split_is c a k cap1 (fun i => (u + 1) * f i) V (by omega) hv hkb
      have hsp3 := fun V hv => Split_is (-c) b k cap f V (by omega) hv HI.out
      unfold SpOut at hsp1 hsp2 hsp3
      rw [hL1, hE1, sparts_times (by omega)] at hsp2
      rw [hL2, hE2] at hsp3
      have hneg : Hid (∀ i, i < slen c f k → sparts (-c) f k i = -(sparts c f k i) ∧ -1125899906842624 ≤ sparts c f k i ∧ sparts c f k i ≤ 1125899906842624) := fun i hi => by
        unfold slen at hi
        split at hi
        · rename_i h
          refine ⟨sparts_neg h i hi, ?_⟩
          obtain ⟨l1, l2, _⟩ := (sparts_law h).2.1 i hi
          omega
        · omega
      have hml : slen c f k ≤ k := by unfold slen; split <;> omega
      generalize sparts (-c) f k = p2 at *
      generalize sparts c f k = p at *
      generalize slen c f k = m at *
      generalize serr c f k = E at *
      have S1 := Lib.hid hsp1
      have S2 := Lib.hid hsp2
      have S3 := Lib.hid hsp3
      clear hsp1 hsp2 hsp3 hE1 hE2 hL1 hL2 hkb hok
      go_wp2_with fail
      refine (S1.out _ (hx.step hbel)).mono ?_
      rintro e V2 ⟨a1, d1, rfl, hp1, hb2⟩
      go_wp2_with fail
      refine (S2.out _ (hv.step hb2)).mono ?_
      rintro e V3 ⟨a2, d2, rfl, hp2, hb3⟩
      go_wp2_with fail
      refine (S3.out _ (hx.step (bstep (bstep hbel hb2) hb3))).mono ?_
      rintro e V4 ⟨a3, d3, rfl, hp3, hb4⟩
      have hB := bstep (bstep (bstep hbel hb2) hb3) hb4
      have hp1' := hp1.step (bstep hb3 hb4)
      have hp2' := hp2.step hb4
      clear S1 S2 S3 hp1 hp2 hb2 hb3 hb4 hbel hv
      have hsame := Lib.hid (same_is a1 a2 m m d1 d2 p p true (decide_eq_true ⟨rfl, fun i hi => rfl⟩) V4 hp1' hp2')
      go_wp2_with (go_at_call 13; refine hsame.out.mono ?_; rintro e w4 ⟨rfl, t4, rfl⟩)
      go_loopw [94] (fun s94 wx => ∃ j t : Nat, j ≤ m ∧ s94 = .int .i64 j ∧ wx = V4.drewN t) (fun i _ => m - (intOf i).toNat)
      case atStart => exact ⟨0, _, Nat.zero_le _, rfl, rfl⟩
      case round =>
        obtain ⟨j, t, hj, rfl, rfl⟩ := hrel
        by_cases cj : j < m
        · obtain ⟨b1, o1, rfl, h1, e1⟩ := hp1'.at_ cj
          obtain ⟨b3, o3, rfl, h3, e3⟩ := hp3.at_ cj
          obtain ⟨n1, n2, n3⟩ := hneg.out j cj
          rw [n1] at e3
          clear n1
          generalize p j = x at *
          go_wp2_with fail
          go_quiet (fail)
          go_wp2_with fail
          go_round
          case rel => exact ⟨j + 1, _, by omega, by go_num, rfl⟩
          case measure => simp [intOf]; omega
        · obtain rfl : j = m := by omega
          go_wp2_with fail
          refine (awake_is _).mono ?_
          rintro e w1 ⟨rfl, hb1⟩
          go_wp2_with fail
          go_ret
          exact ⟨rfl, bstep (below_drewN hB t) hb1⟩
end Go.Proofs.Ytbmlingbohdpkaa.W
