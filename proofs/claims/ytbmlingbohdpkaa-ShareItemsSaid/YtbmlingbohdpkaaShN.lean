/- ShareNear: the walk. -/
import Derived.Test.YtbmlingbohdpkaaShX
import Derived.Deep.AppendLies
import Derived.Deep.RegionLaw
namespace Go.Proofs.Ytbmlingbohdpkaa.W
open Go.RowKit Go.Proofs.Ytbmlingbohdpkaa.M Go.Proofs.Ytbmlingbohdpkaa.B Go.Proofs.Ytbmlingbohdpkaa.H
set_option linter.unusedVariables false

def fl (f : Nat → Int) (n : Nat) : List Int := (List.range n).map f
theorem fl_succ (f : Nat → Int) (n : Nat) : fl f (n + 1) = fl f n ++ [f n] := by unfold fl; rw [List.range_succ]; simp
theorem fl_len (f : Nat → Int) (n : Nat) : (fl f n).length = n := by unfold fl; simp
theorem fl_getD (f : Nat → Int) {n i : Nat} (h : i < n) : (fl f n).getD i 0 = f i := by unfold fl; simp [List.getD_eq_getElem?_getD, h]
theorem own_vec {k : IntKind} {w : World} {base : Nat} {e : TypeId} {v : Value} {n : Nat} {f : Nat → Int} (h : w.ownsRow base e 1 v n ((fl f n).map (Value.int k))) (hn : n ≤ 9223372036854775807) : ∃ a cap, v = .slice a n cap ∧ Vec k w a n cap f := by
  have h' := h
  rw [← fl_len f n] at h'
  rw [fl_len f n] at h'
  obtain ⟨a, cap, hv, hI⟩ := Ints.of_own (k := k) (xs := fl f n) (w := w) (base := base) (e := e) (v := v) (by rw [fl_len]; exact h)
  rw [fl_len] at hv hI
  exact ⟨a, cap, hv, (Vec.of_ints hI).congr fun i hi => fl_getD f hi⟩
theorem mul_bd {x y A B : Int} (h1 : -A ≤ x) (h2 : x ≤ A) (h3 : 0 ≤ y) (h4 : y ≤ B) : -(A * B) ≤ x * y ∧ x * y ≤ A * B := by
  have a0 : 0 ≤ A := by omega
  have e1 : x * y ≤ A * y := Int.mul_le_mul_of_nonneg_right h2 h3
  have e2 : A * y ≤ A * B := Int.mul_le_mul_of_nonneg_left h4 a0
  have e3 : -A * y ≤ x * y := Int.mul_le_mul_of_nonneg_right h1 h3
  rw [Int.neg_mul] at e3
  omega
theorem info_parts {P : Program} {T : TypeId} {z : Value} {s b : Nat} (h : (P.info? T).map (fun i => (i.zero, i.size, i.bytes)) = some (some z, s, b)) : ∃ i, P.info? T = some i ∧ i.zero = some z ∧ i.size = s ∧ i.bytes = b := by
  obtain ⟨i, h1, h2⟩ := Option.map_eq_some_iff.1 h
  simp only [Prod.mk.injEq] at h2
  exact ⟨i, h1, h2.1, h2.2.1, h2.2.2⟩
theorem infoI64 : (Try.prog.info? 2).map (fun i => (i.zero, i.size, i.bytes)) = some (some (.int .i64 0), 1, 8) := by kernel_rfl

set_option maxRecDepth 100000 in
theorem shareNear (c : Int) (b : Option Addr) (n cap : Nat) (xs : List Int) (W : World) (hc : -2147483648 ≤ c ∧ c ≤ 2147483647) (hX : Ints .u16 W b n cap xs) (hB : ∀ x ∈ xs, 0 ≤ x ∧ x ≤ 65535) :
    Calls Try.prog 3 #[.int .i32 c, .slice b n cap] W fun e w' => e = .returned (.bool true) ∧ Below W.heap.size W w' := by
  obtain ⟨f, hf⟩ : ∃ f : Nat → Int, (fun j => xs.getD j 0) = f := ⟨_, rfl⟩
  have hI : ∀ i, i < n → 0 ≤ f i ∧ f i ≤ 65535 := fun i hi => by
    rw [← hf]
    have h1 : i < xs.length := by rw [hX.len]; exact hi
    have h2 : xs.getD i 0 = xs[i] := by simp [List.getD_eq_getElem?_getD, h1]
    show 0 ≤ xs.getD i 0 ∧ xs.getD i 0 ≤ 65535
    rw [h2]; exact hB _ (List.getElem_mem _)
  have hx : Vec .u16 W b n cap f := by rw [← hf]; exact Vec.of_ints hX
  clear hf hX hB
  have hm := hx.1
  by_cases bn : 64 < n
  · have bn' : (64 : Int) < (n : Int) := by omega
    go_enter Try.func3, Try.ntmps3
    go_wp2_with fail
    refine (awake_is _).mono ?_
    rintro e w1 ⟨rfl, hb1⟩
    go_wp2_with fail
    go_ret
    exact ⟨rfl, hb1⟩
  have bn' : ¬ (64 : Int) < (n : Int) := by omega
  obtain ⟨c0, c1⟩ := hc
  have HI := Lib.hid hI
  obtain ⟨i0, hi, hz0, hz1, hz2⟩ := info_parts infoI64
  have Hi := Lib.hid hi
  clear hI hi
  go_enter Try.func3, Try.ntmps3
  go_wp2_with fail
  go_loopw [5, 6, 20] (fun s5 s6 s20 wx => ∃ (k : Nat) (T : Int), k ≤ n ∧ s20 = .int .i64 k ∧ s6 = .int .i64 T ∧ 0 ≤ T ∧ T ≤ k * 65535 ∧ Hid (sm f k = T) ∧ wx.ownsRow W.heap.size 2 1 s5 k ((fl f k).map (Value.int .i64)) ∧ Below W.heap.size W wx) (fun _ _ i _ => n - (intOf i).toNat)
  case atStart => exact ⟨0, 0, Nat.zero_le _, rfl, rfl, by omega, by omega, rfl, World.ownsRow_nil _ _ _ _, Below.refl _ _⟩
  case round =>
    obtain ⟨k, T, hk, rfl, rfl, T0, T1, hT, hown, hbel⟩ := hrel
    by_cases cj : k < n
    · obtain ⟨b2, o2, rfl, h2, d2⟩ := hx.at_ cj
      have d3 := bc hbel h2 d2
      have hxr := HI.out k cj
      have hxr2 : b2 < wr.heap.size := Nat.lt_of_lt_of_le h2 hbel.size
      have hnx : Hid (sm f (k + 1) = T + f k) := by show _ = _; unfold sm; rw [hT.out]
      have hk64 : (k : Int) < 64 := by omega
      have hfl : Hid (fl f (k + 1) = fl f k ++ [f k]) := fl_succ f k
      clear d2
      generalize f k = x at *
      have hsz := hbel.size
      go_wp2_with (refine wpList_append_lies _ rfl (.tmp 24) (.tmp 27) 24 rfl W.heap.size 2 i0 (.int .i64 0) 1 8 Try.underlying24 Hi.out hz0 hz1 hz2 rfl (by decide) u5 k ((fl f k).map (Value.int .i64)) (by simp [Act.eval]) (hown.alloc _) ⟨wr.heap.size, 0, none⟩ 1 1 [.int .i64 x] (by simp [Act.eval]) rfl (World.news_of_block (cs := #[.int .i64 x]) (block_alloc_last' _ _ (by simp))) (by simp [Value.oneCell']) (by omega) (by unfold maxLen; omega) (by omega) (by simp; omega) _ rfl ?_; intro g cap2 w2 hown2 hgrow2 hat2 hlt2)
      go_round
      case rel =>
        refine ⟨k + 1, T + x, by omega, by go_num, rfl, by omega, by omega, hnx, ?_, ?_⟩
        · rw [hfl.out, List.map_append]; exact hown2
        · exact hbel.trans (below_append hown ((Below.refl _ _).alloc (Nat.le_refl _) _) hgrow2 hsz)
      case measure => simp [intOf]; omega
    · obtain rfl : k = n := by omega
      obtain ⟨a, cap1, rfl, hv⟩ := own_vec hown (by omega)
      have hIb : ∀ i, i < k → -9223372036854775808 ≤ f i ∧ f i ≤ 9223372036854775807 := fun i hi => by have := HI.out i hi; omega
      have hsp := Split_is c a k cap1 f wr (by omega) hv hIb
      unfold SpOut at hsp
      have hse : serr c f k = werr f k := by unfold serr; rw [if_neg (by omega)]
      clear hown
      rename World => V1
      by_cases z : T = 0
      · subst z
        have hw : werr f k = 10 ∨ werr f k = 22 := by
          unfold werr
          by_cases k0 : k = 0
          · rw [if_pos k0]; exact .inl rfl
          · rw [if_neg k0, if_neg (by omega), if_pos (fun i hi => by have := HI.out i hi; omega), hT.out, if_pos rfl]; exact .inr rfl
        have hsl : slen c f k = 0 := by unfold slen; rw [hse]; rcases hw with h | h <;> rw [h] <;> rfl
        rw [hsl, hse] at hsp
        have HS := Lib.hid hsp
        clear hsp hse hsl hT
        rcases hw with h | h <;> rw [h] at HS <;> clear h
        · go_wp2_with fail
          refine HS.out.mono ?_
          rintro e V ⟨a2, cap2, rfl, hp, hbV⟩
          go_wp2_with fail
          refine (awake_is _).mono ?_
          rintro e w1 ⟨rfl, hb1⟩
          go_wp2_with fail
          go_ret
          exact ⟨rfl, bstep (bstep hbel hbV) hb1⟩
        · go_wp2_with fail
          refine HS.out.mono ?_
          rintro e V ⟨a2, cap2, rfl, hp, hbV⟩
          go_wp2_with fail
          refine (awake_is _).mono ?_
          rintro e w1 ⟨rfl, hb1⟩
          go_wp2_with fail
          go_ret
          exact ⟨rfl, bstep (bstep hbel hbV) hb1⟩
      · have z' : (T == 0) = false := beq_eq_false_iff_ne.2 z
        have hw : werr f k = 0 := by
          unfold werr
          have k0 : k ≠ 0 := fun h => by subst h; exact z (by rw [← hT.out]; rfl)
          rw [if_neg k0, if_neg (by omega), if_pos (fun i hi => by have := HI.out i hi; omega), hT.out, if_neg z]
        rw [hw] at hse
        have hsl : slen c f k = k := by unfold slen; rw [if_pos hse]
        rw [hsl, hse] at hsp
        have hlaw := Lib.hid (sparts_law hse)
        generalize sparts c f k = p at *
        have HS := Lib.hid hsp
        have HZ := Lib.hid z
        clear hsp hse hsl hw z
        go_wp2_with fail
        refine HS.out.mono ?_
        rintro e V ⟨a2, cap2, rfl, hp, hbV⟩
        have hl2 := hv.step hbV
        go_wp2_with fail
        go_loop [68] (fun s68 => ∃ j : Nat, j ≤ k ∧ s68 = .int .i64 j) (fun i => k - (intOf i).toNat)
        case atStart => exact ⟨0, Nat.zero_le _, rfl⟩
        case round =>
          obtain ⟨j, hj, rfl⟩ := hrel
          by_cases cj : j < k
          · obtain ⟨b1, o1, rfl, h1, d1⟩ := hp.at_ cj
            obtain ⟨b2, o2, rfl, h2, d2⟩ := hl2.at_ cj
            obtain ⟨l1, l2, l3, l4, l5⟩ := hlaw.out.2.1 j cj
            obtain ⟨w0, w1⟩ := HI.out j cj
            rw [hT.out] at l4 l5
            generalize p j = x at *
            generalize f j = w at *
            have x0 : -2147483648 ≤ x := by omega
            have x1 : x ≤ 2147483648 := by omega
            obtain ⟨p0, p1⟩ := mul_bd x0 x1 T0 (show T ≤ 4194304 by omega)
            obtain ⟨q0, q1⟩ := mul_bd (show -2147483648 ≤ c by omega) (show c ≤ 2147483648 by omega) w0 w1
            have f1 : decide (T ≤ x * T - c * w) = false := decide_eq_false (by omega)
            have f2 : decide (x * T - c * w ≤ -T) = false := decide_eq_false (by omega)
            clear l1 l2 l3 l4 l5
            go_wp2_with fail
            go_round
            case rel => exact ⟨j + 1, by omega, by go_num⟩
            case measure => simp [intOf]; omega
          · obtain rfl : j = k := by omega
            go_wp2_with fail
            refine (awake_is _).mono ?_
            rintro e w1 ⟨rfl, hb1⟩
            go_wp2_with fail
            go_ret
            exact ⟨rfl, bstep (bstep hbel hbV) hb1⟩
end Go.Proofs.Ytbmlingbohdpkaa.W
