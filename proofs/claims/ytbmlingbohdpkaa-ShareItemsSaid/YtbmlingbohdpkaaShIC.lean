/- ShareItems: the walk. -/
import Derived.Test.YtbmlingbohdpkaaShIB
namespace Go.Proofs.Ytbmlingbohdpkaa.W
open Go.RowKit Go.Proofs.Ytbmlingbohdpkaa.M Go.Proofs.Ytbmlingbohdpkaa.B Go.Proofs.Ytbmlingbohdpkaa.H
set_option linter.unusedVariables false

theorem iterr_ok {f : Nat → Int} {n : Nat} {V : Nat → Int} {m : Nat} (h : iterr f n V m = 0) : werr f n = 0 ∧ m ≤ 64 ∧ ∀ j, j < m → serr (V j) f n = 0 := by
  unfold iterr at h
  split at h
  · rename_i hz
    split at h
    · omega
    · split at h
      · rename_i hv
        exact ⟨hz, by omega, fun j hj => by have := hv j hj; unfold serr; rw [if_neg (by omega), hz]⟩
      · omega
  · rename_i hz; exact absurd h hz

set_option maxRecDepth 100000 in
set_option maxHeartbeats 4000000 in
theorem shareItems (a : Option Addr) (m ca : Nat) (C : Nat → ByteArray) (V : Nat → Int) (b : Option Addr) (n cap : Nat) (xs : List Int) (W : World) (hl : Its W a m C V) (hV : ∀ j, j < m → -9223372036854775808 ≤ V j ∧ V j ≤ 9223372036854775807) (hX : Ints .i64 W b n cap xs) (hB : ∀ x ∈ xs, -9223372036854775808 ≤ x ∧ x ≤ 9223372036854775807) :
    Calls Try.prog 9 #[.slice a m ca, .slice b n cap] W fun e w' => e = .returned (.bool true) ∧ Below W.heap.size W w' := by
  have hge : Try.prog.eqGuardType Try.prog.depth 47 = false := by kernel_rfl
  obtain ⟨f, hf⟩ : ∃ f : Nat → Int, (fun j => xs.getD j 0) = f := ⟨_, rfl⟩
  have hI : ∀ i, i < n → -9223372036854775808 ≤ f i ∧ f i ≤ 9223372036854775807 := fun i hi => by
    rw [← hf]
    have h1 : i < xs.length := by rw [hX.len]; exact hi
    have h2 : xs.getD i 0 = xs[i] := by simp [List.getD_eq_getElem?_getD, h1]
    show -9223372036854775808 ≤ xs.getD i 0 ∧ xs.getD i 0 ≤ 9223372036854775807
    rw [h2]; exact hB _ (List.getElem_mem _)
  have hx : Vec .i64 W b n cap f := by rw [← hf]; exact Vec.of_ints hX
  clear hf hX hB
  have hm := hx.1
  have hm2 := hl.1
  by_cases bn : 100 < n
  · have bn' : (100 : Int) < (n : Int) := by omega
    go_enter Try.func9, Try.ntmps9
    go_wp2_with fail
    refine (awake_is _).mono ?_
    rintro e w1 ⟨rfl, hb1⟩
    go_wp2_with fail
    go_ret
    exact ⟨rfl, hb1⟩
  have bn' : ¬ (100 : Int) < (n : Int) := by omega
  by_cases bm : 100 < m
  · have bm' : (100 : Int) < (m : Int) := by omega
    go_enter Try.func9, Try.ntmps9
    go_wp2_with fail
    refine (awake_is _).mono ?_
    rintro e w1 ⟨rfl, hb1⟩
    go_wp2_with fail
    go_ret
    exact ⟨rfl, hb1⟩
  have bm' : decide ((100 : Int) < (m : Int)) = false := decide_eq_false (by omega)
  have s1 := fun W h h2 => Items_is a m ca C V b n cap f W h hV h2 hI
  have s2 := fun W h h2 => refItems_is a m ca C V b n cap f W h hV h2 hI
  unfold ItOut at s1 s2
  obtain ⟨P, hP⟩ : ∃ P : Nat → Nat → Int, (fun j => sparts (V j) f n) = P := ⟨_, rfl⟩
  obtain ⟨k, hk⟩ : ∃ k, iterr f n V m = k := ⟨_, rfl⟩
  obtain ⟨N, hN⟩ : ∃ N, (if k = 0 then n else 0) = N := ⟨_, rfl⟩
  rw [hP, hk, hN] at s1 s2
  have hlaw : Hid (k = 0 → N = n ∧ ∀ j, j < m → sm (P j) n = V j ∧ ∀ i, i < n → -1125899906842624 ≤ P j i ∧ P j i ≤ 1125899906842624) := fun h0 => by
    refine ⟨by rw [← hN, if_pos h0], fun j hj => ?_⟩
    obtain ⟨hw, _, hs⟩ := iterr_ok (hk.trans h0)
    obtain ⟨l1, l2, _⟩ := sparts_law (hs j hj)
    obtain ⟨c1, c2, _⟩ := serr_ok (hs j hj)
    rw [← hP]
    refine ⟨l1, fun i hi => ?_⟩
    obtain ⟨q1, q2, _⟩ := l2 i hi
    show -1125899906842624 ≤ sparts (V j) f n i ∧ sparts (V j) f n i ≤ 1125899906842624
    omega
  have hn64 : Hid (k = 0 → n ≤ 64) := fun h0 => (werr_ok (iterr_ok (hk.trans h0)).1).2.1
  have hNn : N ≤ n := by rw [← hN]; split <;> omega
  have S1 := Lib.hid s1
  have S2 := Lib.hid s2
  clear s1 s2 hP hk hN hI
  go_enter Try.func9, Try.ntmps9
  go_wp2_with fail
  refine (S1.out _ hl hx).mono ?_
  rintro e w1 ⟨g1, N1, cp1, rfl, hN1, hr1, hb1⟩
  subst hN1
  go_wp2_with fail
  refine (S2.out _ (hl.step hb1) (hx.step hb1)).mono ?_
  rintro e w2 ⟨g2, N2, cp2, rfl, hN2, hr2, hb2⟩
  subst hN2
  have hr1' := hr1.step hb2
  have hB2 := bstep hb1 hb2
  have hl2 := hl.step hB2
  clear S1 S2 hr1 hb1 hb2 hl hx
  rename World => U
  go_wp2_with fail
  go_loopw [48] (fun s48 wx => ∃ i t : Nat, i ≤ N2 ∧ s48 = .int .i64 i ∧ wx = U.drewN t) (fun i _ => N2 - (intOf i).toNat)
  case atStart => exact ⟨0, 0, Nat.zero_le _, rfl, rfl⟩
  case round =>
    obtain ⟨r, t, hi, rfl, rfl⟩ := hrel
    by_cases ci : r < N2
    · obtain ⟨G1, rfl, hG1, hc1⟩ := hr1' (by omega)
      obtain ⟨G2, rfl, hG2, hc2⟩ := hr2 (by omega)
      obtain ⟨a1, q1, d1, it1⟩ := hc1 r ci
      obtain ⟨a2, q2, d2, it2⟩ := hc2 r ci
      have hin : (r : Int) < n := by omega
      clear hc1 hc2 hr1' hr2 hlaw hl2
      go_wp2_with fail
      go_quiet (fail)
      go_wp2_with fail
      go_loopw [67] (fun s67 wx => ∃ j t : Nat, j ≤ m ∧ s67 = .int .i64 j ∧ wx = U.drewN t) (fun i _ => m - (intOf i).toNat)
      case atStart => exact ⟨0, _, Nat.zero_le _, rfl, rfl⟩
      case round =>
        obtain ⟨j, t2, hj, rfl, rfl⟩ := hrel
        by_cases cj : j < m
        · obtain ⟨b1, o1, rfl, h1, e1, e2⟩ := it1.at_ cj
          obtain ⟨b2, o2, rfl, h2, e3, e4⟩ := it2.at_ cj
          clear it1 it2
          generalize C j = cs at *
          generalize P j r = p at *
          go_wp2_with fail
          go_quiet (fail)
          go_wp2_with fail
          go_round
          case rel => exact ⟨j + 1, _, by omega, by go_num, rfl⟩
          case measure => simp [intOf]; omega
        · obtain rfl : j = m := by omega
          go_wp2_with fail
          go_round
          case rel => exact ⟨r + 1, t2, by omega, by go_num, rfl⟩
          case measure => simp [intOf]; omega
    · obtain rfl : r = N2 := by omega
      by_cases z : k = 0
      · subst z
        obtain ⟨rfl, hlaw2⟩ := hlaw.out rfl
        have n64 := hn64.out rfl
        have HL := Lib.hid hlaw2
        clear hlaw hlaw2 hn64 hr2
        go_wp2_with fail
        go_loopw [92] (fun s92 wx => ∃ j : Nat, j ≤ m ∧ s92 = .int .i64 j ∧ Below U.heap.size U wx) (fun i _ => m - (intOf i).toNat)
        case atStart => exact ⟨0, Nat.zero_le _, rfl, below_drewN (Below.refl _ _) t⟩
        case round =>
          obtain ⟨j, hj, rfl, hbx⟩ := hrel
          by_cases cj : j < m
          · obtain ⟨b1, o1, rfl, h1, d1, d2⟩ := (hl2.step hbx).at_ cj
            obtain ⟨v0, v1⟩ := hV j cj
            obtain ⟨hsm, hpb⟩ := HL.out j cj
            have hpb' := Lib.hid hpb
            have hsm' := Lib.hid hsm
            clear hpb hsm
            have hr3 := hr1'.step hbx
            have hBn : Below wr.heap.size wr (wr.alloc (.cells #[.string (C j), .int .i64 (V j)] 47)) := balloc (Below.refl _ _) _
            have hr4 := Lib.hid (hr3.step hBn)
            clear hr3
            have hx0 : (wr.alloc (.cells #[.string (C j), .int .i64 (V j)] 47)).cell? ⟨wr.heap.size, 1, none⟩ = some (.int .i64 (V j)) := by simp
            go_wp2_with fail
            go_loop [13, 99] (fun s13 s99 => ∃ (i : Nat) (T : Int), i ≤ r ∧ s99 = .int .i64 i ∧ s13 = .int .i64 T ∧ -((i : Int) * 1125899906842624) ≤ T ∧ T ≤ (i : Int) * 1125899906842624 ∧ Hid (sm (P j) i = T)) (fun _ i => r - (intOf i).toNat)
            case atStart => exact ⟨0, 0, Nat.zero_le _, rfl, rfl, by omega, by omega, rfl⟩
            case round =>
              obtain ⟨i, T, hi, rfl, rfl, T0, T1, hT⟩ := hrel
              by_cases ci : i < r
              · obtain ⟨G1, rfl, hG1, hc1⟩ := hr4.out (by omega)
                obtain ⟨a1, q1, e1, it1⟩ := hc1 i ci
                obtain ⟨b3, o3, rfl, h3, e2, e3⟩ := it1.at_ cj
                obtain ⟨p0, p1⟩ := hpb'.out i ci
                have hnx : Hid (sm (P j) (i + 1) = T + P j i) := by show _ = _; unfold sm; rw [hT.out]
                have hii : (i : Int) < 64 := by omega
                clear hc1 it1 hT e2
                generalize P j i = p at *
                go_wp2_with fail
                go_round
                case rel => exact ⟨i + 1, T + p, by omega, by go_num, rfl, by omega, by omega, hnx⟩
                case measure => simp [intOf]; omega
              · obtain rfl : i = r := by omega
                obtain rfl : T = V j := by rw [← hT.out]; exact hsm'.out
                go_wp2_with fail
                go_round
                case rel => exact ⟨j + 1, by omega, by go_num, bstep hbx hBn⟩
                case measure => simp [intOf]; omega
          · obtain rfl : j = m := by omega
            go_wp2_with fail
            refine (awake_is _).mono ?_
            rintro e w1 ⟨rfl, hb1⟩
            go_wp2_with fail
            go_ret
            exact ⟨rfl, bstep (bstep hB2 hbx) hb1⟩
      · have z' : (k == 0) = false := beq_eq_false_iff_ne.2 z
        clear z hlaw hn64
        go_wp2_with fail
        refine (awake_is _).mono ?_
        rintro e w1 ⟨rfl, hb1⟩
        go_wp2_with fail
        go_ret
        exact ⟨rfl, bstep (below_drewN hB2 t) hb1⟩
end Go.Proofs.Ytbmlingbohdpkaa.W
