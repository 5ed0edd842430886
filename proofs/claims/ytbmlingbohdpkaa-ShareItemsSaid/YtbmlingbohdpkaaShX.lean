/- ShareSums: the parts of any amount, of either sign; the walk. -/
import Derived.Test.YtbmlingbohdpkaaShV
namespace Go.Proofs.Ytbmlingbohdpkaa.W
open Go.RowKit Go.Proofs.Ytbmlingbohdpkaa.M Go.Proofs.Ytbmlingbohdpkaa.B Go.Proofs.Ytbmlingbohdpkaa.H
set_option linter.unusedVariables false

theorem sm_neg (f : Nat → Int) : ∀ n, sm (fun i => -(f i)) n = -(sm f n)
  | 0 => by simp [sm]
  | n + 1 => by unfold sm; rw [sm_neg f n]; omega
/-- What the parts are, of any amount. -/
theorem sparts_law {c : Int} {f : Nat → Int} {n : Nat} (h : serr c f n = 0) :
    sm (sparts c f n) n = c ∧ (∀ i, i < n → (0 ≤ c → 0 ≤ sparts c f n i ∧ sparts c f n i ≤ c) ∧ (c < 0 → c ≤ sparts c f n i ∧ sparts c f n i ≤ 0) ∧ (f i = 0 → sparts c f n i = 0) ∧ -(sm f n) < sparts c f n i * sm f n - c * f i ∧ sparts c f n i * sm f n - c * f i < sm f n) ∧
      ∀ i k, i < n → k < n → f i < f k → (0 ≤ c → sparts c f n i ≤ sparts c f n k) := by
  obtain ⟨c1, c2, hw⟩ := serr_ok h
  obtain ⟨n0, n1, hf, s0, s1⟩ := werr_ok hw
  by_cases p : 0 ≤ c
  · have e : sparts c f n = parts c f n := by unfold sparts; rw [if_pos p]
    obtain ⟨a1, a2, a3⟩ := parts_law p (fun i hi => (hf i hi).1) s0
    rw [e]
    refine ⟨a1, fun i hi => ?_, fun i k hi hk hik _ => a3 i k hi hk hik⟩
    obtain ⟨b1, b2, b3, b4, b5⟩ := a2 i hi
    exact ⟨fun _ => ⟨b1, b2⟩, fun h => by omega, b3, b4, b5⟩
  · have e : sparts c f n = fun i => -(parts (-c) f n i) := by unfold sparts; rw [if_neg p]
    obtain ⟨a1, a2, a3⟩ := parts_law (a := -c) (by omega) (fun i hi => (hf i hi).1) s0
    rw [e]
    refine ⟨by rw [sm_neg, a1]; omega, fun i hi => ?_, fun i k hi hk hik h => absurd h (by omega)⟩
    obtain ⟨b1, b2, b3, b4, b5⟩ := a2 i hi
    refine ⟨fun h => by omega, fun h => ?_, fun h => ?_, ?_⟩
    · show c ≤ -(parts (-c) f n i) ∧ -(parts (-c) f n i) ≤ 0
      omega
    · show -(parts (-c) f n i) = 0
      rw [b3 h]; rfl
    · show _ < -(parts (-c) f n i) * sm f n - c * f i ∧ -(parts (-c) f n i) * sm f n - c * f i < _
      rw [Int.neg_mul] at b4 b5 ⊢
      omega

set_option maxRecDepth 100000 in
theorem shareSums (c : Int) (b : Option Addr) (n cap : Nat) (xs : List Int) (W : World) (hc : -9223372036854775808 ≤ c ∧ c ≤ 9223372036854775807) (hX : Ints .i64 W b n cap xs) (hB : ∀ x ∈ xs, -9223372036854775808 ≤ x ∧ x ≤ 9223372036854775807) :
    Calls Try.prog 5 #[.int .i64 c, .slice b n cap] W fun e w' => e = .returned (.bool true) ∧ Below W.heap.size W w' := by
  obtain ⟨f, hf⟩ : ∃ f : Nat → Int, (fun j => xs.getD j 0) = f := ⟨_, rfl⟩
  have hI : ∀ i, i < n → -9223372036854775808 ≤ f i ∧ f i ≤ 9223372036854775807 := fun i hi => by
    rw [← hf]
    have h1 : i < xs.length := by rw [hX.len]; exact hi
    have h2 : xs.getD i 0 = xs[i] := by simp [List.getD_eq_getElem?_getD, h1]
    show -9223372036854775808 ≤ xs.getD i 0 ∧ xs.getD i 0 ≤ 9223372036854775807
    rw [h2]; exact hB _ (List.getElem_mem _)
  have hx : Vec .i64 W b n cap f := by rw [← hf]; exact Vec.of_ints hX
  clear hf hX hB
  have hm := hx.1
  by_cases bn : 100 < n
  · have bn' : (100 : Int) < (n : Int) := by omega
    go_enter Try.func5, Try.ntmps5
    go_wp2_with fail
    refine (awake_is _).mono ?_
    rintro e w1 ⟨rfl, hb1⟩
    go_wp2_with fail
    go_ret
    exact ⟨rfl, hb1⟩
  have bn' : ¬ (100 : Int) < (n : Int) := by omega
  obtain ⟨k, hk⟩ : ∃ k, serr c f n = k := ⟨_, rfl⟩
  have hsp := Split_is c b n cap f W hc hx hI
  unfold SpOut at hsp
  by_cases z : k = 0
  · subst z
    have hsl : slen c f n = n := by unfold slen; rw [if_pos hk]
    rw [hsl, hk] at hsp
    have hlaw := Lib.hid (sparts_law hk)
    generalize sparts c f n = p at *
    have HS := Lib.hid hsp
    have HI := Lib.hid hI
    obtain ⟨c1, c2, hw⟩ := serr_ok hk
    obtain ⟨n0, n1, _⟩ := werr_ok hw
    clear hsp hI hk hsl hw hc
    go_enter Try.func5, Try.ntmps5
    go_wp2_with fail
    refine HS.out.mono ?_
    rintro e V ⟨a, cap2, rfl, hp, hbV⟩
    have hx2 := hx.step hbV
    go_wp2_with fail
    go_loopw [7, 36] (fun s7 s36 wx => ∃ (j t : Nat) (T : Int), j ≤ n ∧ s36 = .int .i64 j ∧ wx = V.drewN t ∧ s7 = .int .i64 T ∧ -((j : Int) * 1125899906842624) ≤ T ∧ T ≤ (j : Int) * 1125899906842624 ∧ Hid (sm p j = T)) (fun _ i _ => n - (intOf i).toNat)
    case atStart => exact ⟨0, 0, 0, Nat.zero_le _, rfl, rfl, rfl, by omega, by omega, rfl⟩
    case round =>
      obtain ⟨j, t, T, hj, rfl, rfl, rfl, T0, T1, hT⟩ := hrel
      by_cases cj : j < n
      · obtain ⟨b1, o1, rfl, h1, d1⟩ := hp.at_ cj
        obtain ⟨b2, o2, rfl, h2, d2⟩ := hx2.at_ cj
        obtain ⟨l1, l2, l3, _⟩ := hlaw.out.2.1 j cj
        obtain ⟨x, hxe⟩ : ∃ x, p j = x := ⟨_, rfl⟩
        obtain ⟨w, hwe⟩ : ∃ w, f j = w := ⟨_, rfl⟩
        have hnx : Hid (sm p (j + 1) = T + x) := by show _ = _; unfold sm; rw [hT.out, hxe]
        have hmono : Hid (∀ i, i < n → f j < f i → 0 ≤ c → x ≤ p i) := fun i hi h h0 => by rw [← hxe]; exact hlaw.out.2.2 j i cj hi h h0
        have hmono2 : Hid (∀ i, i < n → f i < f j → 0 ≤ c → p i ≤ x) := fun i hi h h0 => by rw [← hxe]; exact hlaw.out.2.2 i j hi cj h h0
        rw [hwe] at hmono hmono2
        rw [hxe] at l1 l2 l3 d1
        rw [hwe] at l3 d2
        clear hxe hwe hT
        have hj64 : (j : Int) < 64 := by omega
        have x0 : -1125899906842624 ≤ x := by omega
        have x1 : x ≤ 1125899906842624 := by omega
        go_upto_region 13 with fail
        go_cut [68] (fun s68 wx => s68 = .bool false ∧ wx = V.drewN t)
        case first =>
          by_cases e0 : x = 0
          · have e1 : (x == 0) = true := beq_iff_eq.2 e0
            have e7 : (x != 0) = false := by rw [e0]; rfl
            have e5 : decide (0 < x) = false := decide_eq_false (by omega)
            have e6 : decide (x < 0) = false := decide_eq_false (by omega)
            clear l1 l2 l3 e0
            go_wp2_with fail
            all_goals
              go_meet
              exact ⟨rfl, rfl⟩
          · have e1 : (x == 0) = false := beq_eq_false_iff_ne.2 e0
            have e2 : (w == 0) = false := beq_eq_false_iff_ne.2 fun h => e0 (l3 h)
            by_cases e3 : c < 0
            · have := l2 e3
              have e4 : x < 0 := by omega
              have e5 : decide (0 ≤ c) = false := decide_eq_false (by omega)
              have e6 : decide (0 < x) = false := decide_eq_false (by omega)
              clear l1 l2 l3 this e0
              go_wp2_with fail
              go_meet
              exact ⟨rfl, rfl⟩
            · have := l1 (by omega)
              have e4 : 0 < x := by omega
              have e5 : decide (c ≤ 0) = false := decide_eq_false (by omega)
              have e6 : decide (x < 0) = false := decide_eq_false (by omega)
              clear l1 l2 l3 this e0 e3
              go_wp2_with fail
              go_meet
              exact ⟨rfl, rfl⟩
        case rest =>
          obtain ⟨rfl, rfl⟩ := hcut
          clear l1 l2 l3
          go_wp2_with fail
          go_loopw [70] (fun s70 wx => ∃ (i t2 : Nat), i ≤ j ∧ s70 = .int .i64 i ∧ wx = V.drewN t2) (fun i _ => j - (intOf i).toNat)
          case atStart => exact ⟨0, t, Nat.zero_le _, rfl, rfl⟩
          case round =>
            obtain ⟨i, t2, hi, rfl, rfl⟩ := hrel
            by_cases ci : i < j
            · have d3 : V.cell? ⟨b1, o1 + i, none⟩ = some (.int .i64 (p i)) := by
                obtain ⟨b3, o3, hb3, _, h⟩ := hp.at_ (show i < n by omega)
                injection hb3 with hb3
                injection hb3 with e1 e2
                subst e1 e2
                exact h
              have d4 : V.cell? ⟨b2, o2 + i, none⟩ = some (.int .i64 (f i)) := by
                obtain ⟨b3, o3, hb3, _, h⟩ := hx2.at_ (show i < n by omega)
                injection hb3 with hb3
                injection hb3 with e1 e2
                subst e1 e2
                exact h
              have m1 := hmono.out i (by omega)
              have m2 := hmono2.out i (by omega)
              have hin : (i : Int) < n := by omega
              generalize p i = y at *
              generalize f i = v at *
              by_cases e1 : c < 0
              · have f1 : decide (0 ≤ c) = false := decide_eq_false (by omega)
                clear m1 m2
                go_wp2_with fail
                go_quiet (fail)
                go_wp2_with fail
                go_round
                case rel => exact ⟨i + 1, _, by omega, by go_num, rfl⟩
                case measure => simp [intOf]; omega
              · have f1 : 0 ≤ c := by omega
                by_cases e2 : w < v
                · have f2 : decide (y < x) = false := decide_eq_false (by have := m1 e2 f1; omega)
                  have f3 : decide (v < w) = false := decide_eq_false (by omega)
                  clear m1 m2
                  go_wp2_with fail
                  go_quiet (fail)
                  go_wp2_with fail
                  go_round
                  case rel => exact ⟨i + 1, _, by omega, by go_num, rfl⟩
                  case measure => simp [intOf]; omega
                · have f2 : decide (w < v) = false := decide_eq_false e2
                  by_cases e3 : v < w
                  · have f3 : decide (x < y) = false := decide_eq_false (by have := m2 e3 f1; omega)
                    clear m1 m2
                    go_wp2_with fail
                    go_quiet (fail)
                    go_wp2_with fail
                    go_round
                    case rel => exact ⟨i + 1, _, by omega, by go_num, rfl⟩
                    case measure => simp [intOf]; omega
                  · have f3 : decide (v < w) = false := decide_eq_false e3
                    clear m1 m2
                    go_wp2_with fail
                    go_quiet (fail)
                    go_wp2_with fail
                    go_round
                    case rel => exact ⟨i + 1, _, by omega, by go_num, rfl⟩
                    case measure => simp [intOf]; omega
            · obtain rfl : i = j := by omega
              go_wp2_with fail
              go_round
              case rel => exact ⟨i + 1, t2, T + x, by omega, by go_num, rfl, rfl, by omega, by omega, hnx⟩
              case measure => simp [intOf]; omega
      · obtain rfl : j = n := by omega
        obtain rfl : T = c := by rw [← hT.out]; exact hlaw.out.1
        go_wp2_with fail
        refine (awake_is _).mono ?_
        rintro e w1 ⟨rfl, hb1⟩
        go_wp2_with fail
        go_ret
        exact ⟨rfl, bstep (below_drewN hbV t) hb1⟩
  · have hsl : slen c f n = 0 := by unfold slen; rw [hk, if_neg z]
    rw [hsl, hk] at hsp
    have HS := Lib.hid hsp
    have z' : (k == 0) = false := beq_eq_false_iff_ne.2 z
    clear hsp hsl hk z hI
    go_enter Try.func5, Try.ntmps5
    go_wp2_with fail
    refine HS.out.mono ?_
    rintro e V ⟨a, cap2, rfl, hp, hbV⟩
    go_wp2_with fail
    refine (awake_is _).mono ?_
    rintro e w1 ⟨rfl, hb1⟩
    go_wp2_with fail
    go_ret
    exact ⟨rfl, bstep hbV hb1⟩
end Go.Proofs.Ytbmlingbohdpkaa.W
