/- The walk of the law TopTelescopes: differences add up. -/
import Derived.Test.YtnakcmliopcabaaTeU
import Derived.Test.YtnakcmliopcabaaTeV
import Derived.Test.YtnakcmliopcabaaTeG
namespace Go.Proofs.Ytnakcmliopcabaa.W
open Go.RowKit Go.Proofs.Ytnakcmliopcabaa.M Go.Proofs.Ytnakcmliopcabaa.S
open Go.Maps (Keyed)
set_option linter.unusedVariables false

theorem infoCell : (Try.prog.info? 26).map (fun i => (i.zero, i.size, i.bytes)) = some (some (.agg #[.int .u8 0, .int .u8 0, .int .u8 0, .int .u8 0, .int .u8 0, .int .i32 0]), 6, 12) := by kernel_rfl
theorem acells_one (x : Amt) : ∀ u ∈ acells x, u.oneCell' = true := by
  intro u hu
  simp [acells] at hu
  rcases hu with rfl | rfl | rfl | rfl | rfl | rfl <;> rfl
/-- A row that the call owns, as a list of amounts. -/
theorem own_amts {w : World} {base : Nat} {e : TypeId} {v : Value} {xs : List Amt} (z : Amt) (h : w.ownsRow base e 6 v xs.length (xs.flatMap acells)) (hm : xs.length ≤ 9223372036854775807) : ∃ a cap, v = .slice a xs.length cap ∧ Lst 6 w a xs.length (fun j => acells (xs.getD j z)) := by
  rcases Nat.eq_zero_or_pos xs.length with h0 | h0
  · rcases h.2 with ⟨hv, _⟩ | ⟨g, cap, cur, hv, _⟩
    · exact ⟨none, 0, by rw [hv, h0], hm, fun h => absurd h (by omega)⟩
    · exact ⟨_, cap, hv, hm, fun h => absurd h (by omega)⟩
  · obtain ⟨g, cap, hv, hb, hlt⟩ := h.form h0
    subst hv
    refine ⟨_, cap, rfl, hm, fun _ => ⟨g, 0, rfl, hlt, fun j hj i u hu => ?_⟩⟩
    have hx : xs[j]? = some (xs.getD j z) := by rw [List.getD_eq_getElem?_getD, List.getElem?_eq_getElem hj]; rfl
    have h1 := flat_at acells (k := 6) (fun _ => rfl) xs j _ hx i u hu
    have hlt2 := (List.getElem?_eq_some_iff.1 h1).1
    rw [flat_len acells (k := 6) (fun _ => rfl)] at hlt2
    rw [Nat.zero_add]
    exact (h.cellAt _ hlt2).trans h1

/-- The earlier list, as the next round meets it. -/
def Prev (w : World) (v : Value) (A : Nat → Int) : Prop := ∃ y i nb a1 cap1 f n, TabIn w v A y i nb a1 cap1 f n
theorem Prev.step {w w' : World} {v : Value} {A : Nat → Int} (h : Prev w v A) (hb : Below w.heap.size w w') : Prev w' v A := by
  obtain ⟨y, i, nb, a1, cap1, f, n, h⟩ := h
  exact ⟨y, i, nb, a1, cap1, f, n, fun x hx => h.call x (bstep hb hx), h.get, h.was, h.lst.step hb, h.cap, h.nil, h.num⟩
def B0 : Int := 128849018880
theorem netT_sub (A B : Nat → Int) : netT A + netT (fun i => B i - A i) = netT B := by
  have h1 := tsum_add A (fun i => B i - A i) 0 0 28
  have h2 := tsum_add A (fun i => B i - A i) 1 5 28
  have e : (fun i => A i + (B i - A i)) = B := by funext i; omega
  rw [e] at h1 h2
  unfold netT
  omega
theorem netT_zero : netT (fun _ => 0) = 0 := by
  have h : ∀ lo hi m, tsum (fun _ => 0) lo hi m = 0 := fun lo hi m => by
    induction m with
    | zero => rfl
    | succ m ih => unfold tsum; rw [ih]; simp
  unfold netT; rw [h, h]; rfl

set_option maxRecDepth 100000 in
set_option maxHeartbeats 4000000 in
theorem topTelescopes (a : Option Addr) (n cap : Nat) (C : Nat → Amt) (W : World) (hl : Lst 6 W a n (fun j => acells (C j))) (hC : ∀ j, j < n → (C j).ok) (hnil : a = none → n = 0 ∧ cap = 0) :
    Calls Try.prog 3 #[.slice a n cap] W fun e w' => e = .returned (.bool true) ∧ Below W.heap.size W w' := by
  have HL := Lib.hid hl
  have HC := Lib.hid hC
  clear hl hC hnil
  by_cases h60 : 60 < n
  · have h60' : (60 : Int) < (n : Int) := by omega
    go_enter Try.func3, Try.ntmps3
    go_wp2_with fail
    go_ret
    exact ⟨rfl, Below.refl _ _⟩
  · have h60' : ¬ (60 : Int) < (n : Int) := by omega
    go_enter Try.func3, Try.ntmps3
    go_upto_region 5 with fail
    have hB0 := Lib.hid (balloc (Below.refl W.heap.size W) (.cells #[] 29))
    have hP0 : Hid (Prev (W.alloc (.cells #[] 29)) (.slice (some ⟨W.heap.size, 0, none⟩) 0 0) (fun _ => 0)) := ⟨_, _, _, _, _, _, _, tab_none _ _ _⟩
    generalize W.alloc (.cells #[] 29) = V at *
    go_wp2_with fail
    go_loopw [3, 4, 26] (fun s3 s4 s26 wx => ∃ (r : Nat) (A : Nat → Int), r ≤ 6 ∧ s26 = .int .i64 r ∧ Hid (small B0 A) ∧ s3 = .int .i64 (netT A) ∧ Hid (Below W.heap.size W wx) ∧ Hid (Prev wx s4 A)) (fun _ _ s26 _ => 6 - (intOf s26).toNat)
    case atStart => exact ⟨0, fun _ => 0, by omega, rfl, (fun i _ => by show _ ≤ (0 : Int) ∧ (0 : Int) ≤ _; unfold B0; omega), by rw [netT_zero], hB0.out, hP0.out⟩
    case round =>
      clear hB0 hP0
      obtain ⟨r, A, hr, rfl, hA, rfl, hbw, hprev⟩ := hrel
      by_cases cr : r < 6
      · have cr' : (r : Int) < 6 := by omega
        have wr1 : IntKind.i64.wrap ((r : Int) + 1) = (r : Int) + 1 := IntWalk.i64_in _ (by omega)
        obtain ⟨sA, hsA⟩ : ∃ x, netT A = x := ⟨_, rfl⟩
        have HSA := Lib.hid hsA
        rw [hsA]
        clear hsA
        go_upto_region 9 with fail
        go_wp2_with fail
        generalize wr = U at *
        go_loopw [6, 31] (fun s6 s31 wx => ∃ (q : Nat) (xs : List Amt), q ≤ n ∧ s31 = .int .i64 q ∧ xs.length ≤ q ∧ Hid (∀ x, x ∈ xs → x.ok) ∧ Hid (Below U.heap.size U wx) ∧ wx.ownsRow U.heap.size 26 6 s6 xs.length (xs.flatMap acells)) (fun _ s31 _ => n - (intOf s31).toNat)
        case atStart => exact ⟨0, [], Nat.zero_le _, rfl, Nat.le_refl _, (fun x h => by cases h), Below.refl _ _, World.ownsRow_nil _ _ _ _⟩
        case round =>
          obtain ⟨q, xs, hq, rfl, hxq, hxs, hbu, hown⟩ := hrel
          have hWw : Hid (Below W.heap.size W wr) := bstep hbw.out hbu.out
          by_cases cq : q < n
          · have cq' : (q : Int) < (n : Int) := by omega
            obtain ⟨b, o, rfl, hlt, hc⟩ := (HL.out.step hWw.out).at_ cq
            have d0 : wr.cell? ⟨b, o + q * 6, none⟩ = some (.int .u8 (C q).p) := hc 0 _ rfl
            have d1 : wr.cell? ⟨b, o + q * 6 + 1, none⟩ = some (.int .u8 (C q).r) := hc 1 _ rfl
            have d2 : wr.cell? ⟨b, o + q * 6 + 2, none⟩ = some (.int .u8 (C q).q) := hc 2 _ rfl
            have d3 : wr.cell? ⟨b, o + q * 6 + 3, none⟩ = some (.int .u8 (C q).t) := hc 3 _ rfl
            have d4 : wr.cell? ⟨b, o + q * 6 + 4, none⟩ = some (.int .u8 (C q).k) := hc 4 _ rfl
            have d5 : wr.cell? ⟨b, o + q * 6 + 5, none⟩ = some (.int .i32 (C q).c) := hc 5 _ rfl
            have hok := HC.out q cq
            have HOK := Lib.hid hok
            have HXS := Lib.hid hxs.out
            have wq : IntKind.i64.wrap ((q : Int) + 1) = (q : Int) + 1 := IntWalk.i64_in _ (by omega)
            obtain ⟨_, hr8, _⟩ := hok
            unfold U8 at hr8
            have e1 : (C q).r.tmod 6 = (((C q).r % 6).toNat : Int) := by rw [Int.tmod_eq_emod_of_nonneg hr8.1]; omega
            have e3 : ((C q).r % 6).toNat < 6 := by omega
            obtain ⟨rn, hrn⟩ : ∃ m, ((C q).r % 6).toNat = m := ⟨_, rfl⟩
            rw [hrn] at e1 e3
            have w7 : IntKind.u8.wrap (rn : Int) = (rn : Int) := by simp [IntKind.wrap, IntKind.bits, IntKind.signed]; omega
            have w8 : IntKind.i64.wrap (rn : Int) = (rn : Int) := IntWalk.i64_in _ (by omega)
            have hac : Hid (acells (C q) = [.int .u8 (C q).p, .int .u8 (C q).r, .int .u8 (C q).q, .int .u8 (C q).t, .int .u8 (C q).k, .int .i32 (C q).c]) := rfl
            obtain ⟨z, hz⟩ : ∃ z, C q = z := ⟨_, rfl⟩
            rw [hz] at HOK
            rw [hz] at hac
            rw [hz] at e1 d0 d1 d2 d3 d4 d5 hr8
            clear hc hrn hz
            obtain ⟨z0, z1, z2, z3, z4, z5⟩ := z
            simp only at e1 d0 d1 d2 d3 d4 d5 hr8 hac
            by_cases ce : rn = r
            · have e9 : ((rn : Int) == (r : Int)) = true := by rw [beq_iff_eq]; omega
              obtain ⟨ie, hie, hi0, hi1, hi2⟩ := info_parts infoCell
              have hown1 := hown.alloc (.cells #[.int .u8 z0, .int .u8 z1, .int .u8 z2, .int .u8 z3, .int .u8 z4, .int .i32 z5] 26)
              obtain ⟨X, hX⟩ : ∃ X, wr.alloc (.cells #[.int .u8 z0, .int .u8 z1, .int .u8 z2, .int .u8 z3, .int .u8 z4, .int .i32 z5] 26) = X := ⟨_, rfl⟩
              have hgX : Hid (wr.grownBy X u6.ownBlock) := by rw [← hX]; exact World.grownBy_alloc _ _ _
              have hXs : wr.heap.size < X.heap.size := by rw [← hX]; simp
              rw [hX] at hown1
              have x0 : X.cell? ⟨wr.heap.size, 0, none⟩ = some (.int .u8 z0) := by rw [← hX]; simp
              have x1 : X.cell? ⟨wr.heap.size, 1, none⟩ = some (.int .u8 z1) := by rw [← hX]; simp
              have x2 : X.cell? ⟨wr.heap.size, 2, none⟩ = some (.int .u8 z2) := by rw [← hX]; simp
              have x3 : X.cell? ⟨wr.heap.size, 3, none⟩ = some (.int .u8 z3) := by rw [← hX]; simp
              have x4 : X.cell? ⟨wr.heap.size, 4, none⟩ = some (.int .u8 z4) := by rw [← hX]; simp
              have x5 : X.cell? ⟨wr.heap.size, 5, none⟩ = some (.int .i32 z5) := by rw [← hX]; simp
              have hownA := hown1.alloc (.cells #[.int .u8 z0, .int .u8 z1, .int .u8 z2, .int .u8 z3, .int .u8 z4, .int .i32 z5] 26)
              have hnews : ∀ j u, [Value.int .u8 z0, .int .u8 z1, .int .u8 z2, .int .u8 z3, .int .u8 z4, .int .i32 z5][j]? = some u → (X.alloc (.cells #[.int .u8 z0, .int .u8 z1, .int .u8 z2, .int .u8 z3, .int .u8 z4, .int .i32 z5] 26)).cell? ((⟨X.heap.size, 0, none⟩ : Addr).add j) = some u :=
                World.news_of_block (block_alloc_last X (.cells #[.int .u8 z0, .int .u8 z1, .int .u8 z2, .int .u8 z3, .int .u8 z4, .int .i32 z5] 26 (0, 0)))
              have HO1 := Lib.hid hown1
              have hUX : Hid (U.heap.size ≤ X.heap.size) := by have := hbu.out.size; show _ ≤ _; omega
              have hbX : Hid (Below U.heap.size U X) := by rw [← hX]; exact balloc hbu.out _
              have hUX2 := hUX.out
              clear hown hown1 hr8 hxs
              go_wp2_with (at_builtin; refine wpList_append_lies _ rfl _ _ 22 rfl U.heap.size 26 ie (.agg #[.int .u8 0, .int .u8 0, .int .u8 0, .int .u8 0, .int .u8 0, .int .i32 0]) 6 12 Try.underlying22 hie hi0 hi1 hi2 rfl (by decide) _ _ _ rfl hownA ⟨X.heap.size, 0, none⟩ 1 1 [.int .u8 z0, .int .u8 z1, .int .u8 z2, .int .u8 z3, .int .u8 z4, .int .i32 z5] rfl rfl hnews (by intro u hu; simp at hu; rcases hu with rfl | rfl | rfl | rfl | rfl | rfl <;> rfl) (by decide) (by unfold maxLen; omega) (by omega) (by simp; omega) _ rfl ?_)
              intro g6 cp6 w6 hown2 hgr hat6 hglt
              have hgr1 := hgX.out.trans (grown_alloc hgr (fun j hj => (HO1.out.lt j hj).2))
              have hb6 := Lib.hid (hbu.out.grown hgr1 hbu.out.size (fun k hk => (HO1.out.lt k hk).1))
              have how6 : Hid (w6.ownsRow U.heap.size 26 6 (.slice (some ⟨g6, 0, none⟩) (xs.length + 1) cp6) (xs ++ [Amt.mk z0 z1 z2 z3 z4 z5]).length ((xs ++ [Amt.mk z0 z1 z2 z3 z4 z5]).flatMap acells)) := by
                rw [List.flatMap_append, List.length_append]
                exact hown2
              have hxs6 : Hid (∀ x, x ∈ xs ++ [Amt.mk z0 z1 z2 z3 z4 z5] → x.ok) := fun x hx => by
                rcases List.mem_append.1 hx with h | h
                · exact HXS.out x h
                · rw [List.mem_singleton.1 h]; exact HOK.out
              clear hown2 hgr hgr1 hownA hnews hat6 hglt hX x0 x1 x2 x3 x4 x5
              go_wp2_with fail
              go_roundw
              case rel => exact ⟨q + 1, xs ++ [Amt.mk z0 z1 z2 z3 z4 z5], by omega, by go_num, by simp; omega, hxs6.out, hb6.out, how6.out⟩
              case measure => simp [intOf]; omega
            · have e9 : ((rn : Int) == (r : Int)) = false := by rw [beq_eq_false_iff_ne]; omega
              have hown1 := Lib.hid (hown.alloc (.cells #[.int .u8 z0, .int .u8 z1, .int .u8 z2, .int .u8 z3, .int .u8 z4, .int .i32 z5] 26))
              have hb1 := Lib.hid (balloc hbu.out (.cells #[.int .u8 z0, .int .u8 z1, .int .u8 z2, .int .u8 z3, .int .u8 z4, .int .i32 z5] 26))
              clear hown hr8 hxs
              go_wp2_with fail
              go_roundw
              case rel => exact ⟨q + 1, xs, by omega, by go_num, by omega, HXS.out, hb1.out, hown1.out⟩
              case measure => simp [intOf]; omega
          · obtain rfl : q = n := by omega
            have cq' : ¬ (q : Int) < (q : Int) := by omega
            obtain ⟨a6, cap6, rfl, hl6⟩ := own_amts ⟨0, 0, 0, 0, 0, 0⟩ hown (by omega)
            have hokx : ∀ j, j < xs.length → (xs.getD j ⟨0, 0, 0, 0, 0, 0⟩).ok := fun j hj => by
              rw [List.getD_eq_getElem?_getD, List.getElem?_eq_getElem hj]
              exact hxs.out _ (List.getElem_mem hj)
            have hbd := tot_bd hokx xs.length (Nat.le_refl _)
            have HSL := Lib.hid (slip_is (fun j => xs.getD j ⟨0, 0, 0, 0, 0, 0⟩) xs.length (by omega) hokx a6 cap6 wr hl6)
            obtain ⟨B, hBt⟩ : ∃ B, tot (fun j => xs.getD j ⟨0, 0, 0, 0, 0, 0⟩) xs.length = B := ⟨_, rfl⟩
            rw [hBt] at HSL hbd
            have hB : Hid (small B0 B) := fun i hi => by
              have := hbd i
              unfold B0
              have h9 : ((xs.length : Nat) : Int) * 2147483648 ≤ 60 * 2147483648 := by omega
              omega
            obtain ⟨m, hm⟩ : ∃ m, xs.length = m := ⟨_, rfl⟩
            rw [hm] at HSL ⊢
            clear hm hbd hBt hokx hown hxs hxq hl6
            go_wp2_with fail
            refine HSL.out.mono ?_
            rintro e w1 ⟨a1, c1, rfl, hl1, hc1, hn1, hb1⟩
            unfold sv
            go_upto_region 16 with fail
            have hX0 := balloc (Below.refl w1.heap.size w1) (.cells #[.int .i64 2026, .int .i64 1, .slice a1 (ln B) c1] 29)
            have hOne : One (w1.alloc (.cells #[.int .i64 2026, .int .i64 1, .slice a1 (ln B) c1] 29)) (.slice (some ⟨w1.heap.size, 0, none⟩) 1 1) B := ⟨w1.heap.size, 0, 1, a1, c1, rfl, by simp, by simp, by simp, by simp, hl1.step hX0, hc1, hn1⟩
            have hUX : Hid (Below U.heap.size U (w1.alloc (.cells #[.int .i64 2026, .int .i64 1, .slice a1 (ln B) c1] 29))) := bstep (bstep hbu.out hb1) hX0
            clear hl1 hc1 hn1 hb1 hX0 HSL
            generalize w1.alloc (.cells #[.int .i64 2026, .int .i64 1, .slice a1 (ln B) c1] 29) = X at *
            obtain ⟨now, hnow⟩ : ∃ v, Value.slice (some ⟨w1.heap.size, 0, none⟩) 1 1 = v := ⟨_, rfl⟩
            rw [hnow] at hOne ⊢
            clear hnow
            have hBA : small BB A := fun i hi => by have := hA.out i hi; unfold B0 at this; unfold BB; omega
            have hBB : small BB B := fun i hi => by have := hB.out i hi; unfold B0 at this; unfold BB; omega
            have hBD : small BB (fun i => B i - A i) := fun i hi => by
              have h1 := hA.out i hi
              have h2 := hB.out i hi
              unfold B0 at h1 h2
              unfold BB
              show _ ≤ B i - A i ∧ B i - A i ≤ _
              omega
            have eAD : (fun i => A i + (B i - A i)) = B := by funext i; omega
            have hU2 : small BB (fun i => A i + (B i - A i)) := by rw [eAD]; exact hBB
            have hPX := hprev.out.step hUX.out
            have hsub := netT_sub A B
            rw [HSA.out] at hsub
            have hfB := netT_fit hBB
            unfold fit at hfB
            have HALL : Hid (Calls Try.prog 5 #[u4, now] X (AllOut (fun i => B i - A i) X)) := by
              obtain ⟨y, i, nb, aa, ca, f, na, hTI⟩ := hPX
              obtain ⟨ab, cb, hTB⟩ := tab_one hBB hOne
              exact all_is A B hBA hBB u4 now y i nb aa ab ca cb f na X hTI hTB
            have HADD : Hid (∀ w v, Below X.heap.size X w → One w v (fun i => B i - A i) → Calls Try.prog 7 #[u4, v] w (AllOut B w)) := fun w v hw hv => by
              obtain ⟨y, i, nb, aa, ca, f, na, hTI⟩ := hPX.step hw
              have h := addAll_is A (fun i => B i - A i) hBA hBD hU2 u4 v y i nb aa ca f na w hTI hv
              rw [eAD] at h
              exact h
            have HNET : Hid (∀ w v, One w v (fun i => B i - A i) → Calls Try.prog 6 #[v] w fun e w' => e = .returned (.tuple #[.int .i64 (netT (fun i => B i - A i)), .int .i64 0]) ∧ Below w.heap.size w w') := fun w v hv => by
              obtain ⟨g, o, cp, a2, c2, rfl, h2, h3, h4, h5, h6, h7, h8⟩ := hv
              exact net_one _ hBD a2 c2 g o cp w h6 h2 h3 h4 h5
            have HNTS : Hid (∀ w v, One w v B → Calls Try.prog 8 #[v] w fun e w' => e = .returned (.tuple #[.int .i64 (netT B), .bool true]) ∧ Below w.heap.size w w') := fun w v hv => by
              obtain ⟨g, o, cp, a2, c2, rfl, h2, h3, h4, h5, h6, h7, h8⟩ := hv
              exact nets_one _ hBB a2 c2 g o cp w h6 h2 h3 h4 h5
            have HGAP : Hid (∀ w v v', One w v B → One w v' B → Calls Try.prog 5 #[v, v'] w (AllOut (fun _ => 0) w)) := fun w v v' hv hv' => by
              obtain ⟨ab, cb, hTB⟩ := tab_one hBB hv
              obtain ⟨ac, cc, hTC⟩ := tab_one hBB hv'
              have h := all_is B B hBB hBB v v' 2026 1 false ab ac cb cc _ 1 w hTB hTC
              have e : (fun i => B i - B i) = fun _ => 0 := by funext i; omega
              rw [e] at h
              exact h
            have HONE := Lib.hid hOne
            clear hPX hOne hBA hBB hBD eAD hU2
            obtain ⟨sD, hsD⟩ : ∃ x, netT (fun i => B i - A i) = x := ⟨_, rfl⟩
            obtain ⟨sB, hsB⟩ : ∃ x, netT B = x := ⟨_, rfl⟩
            have HSB := Lib.hid hsB
            rw [hsD] at HNET hsub
            rw [hsB] at HNTS hsub hfB
            clear hsD hsB
            have wS : IntKind.i64.wrap (sA + sD) = sB := by rw [hsub]; exact IntWalk.i64_in _ (by omega)
            have nS : (sB != sB) = false := by simp
            clear hsub hfB
            go_wp2_with fail
            refine HALL.out.mono ?_
            rintro e w2 ⟨v2, rfl, hone2, hb2⟩
            have HX2 := Lib.hid hb2
            have HO2 := Lib.hid hone2
            have HV2 := Lib.hid (show ∃ ad cp, v2 = .slice ad 1 cp from by obtain ⟨g, o, cp, _, _, h, _⟩ := hone2; exact ⟨_, cp, h⟩)
            obtain ⟨ad2, cp2, hv2⟩ := HV2.out
            subst hv2
            clear hb2 hone2 HALL HV2
            go_wp2_with fail
            refine (HNET.out _ _ HO2.out).mono ?_
            rintro e w3 ⟨rfl, hb3⟩
            have HX3 := Lib.hid (bstep HX2.out hb3)
            have HO3 := Lib.hid (HO2.out.step hb3)
            clear hb3 HO2 HX2 HNET
            go_wp2_with fail
            refine (HADD.out _ _ HX3.out HO3.out).mono ?_
            rintro e w4 ⟨v4, rfl, hone4, hb4⟩
            have HX4 := Lib.hid (bstep HX3.out hb4)
            have HO4 := Lib.hid hone4
            clear hb4 hone4 HO3 HX3 HADD
            go_wp2_with fail
            refine (HNTS.out _ _ (HONE.out.step HX4.out)).mono ?_
            rintro e w5 ⟨rfl, hb5⟩
            have HX5 := Lib.hid (bstep HX4.out hb5)
            have HO5 := Lib.hid (HO4.out.step hb5)
            clear hb5 HO4 HX4 HNTS
            go_wp2_with fail
            refine (HGAP.out _ _ _ HO5.out (HONE.out.step HX5.out)).mono ?_
            rintro e w6 ⟨v6, rfl, hone6, hb6⟩
            have HX6 := Lib.hid (bstep HX5.out hb6)
            obtain ⟨g6, o6, cp6, a7, c7, rfl, i2, i3, i4, i5, _⟩ := hone6
            rw [ln_zero] at i5
            have HZ := Lib.hid (fun w => zero_is a7 0 c7 w)
            unfold sv at HZ
            have HI := Lib.hid (And.intro i2 (And.intro i3 (And.intro i4 i5)))
            clear hb6 HO5 HX5 HGAP
            have HWX : Hid (Below W.heap.size W w6) := bstep (bstep hbw.out hUX.out) HX6.out
            have HON : Hid (One w6 now B) := HONE.out.step HX6.out
            clear HONE HX6 hUX hprev hA
            go_wp2_with fail
            go_loopw [108] (fun s108 wx => (s108 = .int .i64 0 ∧ wx = w6) ∨ (s108 = .int .i64 1 ∧ Hid (Below w6.heap.size w6 wx))) (fun s108 _ => 2 - (intOf s108).toNat)
            case atStart => exact .inl ⟨rfl, rfl⟩
            case round =>
              rcases hrel with ⟨rfl, rfl⟩ | ⟨rfl, hfin⟩
              · have hA1 := Lib.hid (balloc (Below.refl wr.heap.size wr) (.cells #[.int .i64 2026, .int .i64 1, .slice a7 0 c7] 29))
                go_wp2_with fail
                refine (HZ.out _).mono ?_
                rintro e w8 ⟨rfl, hb8⟩
                have hz8 := Lib.hid (bstep hA1.out hb8)
                clear hb8 i2 i3 i4 i5
                go_wp2_with fail
                go_roundw
                case rel => exact .inr ⟨by go_num, hz8.out⟩
                case measure => simp [intOf]
              · have hbz : Hid (Below W.heap.size W wr) := bstep HWX.out hfin.out
                have hpz : Hid (Prev wr now B) := by
                  obtain ⟨ab, cb, hTB⟩ := tab_one (fun i hi => by have := hB.out i hi; unfold B0 at this; unfold BB; omega) (HON.out.step hfin.out)
                  exact ⟨_, _, _, _, _, _, _, hTB⟩
                clear i2 i3 i4 i5
                go_wp2_with fail
                go_roundw
                case rel => exact ⟨r + 1, B, by omega, by go_num, hB.out, by rw [HSB.out], hbz.out, hpz.out⟩
                case measure => simp [intOf]; omega
      · obtain rfl : r = 6 := by omega
        have cr' : ¬ ((6 : Nat) : Int) < 6 := by omega
        go_wp2_with fail
        go_ret
        exact ⟨rfl, hbw.out⟩
end Go.Proofs.Ytnakcmliopcabaa.W
