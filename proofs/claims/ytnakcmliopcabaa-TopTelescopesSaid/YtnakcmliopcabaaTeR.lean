/- The periods of tables: delta.periods. -/
import Derived.Test.YtnakcmliopcabaaTeO
import Derived.Test.YtnakcmliopcabaaTeN
import Derived.Test.YtnakcmliopcabaaTeE
import Derived.Test.YtnakcmliopcabaaLstA
namespace Go.Proofs.Ytnakcmliopcabaa.W
open Go.RowKit Go.Lib Go.Sort Go.Proofs Go.Shelf Go.Proofs.Ytnakcmliopcabaa.M Go.Proofs.Ytnakcmliopcabaa.S
open Go.Maps (Keyed)
set_option linter.unusedVariables false

theorem infoPer : (Try.prog.info? 51).map (fun i => (i.zero, i.size, i.bytes)) = some (some (.agg #[.int .i64 0, .int .i64 0]), 2, 16) := by kernel_rfl
/-- The one period, as the answer's only element. -/
def PerOut (W : World) (e : Ending) (w' : World) : Prop := ∃ g cap, e = .returned (.slice (some ⟨g, 0, none⟩) 1 cap) ∧ w'.cell? ⟨g, 0, none⟩ = some (.int .i64 2026) ∧ w'.cell? ⟨g, 1, none⟩ = some (.int .i64 1) ∧ W.heap.size ≤ g ∧ g < w'.heap.size ∧ Below W.heap.size W w'
/-- How many entries the first maps have. -/
def cum (ns : Nat → Nat) : Nat → Nat
  | 0 => 0
  | j + 1 => cum ns j + ns j
def us (c : Nat) : List Unit := List.replicate c ()
theorem us_next (c : Nat) : us (c + 1) = us c ++ [()] := List.replicate_succ'
theorem us_len (c : Nat) : (us c).length = c := List.length_replicate

set_option maxRecDepth 100000 in
set_option maxHeartbeats 2000000 in
theorem periods_is (k : Nat) (bs ns : Nat → Nat) (fs : Nat → Unit → Option Sx) (gl : Nat) (W : World) (hk : k ≤ 2) (hns : ∀ j, j < k → ns j ≤ 1) (hgl : gl < W.heap.size)
    (hcl : ∀ j, j < k → W.cell? ⟨gl, j, none⟩ = some (.map (some (bs j)))) (hM : ∀ j, j < k → MapT W (bs j) (ns j) (fs j)) (htot : 1 ≤ cum ns k ∧ cum ns k ≤ 2) :
    Calls Try.prog 11 #[.slice (some ⟨gl, 0, none⟩) k k] W (PerOut W) := by
  have HNS := Lib.hid hns
  have HCL := Lib.hid hcl
  have HM := Lib.hid hM
  clear hns hcl hM
  go_enter Try.func11, Try.ntmps11
  go_wp2_with fail
  go_loopw [3, 9] (fun s3 s9 wx => ∃ j : Nat, j ≤ k ∧ s9 = .int .i64 j ∧ Hid (Below W.heap.size W wx) ∧ wx.ownsRow W.heap.size 51 2 s3 (cum ns j) ((us (cum ns j)).flatMap encP)) (fun _ s9 _ => k - (intOf s9).toNat)
  case atStart => exact ⟨0, Nat.zero_le _, rfl, Below.refl _ _, World.ownsRow_nil _ _ _ _⟩
  case round =>
    obtain ⟨j, hj, rfl, hbw, hown⟩ := hrel
    by_cases cj : j < k
    · have cj' : (j : Int) < (k : Int) := by omega
      have wj : IntKind.i64.wrap ((j : Int) + 1) = (j : Int) + 1 := IntWalk.i64_in _ (by omega)
      have d0 := bc hbw.out hgl (HCL.out j cj)
      have hMj := (HM.out j cj)
      have hbl : Hid (bs j < W.heap.size) := hMj.lt
      obtain ⟨D, hDo, hDn, hDf, hDk⟩ := hMj.next hbw.out hMj.lt
      have hnj := HNS.out j cj
      have HDK := Lib.hid hDk
      clear hDf hDk hMj
      go_wp2_with (at_range; refine wpList_range_own _ rfl _ 46 rfl 51 29 kPer Try.underlying46 sxR (bs j) (ns j) D rfl hDo ?_; intro U1 hrg0 hgr0 hsz0)
      try go_frame
      have hb1 : Hid (Below W.heap.size W U1) := hbw.out.grown hgr0 hbw.out.size (fun k h => by cases h)
      have hown0 := hown.kept hgr0 (by
        rcases hown.2 with ⟨h0, _⟩ | ⟨g', cap', cur, h0, _⟩
        · left; rw [h0]; rfl
        · right; rw [h0]; intro h; cases h)
      have hnr0 : Hid (u3.ownBlock ≠ some wr.heap.size) := fun e => by have := (hown.lt _ e).2; omega
      have hrge : Hid (W.heap.size ≤ wr.heap.size) := hbw.out.size
      have hcum : cum ns (j + 1) = cum ns j + ns j := rfl
      have hcle : Hid (cum ns (j + 1) ≤ 4) := by
        show _ ≤ 4
        have h0 := hnj
        rcases (by omega : j = 0 ∨ j = 1) with rfl | rfl
        · have : cum ns 0 = 0 := rfl
          omega
        · have h1 := HNS.out 0 (by omega)
          have : cum ns 1 = cum ns 0 + ns 0 := rfl
          have : cum ns 0 = 0 := rfl
          omega
      clear hgr0 hDo hown hbw d0
      have HCUM := Lib.hid hcum
      obtain ⟨r, hr⟩ : ∃ r, wr.heap.size = r := ⟨_, rfl⟩
      rw [hr] at hrg0 hsz0 hnr0 hrge ⊢
      clear hr
      go_loopw [3] (fun s3 wx => ∃ (left : Lit → Bool) (cnt c : Nat), wx.ranges Try.prog 51 sxR (bs j) r (ns j) D left cnt ∧ c + cnt = cum ns (j + 1) ∧ cnt ≤ 1 ∧ Hid (Below W.heap.size W wx) ∧ wx.ownsRow W.heap.size 51 2 s3 c ((us c).flatMap encP) ∧ Hid (∀ l, left l = true → Maps.has D l = true) ∧ s3.ownBlock ≠ some r) (fun _ wx => wx.rangeLeft (bs j) r)
      case atStart => exact ⟨_, _, cum ns j, hrg0, by rw [hDn, hcum], by rw [hDn]; exact hnj, hb1.out, hown0, fun _ h => h, hnr0.out⟩
      case round =>
        clear hb1 hown0 hnr0 hrg0 hcum
        obtain ⟨left, cnt, c, hrg, hcn, hc1, hbw, hown, hleft, hnr⟩ := hrel
        go_wp2_with (at_next; refine wpList_next_ranges _ rfl _ rfl 51 kPer sxR (fun v : Value => v) sxv (fun key kl h => ⟨key, rfl⟩) (fun v y h => ⟨_, (reads_sx.inv v y h).choose_spec.1⟩) (bs j) r (ns j) D left cnt rfl hrg ?_ ?_)
        · intro hc0 hl0
          have hce : c = cum ns (j + 1) := by omega
          rw [hce] at hown
          have HOW := Lib.hid hown
          clear hown hrg hleft hnr hl0
          go_wp2_with fail
          go_roundw
          case rel => exact ⟨j + 1, by omega, by go_num, hbw.out, HOW.out⟩
          case measure => simp [intOf]; omega
        · intro x z1 z2 z3 z4 z5 kl ya yb w1 cnt1 hwx hlx hRc hat hrg1 hlt hg1 hs1 hen
          obtain ⟨_, _, rfl⟩ := HDK.out kl (kPer.key hwx) (hleft.out _ hlx)
          have hxp : x = pv := kPer.inj hwx (perNames.key (x := ()) trivial)
          subst hxp
          have hb2 : Hid (Below W.heap.size W w1) := hbw.out.grown hg1 hbw.out.size (fun k h => by cases h; exact hrge.out)
          have hown1 := hown.kept hg1 (by
            rcases hown.2 with ⟨h0, _⟩ | ⟨g', cap', cur, h0, _⟩
            · left; rw [h0]; rfl
            · right; exact hnr)
          have hleft1 : Hid (∀ l, (left l && !l.sameKey (klit Try.prog 51 (fun _ : Unit => pv) ())) = true → Maps.has D l = true) := fun l h => hleft.out l (by simp at h; exact h.1)
          have hrlt := hrg1.lt
          have hml : Hid (cnt1 < cnt) := hlt
          have hm0 : Hid (wr.rangeLeft (bs j) r = cnt) := hrg.left_eq
          have hcnt : cnt1 = 0 := by omega
          have hcc : c + 1 = cum ns (j + 1) := by omega
          unfold pv at hen ⊢
          unfold sxv at hen ⊢
          obtain ⟨V, hV⟩ : ∃ V, w1.alloc (.cells #[.int .i64 2026, .int .i64 1] 51) = V := ⟨_, rfl⟩
          have x0 : V.cell? ⟨w1.heap.size, 0, none⟩ = some (.int .i64 2026) := by rw [← hV]; simp
          have x1 : V.cell? ⟨w1.heap.size, 1, none⟩ = some (.int .i64 1) := by rw [← hV]; simp
          rw [hs1] at x0 x1
          have hownV := hown1.alloc (.cells #[.int .i64 2026, .int .i64 1] 51)
          have hVs : w1.heap.size < V.heap.size := by rw [← hV]; simp
          have hgV : Hid (w1.grownBy V u3.ownBlock) := by rw [← hV]; exact World.grownBy_alloc _ _ _
          have hbV : Hid (Below W.heap.size W V) := by rw [← hV]; exact balloc hb2.out _
          rw [hV] at hownV
          have hownA := hownV.alloc (.cells #[.int .i64 2026, .int .i64 1] 51)
          have hnews : ∀ j u, [Value.int .i64 2026, .int .i64 1][j]? = some u → (V.alloc (.cells #[.int .i64 2026, .int .i64 1] 51)).cell? ((⟨V.heap.size, 0, none⟩ : Addr).add j) = some u :=
            World.news_of_block (block_alloc_last V (.cells #[.int .i64 2026, .int .i64 1] 51 (0, 0)))
          have HOV := Lib.hid hownV
          obtain ⟨ie, hie, hz0, hz1, hz2⟩ := info_parts infoPer
          have HRG := Lib.hid hrg1
          have HNR := Lib.hid hnr
          have hcle4 : c ≤ 4 := by have := hcle.out; omega
          have HCC := Lib.hid hcc
          clear hcc hcn hcnt hwx hRc hat hlx hrg1 hown hown1 hrg hlt hnr hownV
          go_upto_region 8 with fail
          clear hV
          go_wp2_with (at_builtin; refine wpList_append_lies _ rfl _ _ 49 rfl W.heap.size 51 ie (.agg #[.int .i64 0, .int .i64 0]) 2 16 Try.underlying49 hie hz0 hz1 hz2 rfl (by decide) _ _ _ rfl hownA ⟨V.heap.size, 0, none⟩ 1 1 [.int .i64 2026, .int .i64 1] rfl rfl hnews (by intro u hu; simp at hu; rcases hu with rfl | rfl <;> rfl) (by decide) (by unfold maxLen; omega) (by omega) (by have := hbV.out.size; simp; omega) _ rfl ?_)
          intro g6 cp6 w6 hown2 hgr hat6 hglt
          have hgr1 := grown_alloc hgr (fun j hj => (HOV.out.lt j hj).2)
          have hg16 := hgV.out.trans hgr1
          have hb6 := Lib.hid (hbV.out.grown hgr1 (hbV.out.size) (fun k hk => (HOV.out.lt k hk).1))
          have hrg6 := Lib.hid (HRG.out.kept hg16 (fun e => by have := (HOV.out.lt (bs j) e.symm).1; have := hbl.out; omega) (fun e => HNR.out e.symm))
          have hnr6 : Hid ((Value.slice (some ⟨g6, 0, none⟩) (c + 1) cp6).ownBlock ≠ some r) := fun e => by
            have e2 : g6 = r := by injection e
            rcases hat6 with h | h
            · exact HNR.out (by rw [h, e2])
            · omega
          have how6 : Hid (w6.ownsRow W.heap.size 51 2 (.slice (some ⟨g6, 0, none⟩) (c + 1) cp6) (c + 1) ((us (c + 1)).flatMap encP)) := by
            rw [us_next, List.flatMap_append]
            exact hown2
          clear hown2 hgr hgr1 hg16 hownA hnews hat6 hglt HRG HNR x0 x1
          go_wp2_with fail
          go_roundw
          case rel => exact ⟨_, cnt1, c + 1, hrg6.out, by have := HCC.out; have := hml.out; omega, by have := hml.out; omega, hb6.out, how6.out, hleft1.out, hnr6.out⟩
          case measure => rw [hrg6.out.left_eq, hm0.out]; exact hml.out
    · obtain rfl : j = k := by omega
      have cj' : ¬ (j : Int) < (j : Int) := by omega
      obtain ⟨c, hc⟩ : ∃ c, cum ns j = c := ⟨_, rfl⟩
      rw [hc] at htot hown
      clear hc
      obtain ⟨g, cap, h3, hgb, hgl2⟩ := hown.form (by omega)
      subst h3
      have hcap : c ≤ cap := by
        rcases hown.2 with ⟨hv, _⟩ | ⟨g', cap', cur, hv, _, _, k1, k2, _⟩
        · cases hv
        · injection hv with _ _ e3
          subst e3
          exact k1
      have hH := holdsK_row encP (k := 2) (fun _ => rfl) (by decide) (us_len c) hown
      have HS := psort_is (us c).toArray g 0 cap wr hH hgl2 (by rw [List.size_toArray, us_len]; omega)
      rw [List.size_toArray, us_len] at HS
      have HH := Lib.hid hH
      have HSS := Lib.hid HS
      clear hown hH HS
      go_wp2_with fail
      refine HSS.out.mono ?_
      rintro e w' ⟨rfl, d', q, os, hp, rfl⟩
      have hdz : d'.size = c := by rw [hp.1, List.size_toArray, us_len]
      have hHf := holdsK_sortWorldK_c encP 2 wr g 0 (us c).toArray d' q os HH.out hgl2 hp.1
      have hgz := size_sortWorldK_c encP 2 wr g 0 q d' os
      have hbz : Hid (Below W.heap.size W (sortWorldK encP 2 wr g 0 q d' os)) := by
        unfold sortWorldK putRowK
        have h1 := Lib.below_putRow (enc := id) (q := q) (d := flatK encP 2 d') hbw.out hgb
        exact ⟨h1.os, h1.tape, h1.output, Nat.le_trans h1.size (by show _ ≤ (_ ++ _ : Array Obj).size; rw [Array.size_append]; omega), fun j hj => (Sort.heap_grow_old _ os (Nat.lt_of_lt_of_le hj h1.size)).trans (h1.block j hj)⟩
      have hcell : Hid (∀ i, i < c → (sortWorldK encP 2 wr g 0 q d' os).cell? ⟨g, 2 * i, none⟩ = some (.int .i64 2026) ∧ (sortWorldK encP 2 wr g 0 q d' os).cell? ⟨g, 2 * i + 1, none⟩ = some (.int .i64 1) ∧ (sortWorldK encP 2 wr g 0 q d' os).frozen? ⟨g, 2 * i, none⟩ = false ∧ (sortWorldK encP 2 wr g 0 q d' os).frozen? ⟨g, 2 * i + 1, none⟩ = false) := fun i hi => by
        have h1 := HoldsK.cell hHf (i := i) (c := 0) (by rw [hdz]; exact hi) (by omega)
        have h2 := HoldsK.cell hHf (i := i) (c := 1) (by rw [hdz]; exact hi) (by omega)
        rw [show 0 + i * 2 + 0 = 2 * i by omega] at h1
        rw [show 0 + i * 2 + 1 = 2 * i + 1 by omega] at h2
        exact ⟨h1.1, h2.1, h1.2, h2.2⟩
      have hgY : Hid (g < (sortWorldK encP 2 wr g 0 q d' os).heap.size) := Nat.lt_of_lt_of_le hgl2 hgz
      clear hHf hgz hp hdz HSS HH hbw
      generalize sortWorldK encP 2 wr g 0 q d' os = Y at *
      have hYW : Hid (W.heap.size ≤ Y.heap.size) := hbz.out.size
      rcases (by omega : c = 1 ∨ c = 2) with rfl | rfl
      · obtain ⟨e0, e1, _, _⟩ := hcell.out 0 (by omega)
        have HC := Lib.hid (compact_one g cap Y)
        go_wp2_with fail
        refine HC.out.mono ?_
        rintro e w' ⟨rfl, rfl⟩
        go_wp2_with fail
        go_ret
        exact ⟨g, cap, rfl, e0, e1, hgb, hgY.out, hbz.out⟩
      · obtain ⟨e0, e1, _, _⟩ := hcell.out 0 (by omega)
        obtain ⟨e2, e3, f2, f3⟩ := hcell.out 1 (by omega)
        have HC := Lib.hid (compact_two g cap Y hcap hgY.out e0 e1 e2 e3 f2 f3)
        clear e0 e1 e2 e3 f2 f3
        go_wp2_with fail
        refine HC.out.mono ?_
        rintro e w' ⟨rfl, ho1, ho2, ho3, ho4⟩
        have HO := Lib.hid (And.intro ho1 (And.intro ho2 (And.intro ho3 ho4)))
        clear ho1 ho2 ho3 ho4
        go_wp2_with fail
        go_ret
        exact ⟨g, cap, rfl, HO.out.2.1, HO.out.2.2.1, hgb, HO.out.2.2.2, hbz.out.trans (HO.out.1 _ hgb hYW.out)⟩
end Go.Proofs.Ytnakcmliopcabaa.W
