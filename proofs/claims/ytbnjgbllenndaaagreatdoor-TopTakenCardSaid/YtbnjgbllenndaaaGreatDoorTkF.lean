/- A fact more in the store. -/
import Derived.Test.YtbnjgbllenndaaaGreatDoorTkC
import Derived.Test.YtbnjgbllenndaaaGreatDoorTkE
import Derived.Deep.RegionHeld3
namespace Go.Proofs.YtbnjgbllenndaaaGreatDoor.W
open Go.RowKit Go.Proofs.YtbnjgbllenndaaaGreatDoor.M Go.Proofs.YtbnjgbllenndaaaGreatDoor.S
set_option linter.unusedVariables false

theorem _root_.Go.Proofs.YtbnjgbllenndaaaGreatDoor.M.Lst.set {z : Nat} {w : World} {a : Option Addr} {n : Nat} {c : Nat → List Value} (h : Lst z w a n c) {p : Addr} (hp : ∀ x, a = some x → x.block ≠ p.block) (v : Value) : Lst z (w.setCell p v) a n c :=
  ⟨h.1, fun hn => by
    obtain ⟨b, off, ha, hlt, hc⟩ := h.2 hn
    exact ⟨b, off, ha, by simpa using hlt, fun j hj i u hu => (World.cell?_setCell_far w p ⟨b, off + j * z + i, none⟩ v (fun e => hp _ ha e.symm)).trans (hc j hj i u hu)⟩⟩
def app (F : Nat → Fc) (n : Nat) (x : Fc) : Nat → Fc := fun j => if j < n then F j else x
def AddOut (F : Nat → Fc) (n : Nat) (W : World) (e : Ending) (w' : World) : Prop := ∃ a cap, e = .returned (.tuple #[st a n cap, .int .i64 0]) ∧ Lst 8 w' a n (fun j => fcl (F j)) ∧ (n ≤ cap ∧ cap ≤ maxLen) ∧ (a = none → n = 0) ∧ Below W.heap.size W w' ∧ ∀ x, a = some x → W.heap.size ≤ x.block
theorem infoFact : (Tryz.prog.info? 38).map (fun i => (i.zero, i.size, i.bytes)) = some (some (.agg #[.int .u32 0, .int .u32 0, .int .i64 0, .int .i64 0, .int .i64 0, .string ⟨#[]⟩, .int .i64 0, .string ⟨#[]⟩]), 8, 72) := by kernel_rfl

theorem keep8 {V : World} {g o b p : Nat} {v u0 u1 u2 u3 u4 u5 u6 u7 : Value} (h : V.cell? ⟨b, p, none⟩ = some v) (hne : b ≠ g) : ((((((((V.setCell ⟨g, o, none⟩ u0).setCell ⟨g, o + 1, none⟩ u1).setCell ⟨g, o + 2, none⟩ u2).setCell ⟨g, o + 3, none⟩ u3).setCell ⟨g, o + 4, none⟩ u4).setCell ⟨g, o + 5, none⟩ u5).setCell ⟨g, o + 6, none⟩ u6).setCell ⟨g, o + 7, none⟩ u7).cell? ⟨b, p, none⟩ = some v := by
  have hn : ∀ q : Nat, (⟨g, q, none⟩ : Addr).block ≠ (⟨b, p, none⟩ : Addr).block := fun _ e => hne e.symm
  rw [World.cell?_setCell_far _ _ _ _ (hn _), World.cell?_setCell_far _ _ _ _ (hn _), World.cell?_setCell_far _ _ _ _ (hn _), World.cell?_setCell_far _ _ _ _ (hn _), World.cell?_setCell_far _ _ _ _ (hn _), World.cell?_setCell_far _ _ _ _ (hn _), World.cell?_setCell_far _ _ _ _ (hn _), World.cell?_setCell_far _ _ _ _ (hn _)]
  exact h
theorem chain8 (V : World) (g o : Nat) (u0 u1 u2 u3 u4 u5 u6 u7 : Value) : ((((((((V.setCell ⟨g, o, none⟩ u0).setCell ⟨g, o + 1, none⟩ u1).setCell ⟨g, o + 2, none⟩ u2).setCell ⟨g, o + 3, none⟩ u3).setCell ⟨g, o + 4, none⟩ u4).setCell ⟨g, o + 5, none⟩ u5).setCell ⟨g, o + 6, none⟩ u6).setCell ⟨g, o + 7, none⟩ u7) = V.setCells g o [u0, u1, u2, u3, u4, u5, u6, u7] := rfl
set_option maxRecDepth 100000 in
set_option maxHeartbeats 4000000 in
theorem add_is (F : Nat → Fc) (n : Nat) (hn : n ≤ 100) (x : Fc) (a : Option Addr) (cap : Nat) (W : World) (hl : Lst 8 W a n (fun j => fcl (F j))) (hcap : n ≤ cap ∧ cap ≤ maxLen) (hnil : a = none → n = 0)
    (hck : ∀ w, Calls Tryz.prog 13 #[fv x] w fun e w' => e = .returned (.int .i64 0) ∧ Below w.heap.size w w')
    (hca : ∀ w, Lst 8 w a n (fun j => fcl (F j)) → Calls Tryz.prog 15 #[st a n cap, fv x] w fun e w' => e = .returned (.int .i64 0) ∧ Below w.heap.size w w') :
    Calls Tryz.prog 6 #[st a n cap, fv x] W (AddOut (app F n x) (n + 1) W) := by
  have HPL := Lib.hid (fun w => place_is a n cap w)
  have HCK := Lib.hid hck
  have HCA := Lib.hid hca
  have HL := Lib.hid hl
  have c1 : ¬ (4096 : Int) ≤ (n : Int) := by omega
  obtain ⟨N, hN⟩ : ∃ N, n + 1 = N := ⟨_, rfl⟩
  have HN := Lib.hid hN
  have w1 : IntKind.i64.wrap ((n : Int) + 1) = (N : Int) := by rw [IntWalk.i64_in _ (by omega)]; omega
  have hNn : (n : Int) < (N : Int) := by omega
  obtain ⟨per, kind, fr, en, num⟩ := x
  rw [hN]
  clear hck hca hl hN
  unfold fv st at *
  obtain ⟨U, hU⟩ : ∃ U, (((W.alloc (.cells #[.slice a n cap] 30)).alloc (.cells #[.int .u32 0, .int .u32 per, .int .i64 kind, .int .i64 fr, .int .i64 en, .string ⟨#[]⟩, .int .i64 num, .string ⟨#[]⟩] 38)).alloc (.cells #[.slice none 0 0] 30)) = U := ⟨_, rfl⟩
  have hBU : Hid (Below W.heap.size W U) := by rw [← hU]; exact balloc (balloc (balloc (Below.refl _ _) _) _) _
  have s0 : U.cell? ⟨W.heap.size, 0, none⟩ = some (.slice a n cap) := by rw [← hU]; clear hU; go_simp
  have x0 : U.cell? ⟨W.heap.size + 1, 0, none⟩ = some (.int .u32 0) := by rw [← hU]; clear hU; go_simp
  have x1 : U.cell? ⟨W.heap.size + 1, 1, none⟩ = some (.int .u32 per) := by rw [← hU]; clear hU; go_simp
  have x2 : U.cell? ⟨W.heap.size + 1, 2, none⟩ = some (.int .i64 kind) := by rw [← hU]; clear hU; go_simp
  have x3 : U.cell? ⟨W.heap.size + 1, 3, none⟩ = some (.int .i64 fr) := by rw [← hU]; clear hU; go_simp
  have x4 : U.cell? ⟨W.heap.size + 1, 4, none⟩ = some (.int .i64 en) := by rw [← hU]; clear hU; go_simp
  have x5 : U.cell? ⟨W.heap.size + 1, 5, none⟩ = some (.string ⟨#[]⟩) := by rw [← hU]; clear hU; go_simp
  have x6 : U.cell? ⟨W.heap.size + 1, 6, none⟩ = some (.int .i64 num) := by rw [← hU]; clear hU; go_simp
  have x7 : U.cell? ⟨W.heap.size + 1, 7, none⟩ = some (.string ⟨#[]⟩) := by rw [← hU]; clear hU; go_simp
  have r0 : U.cell? ⟨W.heap.size + 1 + 1, 0, none⟩ = some (.slice none 0 0) := by rw [← hU]; clear hU; go_simp
  have rf : U.frozen? ⟨W.heap.size + 1 + 1, 0, none⟩ = false := by rw [← hU]; exact World.frozen?_alloc_at _ _ _ _ (by simp)
  have us : U.heap.size = W.heap.size + 1 + 1 + 1 := by rw [← hU]; simp
  have HU := Lib.hid us
  have H0 := Lib.hid (And.intro s0 (And.intro x0 (And.intro x1 (And.intro x2 (And.intro x3 (And.intro x4 (And.intro x5 (And.intro x6 (And.intro x7 (And.intro r0 rf))))))))))
  go_enter Tryz.func6, Tryz.ntmps6
  go_upto_region 1 with fail
  clear hU us
  go_wp2_with fail
  refine (HCK.out _).mono ?_
  rintro e v1 ⟨rfl, hb1⟩
  clear s0 x0 x1 x2 x3 x4 x5 x6 x7 r0 rf
  have HB1 := Lib.hid hb1
  clear hb1
  have s0 := bc HB1.out (by have := HU.out; omega) H0.out.1
  have x0 := bc HB1.out (by have := HU.out; omega) H0.out.2.1
  go_wp2_with fail
  refine (HPL.out _).mono ?_
  rintro e v2 ⟨rfl, hb2⟩
  have HB2 := Lib.hid (bstep HB1.out hb2)
  clear hb2 s0 x0
  have s0 := bc HB2.out (by have := HU.out; omega) H0.out.1
  have x0 := bc HB2.out (by have := HU.out; omega) H0.out.2.1
  have x1 := bc HB2.out (by have := HU.out; omega) H0.out.2.2.1
  have x2 := bc HB2.out (by have := HU.out; omega) H0.out.2.2.2.1
  have x3 := bc HB2.out (by have := HU.out; omega) H0.out.2.2.2.2.1
  have x4 := bc HB2.out (by have := HU.out; omega) H0.out.2.2.2.2.2.1
  have x5 := bc HB2.out (by have := HU.out; omega) H0.out.2.2.2.2.2.2.1
  have x6 := bc HB2.out (by have := HU.out; omega) H0.out.2.2.2.2.2.2.2.1
  have x7 := bc HB2.out (by have := HU.out; omega) H0.out.2.2.2.2.2.2.2.2.1
  go_wp2_with fail
  refine (HCA.out _ (HL.out.step (bstep hBU.out HB2.out))).mono ?_
  rintro e v3 ⟨rfl, hb3⟩
  have HB3 := Lib.hid (bstep HB2.out hb3)
  clear hb3 s0 x0 x1 x2 x3 x4 x5 x6 x7
  obtain ⟨ie, hie, hi0, hi1, hi2⟩ := info_parts infoFact
  have HGE : Hid (U.heap.size ≤ v3.heap.size) := HB3.out.size
  obtain ⟨v4, hmk, hown, hg4⟩ := run_makeSlice_full (P := Tryz.prog) (w := v3) v3.heap.size 28 38 ie _ 8 Tryz.underlying28 hie hi0 hi1 .i64 .i64 N (by have := HN.out; omega) (by rw [hi2]; have := HN.out; omega) (by unfold maxLen; have := HN.out; omega) (Nat.le_refl _)
  have hmk' : Sem.run Tryz.prog (Instr.makeSlice 28 (.int .i64 (N : Int)) (.int .i64 (N : Int))) v3 = .ok (.slice (some ⟨v3.heap.size, 0, none⟩) N N) v4 := hmk
  clear hmk
  have HOW := Lib.hid hown
  have HB4 : Hid (Below U.heap.size U v4) := HB3.out.grown hg4 HB3.out.size (fun k h => by cases h)
  clear hown hg4
  go_upto_region 13 with fail
  obtain ⟨g, hg⟩ : ∃ g, v3.heap.size = g := ⟨_, rfl⟩
  rw [hg] at HOW HGE ⊢
  clear hg hmk'
  obtain ⟨cs, hcs⟩ : ∃ cs, XR (fun j => fcl (F j)) n = cs := ⟨_, rfl⟩
  have hcl : cs.length = n * 8 := by rw [← hcs]; exact XR_len (z := 8) (c := fun j => fcl (F j)) (fun _ => rfl) n
  have hone : ∀ v ∈ cs, v.oneCell' = true := by
    rw [← hcs]
    exact XR_one (z := 8) (fun j u hu => by simp [fcl] at hu; rcases hu with rfl | rfl | rfl | rfl | rfl | rfl | rfl | rfl <;> rfl) n
  have hth : v4.drew.there g 0 (N * 8) := fun j hj => by
    have hlen : j < (madeCells (Value.agg #[.int .u32 0, .int .u32 0, .int .i64 0, .int .i64 0, .int .i64 0, .string ⟨#[]⟩, .int .i64 0, .string ⟨#[]⟩]).cells (N * 8)).toList.length := by rw [Array.length_toList, size_madeCells]; exact hj
    rw [Nat.zero_add]
    exact ⟨by rw [show v4.drew.cell? ⟨g, j, none⟩ = v4.cell? ⟨g, j, none⟩ from rfl, HOW.out.cellAt j hj, List.getElem?_eq_getElem hlen]; rfl, HOW.out.frozenAt j⟩
  have hsrc : ∀ z, a = some z → ∀ j v, cs[j]? = some v → v4.drew.cell? (z.add j) = some v := fun z hz j v hv => by
    rw [← hcs] at hv
    exact Lst.cells (z := 8) (c := fun j => fcl (F j)) (fun _ => rfl) (by decide) (HL.out.step (bstep hBU.out HB4.out)) hz j v hv
  have hmin : Nat.min n N = n := Nat.min_eq_left (by have := HN.out; omega)
  have hcp0 := fun ty => run_copy_mid (P := Tryz.prog) v4.drew 28 28 ty 38 8 g N N a n cap cs Tryz.underlying28 (by kernel_rfl) (by rw [hmin]; exact hcl) hnil hsrc (fun j hj => hth j (by rw [hcl] at hj; have := HN.out; omega)) hone
  obtain ⟨V5, hV5⟩ : ∃ V, v4.drew.setCells g 0 cs = V := ⟨_, rfl⟩
  have hcp : ∀ ty, Sem.run Tryz.prog (Builtin.copy_ #[28, 28] ty #[.slice (some ⟨g, 0, none⟩) N N, .slice a n cap]) v4.drew = .ok (.int .i64 (n : Int)) V5 := fun ty => by
    have := hcp0 ty
    rw [hmin, hV5] at this
    exact this
  have HB5 : Hid (Below U.heap.size U V5) := by
    rw [← hV5]
    exact below_setCells g HGE.out cs 0 _ (below_drewN HB4.out 1)
  have hth5 : V5.there g 0 (N * 8) := fun j hj => by
    obtain ⟨q1, q2⟩ := hth j hj
    rw [← hV5]
    exact ⟨World.isSome_setCells g cs 0 _ _ q1, by rw [World.frozen?_setCells]; exact q2⟩
  have hr5 : V5.rangeAt g 0 cs := by
    rw [← hV5]
    exact World.rangeAt_setCells_same _ g 0 cs (fun j hj => hth j (by rw [hcl] at hj; have := HN.out; omega))
  have HTH := Lib.hid hth5
  have HR5 := Lib.hid hr5
  have HCS := Lib.hid (And.intro hcs hcl)
  have h8 : ∀ k, k < 8 → (V5.cell? ⟨g, n * 8 + k, none⟩).isSome = true ∧ V5.frozen? ⟨g, n * 8 + k, none⟩ = false := fun k hk => by
    have := hth5 (n * 8 + k) (by have := HN.out; omega)
    rwa [Nat.zero_add] at this
  obtain ⟨⟨t0, k0⟩, f0⟩ : (∃ t, V5.cell? ⟨g, n * 8, none⟩ = some t) ∧ V5.frozen? ⟨g, n * 8, none⟩ = false := ⟨Option.isSome_iff_exists.1 (h8 0 (by decide)).1, (h8 0 (by decide)).2⟩
  obtain ⟨⟨t1, k1⟩, f1⟩ : (∃ t, V5.cell? ⟨g, n * 8 + 1, none⟩ = some t) ∧ V5.frozen? ⟨g, n * 8 + 1, none⟩ = false := ⟨Option.isSome_iff_exists.1 (h8 1 (by decide)).1, (h8 1 (by decide)).2⟩
  obtain ⟨⟨t2, k2⟩, f2⟩ : (∃ t, V5.cell? ⟨g, n * 8 + 2, none⟩ = some t) ∧ V5.frozen? ⟨g, n * 8 + 2, none⟩ = false := ⟨Option.isSome_iff_exists.1 (h8 2 (by decide)).1, (h8 2 (by decide)).2⟩
  obtain ⟨⟨t3, k3⟩, f3⟩ : (∃ t, V5.cell? ⟨g, n * 8 + 3, none⟩ = some t) ∧ V5.frozen? ⟨g, n * 8 + 3, none⟩ = false := ⟨Option.isSome_iff_exists.1 (h8 3 (by decide)).1, (h8 3 (by decide)).2⟩
  obtain ⟨⟨t4, k4⟩, f4⟩ : (∃ t, V5.cell? ⟨g, n * 8 + 4, none⟩ = some t) ∧ V5.frozen? ⟨g, n * 8 + 4, none⟩ = false := ⟨Option.isSome_iff_exists.1 (h8 4 (by decide)).1, (h8 4 (by decide)).2⟩
  obtain ⟨⟨t5, k5⟩, f5⟩ : (∃ t, V5.cell? ⟨g, n * 8 + 5, none⟩ = some t) ∧ V5.frozen? ⟨g, n * 8 + 5, none⟩ = false := ⟨Option.isSome_iff_exists.1 (h8 5 (by decide)).1, (h8 5 (by decide)).2⟩
  obtain ⟨⟨t6, k6⟩, f6⟩ : (∃ t, V5.cell? ⟨g, n * 8 + 6, none⟩ = some t) ∧ V5.frozen? ⟨g, n * 8 + 6, none⟩ = false := ⟨Option.isSome_iff_exists.1 (h8 6 (by decide)).1, (h8 6 (by decide)).2⟩
  obtain ⟨⟨t7, k7⟩, f7⟩ : (∃ t, V5.cell? ⟨g, n * 8 + 7, none⟩ = some t) ∧ V5.frozen? ⟨g, n * 8 + 7, none⟩ = false := ⟨Option.isSome_iff_exists.1 (h8 7 (by decide)).1, (h8 7 (by decide)).2⟩
  clear h8 hth5 hr5 hth hsrc hcp0 hV5 hone hcs hcl hmin
  have s0 := bc HB4.out (by have := HU.out; omega) H0.out.1
  have x0 := bc HB4.out (by have := HU.out; omega) H0.out.2.1
  have x1 := bc HB4.out (by have := HU.out; omega) H0.out.2.2.1
  have x2 := bc HB4.out (by have := HU.out; omega) H0.out.2.2.2.1
  have x3 := bc HB4.out (by have := HU.out; omega) H0.out.2.2.2.2.1
  have x4 := bc HB4.out (by have := HU.out; omega) H0.out.2.2.2.2.2.1
  have x5 := bc HB4.out (by have := HU.out; omega) H0.out.2.2.2.2.2.2.1
  have x6 := bc HB4.out (by have := HU.out; omega) H0.out.2.2.2.2.2.2.2.1
  have x7 := bc HB4.out (by have := HU.out; omega) H0.out.2.2.2.2.2.2.2.2.1
  have ys0 := bc HB5.out (by have := HU.out; omega) H0.out.1
  have yx0 := bc HB5.out (by have := HU.out; omega) H0.out.2.1
  have yx1 := bc HB5.out (by have := HU.out; omega) H0.out.2.2.1
  have yx2 := bc HB5.out (by have := HU.out; omega) H0.out.2.2.2.1
  have yx3 := bc HB5.out (by have := HU.out; omega) H0.out.2.2.2.2.1
  have yx4 := bc HB5.out (by have := HU.out; omega) H0.out.2.2.2.2.2.1
  have yx5 := bc HB5.out (by have := HU.out; omega) H0.out.2.2.2.2.2.2.1
  have yx6 := bc HB5.out (by have := HU.out; omega) H0.out.2.2.2.2.2.2.2.1
  have yx7 := bc HB5.out (by have := HU.out; omega) H0.out.2.2.2.2.2.2.2.2.1
  have hne0 : W.heap.size ≠ g := by have := HGE.out; have := HU.out; omega
  have hne1 : W.heap.size + 1 ≠ g := by have := HGE.out; have := HU.out; omega
  go_region
  rw [chain8]
  have HX6 : Hid (V5.setCells g (n * 8) [.int .u32 0, .int .u32 per, .int .i64 kind, .int .i64 fr, .int .i64 en, .string ⟨#[]⟩, .int .i64 num, .string ⟨#[]⟩] = V5.setCells g (n * 8) (fcl ⟨per, kind, fr, en, num⟩)) := rfl
  have hB6 := Lib.hid (below_setCells g HGE.out (fcl ⟨per, kind, fr, en, num⟩) (n * 8) V5 HB5.out)
  have ht8 : V5.there g (n * 8) 8 := fun j hj => by
    have := HTH.out (n * 8 + j) (by have := HN.out; omega)
    rwa [Nat.zero_add] at this
  have hsame : (V5.setCells g (n * 8) (fcl ⟨per, kind, fr, en, num⟩)).rangeAt g (n * 8) (fcl ⟨per, kind, fr, en, num⟩) := World.rangeAt_setCells_same V5 g (n * 8) _ ht8
  have hold := World.rangeAt_setCells_apart HR5.out g (n * 8) (fcl ⟨per, kind, fr, en, num⟩) (.inr (.inl (by rw [HCS.out.2]; omega)))
  have hgs : g < (V5.setCells g (n * 8) (fcl ⟨per, kind, fr, en, num⟩)).heap.size := by
    rw [size_setCells]
    obtain ⟨h1, _⟩ := ht8 0 (by decide)
    obtain ⟨v, hv⟩ := Option.isSome_iff_exists.1 h1
    exact World.block_lt_of_cell? _ _ hv
  have hlst : Hid (Lst 8 (V5.setCells g (n * 8) (fcl ⟨per, kind, fr, en, num⟩)) (some ⟨g, 0, none⟩) N (fun j => fcl (app F n ⟨per, kind, fr, en, num⟩ j))) := ⟨by have := HN.out; omega, fun _ => ⟨g, 0, rfl, hgs, fun j hj i u hu => by
    unfold app at hu
    by_cases c : j < n
    · simp only [if_pos c] at hu
      have h1 := XR_at (z := 8) (c := fun j => fcl (F j)) (fun _ => rfl) n j c i u hu
      rw [HCS.out.1] at h1
      have h2 := hold _ _ h1
      rw [show 0 + (j * 8 + i) = 0 + j * 8 + i by omega] at h2
      exact h2
    · simp only [if_neg c] at hu
      have : j = n := by have := HN.out; omega
      subst this
      rw [Nat.zero_add]
      exact hsame _ _ hu⟩⟩
  rw [HX6.out]
  clear hsame hold ht8 HX6 HTH HR5 HCS k0 f0 k1 f1 k2 f2 k3 f3 k4 f4 k5 f5 k6 f6 k7 f7 s0 x0 x1 x2 x3 x4 x5 x6 x7 ys0 yx0 yx1 yx2 yx3 yx4 yx5 yx6 yx7
  generalize V5.setCells g (n * 8) (fcl ⟨per, kind, fr, en, num⟩) = V6 at *
  have r0 := bc hB6.out (by have := HU.out; omega) H0.out.2.2.2.2.2.2.2.2.2.1
  have rf := bf hB6.out (by have := HU.out; omega) H0.out.2.2.2.2.2.2.2.2.2.2
  have HG2 : Hid (g ≠ W.heap.size + 1 + 1) := by show _ ≠ _; have := HGE.out; have := HU.out; omega
  have HBW := Lib.hid (bstep hBU.out hB6.out)
  clear hgs hne0 hne1
  go_wp2_with fail
  have y0 : (V6.setCell ⟨W.heap.size + 1 + 1, 0, none⟩ (.slice (some ⟨g, 0, none⟩) N N)).cell? ⟨W.heap.size + 1 + 1, 0, none⟩ = some (.slice (some ⟨g, 0, none⟩) N N) := World.cell?_setCell_same _ _ _ r0
  exact bodyPost_ret (v := .tuple #[.agg #[.slice (some ⟨g, 0, none⟩) N N], .int .i64 0]) (by simp [results, Tryz.results6, go_sem, y0]) rfl ⟨_, _, rfl, hlst.out.set (fun x hx => by injection hx with hx; subst hx; exact HG2.out) _, ⟨Nat.le_refl _, by unfold maxLen; have := HN.out; omega⟩, (fun h => by cases h), HBW.out.setCell (p := ⟨W.heap.size + 1 + 1, 0, none⟩) (by show W.heap.size ≤ W.heap.size + 1 + 1; omega) _, (fun x hx => by injection hx with hx; subst hx; show W.heap.size ≤ g; have := HGE.out; have := HU.out; omega)⟩
end Go.Proofs.YtbnjgbllenndaaaGreatDoor.W
