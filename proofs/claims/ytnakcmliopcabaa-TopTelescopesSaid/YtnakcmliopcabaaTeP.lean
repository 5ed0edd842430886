/- The difference of two slips: delta.Of. -/
import Derived.Test.YtnakcmliopcabaaTeJ
import Derived.Test.YtnakcmliopcabaaTeF
import Derived.Test.YtnakcmliopcabaaTeH
import Derived.Test.YtnakcmliopcabaaMapE
namespace Go.Proofs.Ytnakcmliopcabaa.S
open Go.Proofs.Ytnakcmliopcabaa.M
set_option linter.unusedVariables false
/-- A table as its first q lines tell it. -/
def partT (B : Nat → Int) (q : Nat) : Nat → Int := fun i => if i ∈ (idx B 28).take q then B i else 0
theorem part_zero (B : Nat → Int) : partT B 0 = fun _ => 0 := by funext i; simp [partT]
theorem partT_all (B : Nat → Int) {i : Nat} (hi : i < 28) : partT B (ln B) i = B i := by
  unfold partT ln
  rw [List.take_length]
  by_cases c : i ∈ idx B 28
  · rw [if_pos c]
  · rw [if_neg c]
    by_cases h : B i = 0
    · exact h.symm
    · exact absurd ((idx_mem B i 28).2 ⟨hi, h⟩) c
theorem part_next {B : Nat → Int} {q : Nat} (h : q < ln B) (i : Nat) : partT B (q + 1) i = if i = at_ B q then B i else partT B q i := by
  unfold partT
  rw [List.take_add_one, at_get h]
  by_cases c : i = at_ B q
  · rw [if_pos c, if_pos (by rw [c]; simp)]
  · rw [if_neg c]
    simp [c]
theorem part_new {B : Nat → Int} {q : Nat} (h : q < ln B) : partT B q (at_ B q) = 0 := by
  unfold partT
  rw [if_neg]
  intro hm
  obtain ⟨p, hp, e⟩ := List.getElem_of_mem hm
  rw [List.length_take] at hp
  have h1 : p < q := by omega
  have h2 := at_up (T := B) h1 h
  have h3 : at_ B p = at_ B q := by
    have h4 := at_get (T := B) (q := p) (by omega)
    rw [List.getElem?_eq_getElem (show p < (idx B 28).length by omega)] at h4
    rw [List.getElem_take] at e
    rw [e] at h4
    injection h4 with h4
    exact h4.symm
  omega
end Go.Proofs.Ytnakcmliopcabaa.S
namespace Go.Proofs.Ytnakcmliopcabaa.W
open Go.RowKit Go.Proofs.Ytnakcmliopcabaa.M Go.Proofs.Ytnakcmliopcabaa.S
open Go.Maps (Keyed)
set_option linter.unusedVariables false

def LinesOut (T : Nat → Int) (W : World) (e : Ending) (w' : World) : Prop := ∃ a' cap', e = .returned (.slice a' (ln T) cap') ∧ Lst 3 w' a' (ln T) (lcs T) ∧ (ln T ≤ cap' ∧ cap' ≤ maxLen) ∧ (a' = none → ln T = 0 ∧ cap' = 0) ∧ Below W.heap.size W w' ∧ ∀ x, a' = some x → W.heap.size ≤ x.block
theorem _root_.Go.Proofs.Ytnakcmliopcabaa.M.Lst.set {z : Nat} {w : World} {a : Option Addr} {n : Nat} {c : Nat → List Value} (h : Lst z w a n c) {p : Addr} (hp : ∀ x, a = some x → x.block ≠ p.block) (v : Value) : Lst z (w.setCell p v) a n c :=
  ⟨h.1, fun hn => by
    obtain ⟨b, off, ha, hlt, hc⟩ := h.2 hn
    exact ⟨b, off, ha, by simpa using hlt, fun j hj i u hu => (World.cell?_setCell_far w p ⟨b, off + j * z + i, none⟩ v (fun e => hp _ ha e.symm)).trans (hc j hj i u hu)⟩⟩
def OfOut (T : Nat → Int) (W : World) (e : Ending) (w' : World) : Prop := ∃ a cap, e = .returned (.tuple #[sv a (ln T) cap, .int .i64 0]) ∧ Lst 3 w' a (ln T) (lcs T) ∧ (ln T ≤ cap ∧ cap ≤ maxLen) ∧ (a = none → ln T = 0 ∧ cap = 0) ∧ Below W.heap.size W w' ∧ ∀ x, a = some x → W.heap.size ≤ x.block
/-- The earlier slip: none, or one of the period. -/
def Was (y i : Int) (nb : Bool) (A : Nat → Int) (a1 : Option Addr) (cap1 : Nat) : Prop :=
  (∀ W, Lst 3 W a1 (ln A) (lcs A) → Calls Try.prog 23 #[.agg #[.int .i64 y, .int .i64 i, .slice a1 (ln A) cap1]] W fun e w' => e = .returned (.int .i64 0) ∧ Below W.heap.size W w') ∧
  (∀ W, Calls Try.prog 13 #[.agg #[.int .i64 y, .int .i64 i, .slice a1 (ln A) cap1]] W fun e w' => e = .returned (.bool nb) ∧ Below W.heap.size W w') ∧ (nb = false → y = 2026 ∧ i = 1)
theorem was_slip (A : Nat → Int) (hA : small BB A) (a1 : Option Addr) (cap1 : Nat) : Was 2026 1 false A a1 cap1 :=
  ⟨fun W h => wrong_not A hA a1 cap1 W h, fun W => none_not a1 (ln A) cap1 W, fun _ => ⟨rfl, rfl⟩⟩
theorem ln_zero : ln (fun _ => 0) = 0 := by unfold ln; rw [idx_none 28 (fun _ _ => rfl)]; rfl
theorem was_none : Was 0 0 true (fun _ => 0) none 0 :=
  ⟨fun W h => by rw [ln_zero]; exact wrong_none W, fun W => by rw [ln_zero]; exact none_is W, (fun h => by cases h)⟩

set_option maxRecDepth 100000 in
set_option maxHeartbeats 4000000 in
theorem of_is (lines_is : ∀ (T : Nat → Int) (f : Nat → Option Int) (b n : Nat) (W : World), MapS W b n f → n ≤ 100 → (∀ i, i < 28 → T i = (f i).getD 0) → Calls Try.prog 24 #[.map (some b)] W (LinesOut T W)) (y i : Int) (nb : Bool) (A B : Nat → Int) (hA : small BB A) (hB : small BB B) (a1 : Option Addr) (cap1 : Nat) (hw : Was y i nb A a1 cap1) (a2 : Option Addr) (cap2 : Nat) (W : World) (h1 : Lst 3 W a1 (ln A) (lcs A)) (h2 : Lst 3 W a2 (ln B) (lcs B)) :
    Calls Try.prog 12 #[.agg #[.int .i64 y, .int .i64 i, .slice a1 (ln A) cap1], sv a2 (ln B) cap2] W (OfOut (fun i => B i - A i) W) := by
  obtain ⟨hw1, hw2, hw3⟩ := hw
  have HW1 := Lib.hid hw1
  have HW2 := Lib.hid hw2
  have HW3 := Lib.hid hw3
  have HN := Lib.hid (fun w => none_not a2 (ln B) cap2 w)
  have HWR := Lib.hid (fun (w : World) h => wrong_not B hB a2 cap2 w h)
  have HL1 := Lib.hid h1
  have HL2 := Lib.hid h2
  have HLN := Lib.hid lines_is
  clear hw1 hw2 hw3 h1 h2 lines_is
  unfold sv at *
  have hmm := @run_makeMap Try.prog
  go_enter Try.func12, Try.ntmps12
  go_upto_region 1 with fail
  have u0 : (((W.alloc (.cells #[.int .i64 y, .int .i64 i, .slice a1 (ln A) cap1] 29)).alloc (.cells #[.int .i64 2026, .int .i64 1, .slice a2 (ln B) cap2] 29)).alloc (.cells #[.int .i64 0, .int .i64 0, .slice none 0 0] 29)) = (((W.alloc (.cells #[.int .i64 y, .int .i64 i, .slice a1 (ln A) cap1] 29)).alloc (.cells #[.int .i64 2026, .int .i64 1, .slice a2 (ln B) cap2] 29)).alloc (.cells #[.int .i64 0, .int .i64 0, .slice none 0 0] 29)) := rfl
  clear u0
  obtain ⟨U, hU⟩ : ∃ U, (((W.alloc (.cells #[.int .i64 y, .int .i64 i, .slice a1 (ln A) cap1] 29)).alloc (.cells #[.int .i64 2026, .int .i64 1, .slice a2 (ln B) cap2] 29)).alloc (.cells #[.int .i64 0, .int .i64 0, .slice none 0 0] 29)) = U := ⟨_, rfl⟩
  have hBU : Hid (Below W.heap.size W U) := by rw [← hU]; exact balloc (balloc (balloc (Below.refl _ _) _) _) _
  have a0 : U.cell? ⟨W.heap.size, 0, none⟩ = some (.int .i64 y) := by rw [← hU]; clear hU; go_simp
  have a1' : U.cell? ⟨W.heap.size, 1, none⟩ = some (.int .i64 i) := by rw [← hU]; clear hU; go_simp
  have a2' : U.cell? ⟨W.heap.size, 2, none⟩ = some (.slice a1 (ln A) cap1) := by rw [← hU]; clear hU; go_simp
  have b0 : U.cell? ⟨W.heap.size + 1, 0, none⟩ = some (.int .i64 2026) := by rw [← hU]; clear hU; go_simp
  have b1 : U.cell? ⟨W.heap.size + 1, 1, none⟩ = some (.int .i64 1) := by rw [← hU]; clear hU; go_simp
  have b2 : U.cell? ⟨W.heap.size + 1, 2, none⟩ = some (.slice a2 (ln B) cap2) := by rw [← hU]; clear hU; go_simp
  have r0 : U.cell? ⟨W.heap.size + 1 + 1, 0, none⟩ = some (.int .i64 0) := by rw [← hU]; clear hU; go_simp
  have r1 : U.cell? ⟨W.heap.size + 1 + 1, 1, none⟩ = some (.int .i64 0) := by rw [← hU]; clear hU; go_simp
  have r2 : U.cell? ⟨W.heap.size + 1 + 1, 2, none⟩ = some (.slice none 0 0) := by rw [← hU]; clear hU; go_simp
  have rf : ∀ o, U.frozen? ⟨W.heap.size + 1 + 1, o, none⟩ = false := fun o => by rw [← hU]; exact World.frozen?_alloc_at _ _ _ _ (by simp)
  have us : U.heap.size = W.heap.size + 1 + 1 + 1 := by rw [← hU]; simp
  rw [hU]
  clear hU
  have hus := Lib.hid us
  have hAB := Lib.hid (And.intro a0 (And.intro a1' (And.intro a2' (And.intro b0 (And.intro b1 b2)))))
  have hR := Lib.hid (And.intro r0 (And.intro r1 (And.intro r2 rf)))
  clear r0 r1 r2 rf us
  go_wp2_with fail
  refine (HW1.out _ (HL1.out.step hBU.out)).mono ?_
  rintro e w1 ⟨rfl, hb1⟩
  clear a0 a1' a2' b0 b1 b2
  have hB1 := Lib.hid hb1
  clear hb1
  have b0 := bc hB1.out (by have := hus.out; omega) hAB.out.2.2.2.1
  have b1 := bc hB1.out (by have := hus.out; omega) hAB.out.2.2.2.2.1
  have b2 := bc hB1.out (by have := hus.out; omega) hAB.out.2.2.2.2.2
  go_wp2_with fail
  refine (HWR.out _ (HL2.out.step (bstep hBU.out hB1.out))).mono ?_
  rintro e w2 ⟨rfl, hb2⟩
  clear b0 b1 b2
  have hB2 := Lib.hid (bstep hB1.out hb2)
  clear hb2 hB1
  have b0 := bc hB2.out (by have := hus.out; omega) hAB.out.2.2.2.1
  have b1 := bc hB2.out (by have := hus.out; omega) hAB.out.2.2.2.2.1
  have b2 := bc hB2.out (by have := hus.out; omega) hAB.out.2.2.2.2.2
  go_upto_region 8 with fail
  have hBW2 := Lib.hid (balloc (bstep hBU.out hB2.out) (.cells #[.int .i64 2026, .int .i64 1, .slice a2 (ln B) cap2] 29))
  have hB3 := Lib.hid (balloc hB2.out (.cells #[.int .i64 2026, .int .i64 1, .slice a2 (ln B) cap2] 29))
  have h0 : (w2.alloc (.cells #[.int .i64 2026, .int .i64 1, .slice a2 (ln B) cap2] 29)).cell? ⟨w2.heap.size, 0, none⟩ = some (.int .i64 2026) := by simp
  have h1 : (w2.alloc (.cells #[.int .i64 2026, .int .i64 1, .slice a2 (ln B) cap2] 29)).cell? ⟨w2.heap.size, 1, none⟩ = some (.int .i64 1) := by simp
  have hs : w2.heap.size < (w2.alloc (.cells #[.int .i64 2026, .int .i64 1, .slice a2 (ln B) cap2] 29)).heap.size := by simp
  have hq : U.heap.size ≤ w2.heap.size := hB2.out.size
  clear b0 b1 b2 hB2
  generalize w2.alloc (.cells #[.int .i64 2026, .int .i64 1, .slice a2 (ln B) cap2] 29) = V at *
  obtain ⟨P, hP⟩ : ∃ P, w2.heap.size = P := ⟨_, rfl⟩
  rw [hP] at h0 h1 hs hq ⊢
  have HQ : Hid (U.heap.size ≤ P) := hq
  have HH := Lib.hid (And.intro h0 (And.intro h1 hs))
  clear hP h0 h1 hs hq
  have b0 := bc hB3.out (by have := hus.out; omega) hAB.out.2.2.2.1
  have b1 := bc hB3.out (by have := hus.out; omega) hAB.out.2.2.2.2.1
  have b2 := bc hB3.out (by have := hus.out; omega) hAB.out.2.2.2.2.2
  go_wp2_with fail
  refine (HN.out _).mono ?_
  rintro e w3 ⟨rfl, hb3⟩
  have hB4 := Lib.hid (bstep hB3.out hb3)
  have hBV := Lib.hid hb3
  clear hb3 b0 b1 b2
  go_upto_region 10 with fail
  go_cut [32] (fun s32 wx => s32 = .bool false ∧ Hid (Below V.heap.size V wx))
  case first =>
    have a0 := bc hB4.out (by have := hus.out; omega) hAB.out.1
    have a1' := bc hB4.out (by have := hus.out; omega) hAB.out.2.1
    have a2' := bc hB4.out (by have := hus.out; omega) hAB.out.2.2.1
    have b0 := bc hB4.out (by have := hus.out; omega) hAB.out.2.2.2.1
    have b1 := bc hB4.out (by have := hus.out; omega) hAB.out.2.2.2.2.1
    cases nb with
    | true =>
      clear HW3
      go_wp2_with fail
      refine (HW2.out _).mono ?_
      rintro e w4 ⟨rfl, hb4⟩
      have hz := Lib.hid (bstep hBV.out hb4)
      clear hb4 a0 a1' a2' b0 b1
      go_wp2_with fail
      go_meet
      exact ⟨rfl, hz.out⟩
    | false =>
      obtain ⟨ey, ei⟩ := HW3.out rfl
      subst ey ei
      clear HW3
      go_wp2_with fail
      refine (HW2.out _).mono ?_
      rintro e w4 ⟨rfl, hb4⟩
      have hz := Lib.hid (bstep hBV.out hb4)
      have a0' := bc hb4 (by have := hus.out; have := hB4.out.size; omega) a0
      have a1'' := bc hb4 (by have := hus.out; have := hB4.out.size; omega) a1'
      have b0' := bc hb4 (by have := hus.out; have := hB4.out.size; omega) b0
      have b1' := bc hb4 (by have := hus.out; have := hB4.out.size; omega) b1
      clear hb4 a0 a1' a2' b0 b1
      go_wp2_with fail
      go_meet
      exact ⟨rfl, hz.out⟩
  case rest =>
    obtain ⟨rfl, hbc⟩ := hcut
    have hbc' := bstep hB3.out hbc.out
    have hWM := Lib.hid (balloc (bstep hBW2.out hbc.out) (.map #[] 0))
    have hUM := Lib.hid (balloc hbc' (.map #[] 0))
    have hVM := Lib.hid (balloc hbc.out (.map #[] 0))
    have hM0 : Hid (MapS (wc.alloc (.map #[] 0)) wc.heap.size 0 (fun _ => none)) := mapF_made wc
    have hmlt : Hid (wc.heap.size < (wc.alloc (.map #[] 0)).heap.size) := by show _ < _; simp
    have hmge : Hid (V.heap.size ≤ wc.heap.size) := hbc.out.size
    clear hbc hbc' hB4 hBV HN HW1 HW2 HW3 HWR
    go_upto_region 13 with fail
    clear hmm
    obtain ⟨mp, hmp⟩ : ∃ m, wc.heap.size = m := ⟨_, rfl⟩
    generalize wc.alloc (.map #[] 0) = M at *
    rw [hmp] at hM0 hmlt hmge ⊢
    clear hmp
    have b2 := bc hUM.out (by have := hus.out; omega) hAB.out.2.2.2.2.2
    have HTB := Lib.hid hB
    have HTA := Lib.hid hA
    have hn28 := ln_le B
    have hINB := Lib.hid (fun q h => at_in (T := B) (q := q) h)
    have hLIB := Lib.hid (fun (w : World) (h : Lst 3 w a2 (ln B) (lcs B)) q hq => lst_line h (q := q) hq)
    have hPNB := Lib.hid (fun q (h : q < ln B) i => part_next (B := B) h i)
    have hPWB := Lib.hid (fun q (h : q < ln B) => part_new (B := B) h)
    have hPZB := Lib.hid (part_zero B)
    obtain ⟨NB, hNB⟩ : ∃ n, ln B = n := ⟨_, rfl⟩
    have HNB := Lib.hid hNB
    rw [hNB] at HL2 hn28 hINB hLIB hPNB hPWB b2 ⊢
    clear hA hB hNB
    go_wp2_with fail
    go_loopw [55] (fun s55 wx => ∃ (q n : Nat) (f : Nat → Option Int), q ≤ NB ∧ s55 = .int .i64 q ∧ Hid (M.grownBy wx (some mp)) ∧ Hid (MapS wx mp n f) ∧ n ≤ q ∧ Hid (∀ i, i < 28 → (f i).getD 0 = partT B q i)) (fun s55 _ => NB - (intOf s55).toNat)
    case atStart => exact ⟨0, 0, _, Nat.zero_le _, rfl, World.grownBy.refl _ _, hM0.out, Nat.le_refl _, fun i _ => by rw [hPZB.out]; rfl⟩
    case round =>
      obtain ⟨q, n, f, hq, rfl, hgr, hMF, hnq, hpf⟩ := hrel
      have hWw : Hid (Below W.heap.size W wr) := Below.grown hWM.out hgr.out hWM.out.size (fun k hk => by cases hk; have := hWM.out.size; have := hmge.out; have := hBW2.out.size; omega)
      by_cases cq : q < NB
      · have cq' : (q : Int) < (NB : Int) := by omega
        obtain ⟨bb, oo, rfl, hlt1, d0, d1, d2⟩ := hLIB.out wr (HL2.out.step hWw.out) q cq
        have hi28 := (hINB.out q cq).1
        have hc := HTB.out _ hi28
        unfold BB at hc
        have wq : IntKind.i64.wrap ((q : Int) + 1) = (q : Int) + 1 := IntWalk.i64_in _ (by omega)
        have hv0 : (f (at_ B q)).getD 0 = 0 := by rw [hpf.out _ hi28]; exact hPWB.out q cq
        go_upto_region 16 with fail
        have x0 : (wr.alloc (.cells #[.int .i64 (prt (at_ B q)), .string (cod (at_ B q)), .int .i64 (B (at_ B q))] 45)).cell? ⟨wr.heap.size, 0, none⟩ = some (.int .i64 (prt (at_ B q))) := by simp
        have x1 : (wr.alloc (.cells #[.int .i64 (prt (at_ B q)), .string (cod (at_ B q)), .int .i64 (B (at_ B q))] 45)).cell? ⟨wr.heap.size, 1, none⟩ = some (.string (cod (at_ B q))) := by simp
        have x2 : (wr.alloc (.cells #[.int .i64 (prt (at_ B q)), .string (cod (at_ B q)), .int .i64 (B (at_ B q))] 45)).cell? ⟨wr.heap.size, 2, none⟩ = some (.int .i64 (B (at_ B q))) := by simp
        have hgX := World.grownBy_alloc wr (.cells #[.int .i64 (prt (at_ B q)), .string (cod (at_ B q)), .int .i64 (B (at_ B q))] 45) (some mp)
        have hMX : MapS (wr.alloc (.cells #[.int .i64 (prt (at_ B q)), .string (cod (at_ B q)), .int .i64 (B (at_ B q))] 45)) mp n f := hMF.out.kept (row := none) (World.grownBy_alloc wr _ none) (by simp)
        have hne : mp ≠ wr.heap.size := by have := hMF.out.lt; omega
        have hGX := Lib.hid (hgr.out.trans hgX)
        clear hgX
        generalize wr.alloc (.cells #[.int .i64 (prt (at_ B q)), .string (cod (at_ B q)), .int .i64 (B (at_ B q))] 45) = X at *
        obtain ⟨PX, hPX⟩ : ∃ m, wr.heap.size = m := ⟨_, rfl⟩
        rw [hPX] at x0 x1 x2 hne ⊢
        clear hPX
        have hMD : MapS X.drew mp n f := hMX.same rfl
        obtain ⟨st, w1, hE, hM1, hT1, hS⟩ := hMD.entry reads_i kSpot spotNames Try.underlying65 (by unfold maxLen; omega) zeroInt hi28
        have hL0 := hMD.look reads_i kSpot spotNames Try.underlying65 (zeroInt _) hi28
        have hL1 := hM1.look reads_i kSpot spotNames Try.underlying65 (zeroInt _) hi28
        have hu1 : (updK f (at_ B q) ((f (at_ B q)).getD 0) (at_ B q)).getD 0 = (f (at_ B q)).getD 0 := by unfold updK; rw [if_pos rfl]; rfl
        rw [hu1, hv0] at hL1
        rw [hv0] at hL0 hE
        obtain ⟨w2, hES, hM2, hT2⟩ := hS (B (at_ B q))
        have y0 := cellM hT1 hne (show X.drew.cell? ⟨PX, 0, none⟩ = _ from x0)
        have y1 := cellM hT1 hne (show X.drew.cell? ⟨PX, 1, none⟩ = _ from x1)
        have y2 := cellM hT1 hne (show X.drew.cell? ⟨PX, 2, none⟩ = _ from x2)
        have z0 := cellM hT2 hne (show X.drew.cell? ⟨PX, 0, none⟩ = _ from x0)
        have z1 := cellM hT2 hne (show X.drew.cell? ⟨PX, 1, none⟩ = _ from x1)
        have z2 := cellM hT2 hne (show X.drew.cell? ⟨PX, 2, none⟩ = _ from x2)
        have hfin : Hid (M.grownBy w2 (some mp) ∧ MapS w2 mp (moreK f (at_ B q) n) (updK f (at_ B q) (B (at_ B q)))) := ⟨hGX.out.trans (World.grownBy.trans (b := X.drew) (show X.grownBy X.drew (some mp) from ⟨rfl, rfl, rfl, Nat.le_refl _, fun _ _ _ => rfl⟩) hT2.grown), hM2⟩
        have hnew : Hid (moreK f (at_ B q) n ≤ q + 1 ∧ ∀ i, i < 28 → (updK f (at_ B q) (B (at_ B q)) i).getD 0 = partT B (q + 1) i) := by
          refine ⟨by unfold moreK; split <;> omega, fun j hj => ?_⟩
          unfold updK
          rw [hPNB.out q cq j]
          by_cases c : j = at_ B q
          · rw [if_pos c, if_pos c, c]; rfl
          · rw [if_neg c, if_neg c]; exact hpf.out j hj
        clear hM1 hT1 hS hu1 hM2 hT2 hMX hMD hMF hpf hGX hv0
        have wc0 : IntKind.i64.wrap (0 + B (at_ B q)) = B (at_ B q) := by rw [Int.zero_add]; exact IntWalk.i64_in _ (by omega)
        have wc1 : IntKind.i64.wrap (B (at_ B q)) = B (at_ B q) := IntWalk.i64_in _ (by omega)
        unfold spv at hE hL0 hL1
        clear d0 d1 d2 hc
        generalize prt (at_ B q) = p at *
        generalize cod (at_ B q) = s at *
        generalize B (at_ B q) = c at *
        have hE' : Sem.run Try.prog (Instr.mapEntry 65 (.map (some mp)) (.agg #[.int .i64 p, .string s])) X.drew = .ok (.tuple #[.int .i64 0, goInt st]) w1 := hE
        have hL0' : Sem.run Try.prog (Instr.lookup 65 (.map (some mp)) (.agg #[.int .i64 p, .string s]) false) X.drew = .ok (.int .i64 0) X.drew := hL0
        have hL1' : Sem.run Try.prog (Instr.lookup 65 (.map (some mp)) (.agg #[.int .i64 p, .string s]) false) w1 = .ok (.int .i64 0) w1 := hL1
        have hES' : Sem.run Try.prog (Instr.entryStore 65 (.map (some mp)) (goInt st) (.int .i64 c)) w1 = .ok () w2 := hES
        clear hE hL0 hL1 hES
        unfold goInt at hE' hES'
        go_region_held3 (fun w' => w'.cell? ⟨PX, 0, none⟩ = some (.int .i64 p) ∧ w'.cell? ⟨PX, 1, none⟩ = some (.string s) ∧ w'.cell? ⟨PX, 2, none⟩ = some (.int .i64 c))
          (first | exact ⟨x0, x1, x2⟩ | exact ⟨y0, y1, y2⟩ | exact ⟨z0, z1, z2⟩)
          ((fail))
        all_goals
          go_wp2_with fail
          go_roundw
          case rel => exact ⟨q + 1, _, _, by omega, by go_num, hfin.out.1, hfin.out.2, hnew.out.1, hnew.out.2⟩
          case measure => simp [intOf]; omega
      · obtain rfl : q = NB := by omega
        have cq' : ¬ (q : Int) < (q : Int) := by omega
        have hgr0 := Lib.hid hgr.out
        have a2' := hgr0.out.cell (bc hUM.out (by have := hus.out; omega) hAB.out.2.2.1) (by intro h; injection h with h; have := hmge.out; have := hB3.out.size; have := hus.out; simp only at h; omega)
        have hpf0 : Hid (∀ i, i < 28 → (f i).getD 0 = B i) := fun i hi => by rw [hpf.out i hi, ← HNB.out]; exact partT_all B hi
        have hMF0 := Lib.hid hMF.out
        have hnA := ln_le A
        have hINA := Lib.hid (fun q h => at_in (T := A) (q := q) h)
        have hLIA := Lib.hid (fun (w : World) (h : Lst 3 w a1 (ln A) (lcs A)) q hq => lst_line h (q := q) hq)
        have hPNA := Lib.hid (fun q (h : q < ln A) i => part_next (B := A) h i)
        have hPWA := Lib.hid (fun q (h : q < ln A) => part_new (B := A) h)
        have hPZA := Lib.hid (part_zero A)
        obtain ⟨NA, hNA⟩ : ∃ n, ln A = n := ⟨_, rfl⟩
        have HNA := Lib.hid hNA
        rw [hNA] at HL1 hnA hINA hLIA hPNA hPWA a2' ⊢
        clear hNA hgr hMF hpf hWw
        obtain ⟨NB, hNB2⟩ : ∃ n, q = n := ⟨_, rfl⟩
        rw [hNB2] at cq' hn28 hnq ⊢
        clear hNB2 hq hINB hLIB hPNB hPWB hPZB
        go_wp2_with fail
        go_loopw [75] (fun s75 wx => ∃ (q n : Nat) (f : Nat → Option Int), q ≤ NA ∧ s75 = .int .i64 q ∧ Hid (M.grownBy wx (some mp)) ∧ Hid (MapS wx mp n f) ∧ n ≤ NB + q ∧ Hid (∀ i, i < 28 → (f i).getD 0 = B i - partT A q i)) (fun s75 _ => NA - (intOf s75).toNat)
        case atStart => exact ⟨0, n, f, Nat.zero_le _, rfl, hgr0.out, hMF0.out, by omega, fun i hi => by rw [hPZA.out, hpf0.out i hi]; simp⟩
        case round =>
          clear hgr0 hMF0 hpf0 hnq a2'
          obtain ⟨q, n, f, hq, rfl, hgr, hMF, hnq, hpf⟩ := hrel
          have hWw : Hid (Below W.heap.size W wr) := Below.grown hWM.out hgr.out hWM.out.size (fun k hk => by cases hk; have := hWM.out.size; have := hmge.out; have := hBW2.out.size; omega)
          by_cases cq : q < NA
          · have cq' : (q : Int) < (NA : Int) := by omega
            obtain ⟨bb, oo, rfl, hlt1, d0, d1, d2⟩ := hLIA.out wr (HL1.out.step hWw.out) q cq
            have hi28 := (hINA.out q cq).1
            have hc := HTA.out _ hi28
            unfold BB at hc
            have hcB := HTB.out _ hi28
            unfold BB at hcB
            have wq : IntKind.i64.wrap ((q : Int) + 1) = (q : Int) + 1 := IntWalk.i64_in _ (by omega)
            have hv0 : (f (at_ A q)).getD 0 = B (at_ A q) := by rw [hpf.out _ hi28, hPWA.out q cq]; omega
            go_upto_region 21 with fail
            have x0 : (wr.alloc (.cells #[.int .i64 (prt (at_ A q)), .string (cod (at_ A q)), .int .i64 (A (at_ A q))] 45)).cell? ⟨wr.heap.size, 0, none⟩ = some (.int .i64 (prt (at_ A q))) := by simp
            have x1 : (wr.alloc (.cells #[.int .i64 (prt (at_ A q)), .string (cod (at_ A q)), .int .i64 (A (at_ A q))] 45)).cell? ⟨wr.heap.size, 1, none⟩ = some (.string (cod (at_ A q))) := by simp
            have x2 : (wr.alloc (.cells #[.int .i64 (prt (at_ A q)), .string (cod (at_ A q)), .int .i64 (A (at_ A q))] 45)).cell? ⟨wr.heap.size, 2, none⟩ = some (.int .i64 (A (at_ A q))) := by simp
            have hgX := World.grownBy_alloc wr (.cells #[.int .i64 (prt (at_ A q)), .string (cod (at_ A q)), .int .i64 (A (at_ A q))] 45) (some mp)
            have hMX : MapS (wr.alloc (.cells #[.int .i64 (prt (at_ A q)), .string (cod (at_ A q)), .int .i64 (A (at_ A q))] 45)) mp n f := hMF.out.kept (row := none) (World.grownBy_alloc wr _ none) (by simp)
            have hne : mp ≠ wr.heap.size := by have := hMF.out.lt; omega
            have hGX := Lib.hid (hgr.out.trans hgX)
            clear hgX
            generalize wr.alloc (.cells #[.int .i64 (prt (at_ A q)), .string (cod (at_ A q)), .int .i64 (A (at_ A q))] 45) = X at *
            obtain ⟨PX, hPX⟩ : ∃ m, wr.heap.size = m := ⟨_, rfl⟩
            rw [hPX] at x0 x1 x2 hne ⊢
            clear hPX
            have hMD : MapS X.drew mp n f := hMX.same rfl
            obtain ⟨st, w1, hE, hM1, hT1, hS⟩ := hMD.entry reads_i kSpot spotNames Try.underlying65 (by unfold maxLen; omega) zeroInt hi28
            have hL0 := hMD.look reads_i kSpot spotNames Try.underlying65 (zeroInt _) hi28
            have hL1 := hM1.look reads_i kSpot spotNames Try.underlying65 (zeroInt _) hi28
            have hu1 : (updK f (at_ A q) ((f (at_ A q)).getD 0) (at_ A q)).getD 0 = (f (at_ A q)).getD 0 := by unfold updK; rw [if_pos rfl]; rfl
            rw [hu1, hv0] at hL1
            rw [hv0] at hL0 hE
            obtain ⟨w2, hES, hM2, hT2⟩ := hS (B (at_ A q) - A (at_ A q))
            have y0 := cellM hT1 hne (show X.drew.cell? ⟨PX, 0, none⟩ = _ from x0)
            have y1 := cellM hT1 hne (show X.drew.cell? ⟨PX, 1, none⟩ = _ from x1)
            have y2 := cellM hT1 hne (show X.drew.cell? ⟨PX, 2, none⟩ = _ from x2)
            have z0 := cellM hT2 hne (show X.drew.cell? ⟨PX, 0, none⟩ = _ from x0)
            have z1 := cellM hT2 hne (show X.drew.cell? ⟨PX, 1, none⟩ = _ from x1)
            have z2 := cellM hT2 hne (show X.drew.cell? ⟨PX, 2, none⟩ = _ from x2)
            have hfin : Hid (M.grownBy w2 (some mp) ∧ MapS w2 mp (moreK f (at_ A q) n) (updK f (at_ A q) (B (at_ A q) - A (at_ A q)))) := ⟨hGX.out.trans (World.grownBy.trans (b := X.drew) (show X.grownBy X.drew (some mp) from ⟨rfl, rfl, rfl, Nat.le_refl _, fun _ _ _ => rfl⟩) hT2.grown), hM2⟩
            have hnew : Hid (moreK f (at_ A q) n ≤ NB + (q + 1) ∧ ∀ i, i < 28 → (updK f (at_ A q) (B (at_ A q) - A (at_ A q)) i).getD 0 = B i - partT A (q + 1) i) := by
              refine ⟨by unfold moreK; split <;> omega, fun j hj => ?_⟩
              unfold updK
              rw [hPNA.out q cq j]
              by_cases c : j = at_ A q
              · rw [if_pos c, if_pos c, c]; rfl
              · rw [if_neg c, if_neg c]; exact hpf.out j hj
            clear hM1 hT1 hS hu1 hM2 hT2 hMX hMD hMF hpf hGX hv0
            have wc0 : IntKind.i64.wrap (B (at_ A q) - A (at_ A q)) = B (at_ A q) - A (at_ A q) := IntWalk.i64_in _ (by omega)
            unfold spv at hE hL0 hL1
            clear d0 d1 d2 hc hcB
            generalize prt (at_ A q) = p at *
            generalize cod (at_ A q) = s at *
            generalize A (at_ A q) = c at *
            generalize B (at_ A q) = v at *
            have hE' : Sem.run Try.prog (Instr.mapEntry 65 (.map (some mp)) (.agg #[.int .i64 p, .string s])) X.drew = .ok (.tuple #[.int .i64 v, goInt st]) w1 := hE
            have hL0' : Sem.run Try.prog (Instr.lookup 65 (.map (some mp)) (.agg #[.int .i64 p, .string s]) false) X.drew = .ok (.int .i64 v) X.drew := hL0
            have hL1' : Sem.run Try.prog (Instr.lookup 65 (.map (some mp)) (.agg #[.int .i64 p, .string s]) false) w1 = .ok (.int .i64 v) w1 := hL1
            have hES' : Sem.run Try.prog (Instr.entryStore 65 (.map (some mp)) (goInt st) (.int .i64 (v - c))) w1 = .ok () w2 := hES
            clear hE hL0 hL1 hES
            unfold goInt at hE' hES'
            go_region_held3 (fun w' => w'.cell? ⟨PX, 0, none⟩ = some (.int .i64 p) ∧ w'.cell? ⟨PX, 1, none⟩ = some (.string s) ∧ w'.cell? ⟨PX, 2, none⟩ = some (.int .i64 c))
              (first | exact ⟨x0, x1, x2⟩ | exact ⟨y0, y1, y2⟩ | exact ⟨z0, z1, z2⟩)
              ((fail))
            all_goals
              go_wp2_with fail
              go_roundw
              case rel => exact ⟨q + 1, _, _, by omega, by go_num, hfin.out.1, hfin.out.2, hnew.out.1, hnew.out.2⟩
              case measure => simp [intOf]; omega
          · obtain rfl : q = NA := by omega
            have cq' : ¬ (q : Int) < (q : Int) := by omega
            have hT : ∀ i, i < 28 → B i - A i = (f i).getD 0 := fun i hi => by rw [hpf.out i hi, ← HNA.out, partT_all A hi]
            have HLX := Lib.hid (HLN.out (fun i => B i - A i) f mp n wr hMF.out (by omega) hT)
            clear hT hpf hMF
            have HW0 : Hid (mp < wr.heap.size ∧ W.heap.size + 1 + 1 + 1 ≤ mp ∧ W.heap.size + 1 + 1 + 1 ≤ P ∧ P < mp) := by
              have := hmge.out; have := hB3.out.size; have := hus.out; have := hgr.out.size; have := hmlt.out; have := HH.out.2.2; have := HQ.out
              exact ⟨by omega, by omega, by omega, by omega⟩
            have HFT : Hid (∀ i, i < 28 → fit (B i - A i)) := fun i hi => by
              have h1 := HTB.out i hi
              have h2 := HTA.out i hi
              unfold BB at h1 h2
              unfold fit; omega
            have hLn := ln_le (fun i => B i - A i)
            have HCN := Lib.hid (fun a cap w h => contains_none (fun i => B i - A i) HFT.out a cap w h)
            obtain ⟨L, hL⟩ : ∃ n, ln (fun i => B i - A i) = n := ⟨_, rfl⟩
            have HLL := Lib.hid hL
            rw [hL] at hLn HCN
            clear hL hnq
            go_wp2_with fail
            refine HLX.out.mono ?_
            rintro e w6 ⟨a, cap, rfl, hl, hcp, hnil, hb6, hfr⟩
            have HFR : Hid (∀ x, a = some x → x.block ≠ W.heap.size + 1 + 1) := fun x hx => by have := hfr x hx; have := HW0.out; omega
            have HFS : Hid (∀ x, a = some x → W.heap.size ≤ x.block) := fun x hx => by have := hfr x hx; have := HW0.out; omega
            clear hfr
            rw [HLL.out] at hl hcp hnil ⊢
            have HL6 := Lib.hid hl
            have HB6 := Lib.hid hb6
            have HCP := Lib.hid (And.intro hcp hnil)
            clear hl hb6 hcp hnil HLX
            go_wp2_with fail
            refine (HCN.out a cap w6 HL6.out).mono ?_
            rintro e w7 ⟨rfl, hb7⟩
            have hB7 := Lib.hid (bstep HB6.out hb7)
            have hL7 := Lib.hid (HL6.out.step hb7)
            clear hb7 HL6 HB6 HCN
            have n448 : ¬ (448 : Int) < (L : Int) := by omega
            have hz0 := bc hB7.out (by have := HW0.out; omega) (hgr.out.cell (bc hVM.out HH.out.2.2 HH.out.1) (by intro h; injection h with h; have := HW0.out; simp only at h; omega))
            have hz1 := bc hB7.out (by have := HW0.out; omega) (hgr.out.cell (bc hVM.out HH.out.2.2 HH.out.2.1) (by intro h; injection h with h; have := HW0.out; simp only at h; omega))
            have p0 := bc hB7.out (by have := HW0.out; omega) (hgr.out.cell (bc hUM.out (by have := hus.out; omega) hR.out.1) (by intro h; injection h with h; have := HW0.out; simp only at h; omega))
            have p1 := bc hB7.out (by have := HW0.out; omega) (hgr.out.cell (bc hUM.out (by have := hus.out; omega) hR.out.2.1) (by intro h; injection h with h; have := HW0.out; simp only at h; omega))
            have p2 := bc hB7.out (by have := HW0.out; omega) (hgr.out.cell (bc hUM.out (by have := hus.out; omega) hR.out.2.2.1) (by intro h; injection h with h; have := HW0.out; simp only at h; omega))
            have pf : ∀ o, w7.frozen? ⟨W.heap.size + 1 + 1, o, none⟩ = false := fun o => bf hB7.out (by have := HW0.out; omega) ((hgr.out.frozen_far ⟨W.heap.size + 1 + 1, o, none⟩ (by have := HW0.out; have := hUM.out.size; have := hus.out; show W.heap.size + 1 + 1 < M.heap.size; omega) (by intro h; injection h with h; have := HW0.out; simp only at h; omega)).trans (bf hUM.out (by have := hus.out; omega) (hR.out.2.2.2 o)))
            have hBZ := Lib.hid (bstep hWw.out hB7.out)
            clear hWw hB7
            go_wp2_with fail
            obtain ⟨y0, y1, y2⟩ := set3 w7 (W.heap.size + 1 + 1) (.int .i64 2026) (.int .i64 1) (.slice a L cap) p0 p1 p2
            have hBz : Hid (Below W.heap.size W (((w7.setCell ⟨W.heap.size + 1 + 1, 0, none⟩ (.int .i64 2026)).setCell ⟨W.heap.size + 1 + 1, 1, none⟩ (.int .i64 1)).setCell ⟨W.heap.size + 1 + 1, 2, none⟩ (.slice a L cap))) := ((hBZ.out.setCell (p := ⟨W.heap.size + 1 + 1, 0, none⟩) (by show W.heap.size ≤ W.heap.size + 1 + 1; omega) _).setCell (p := ⟨W.heap.size + 1 + 1, 1, none⟩) (by show W.heap.size ≤ W.heap.size + 1 + 1; omega) _).setCell (p := ⟨W.heap.size + 1 + 1, 2, none⟩) (by show W.heap.size ≤ W.heap.size + 1 + 1; omega) _
            have hlz : Hid (Lst 3 (((w7.setCell ⟨W.heap.size + 1 + 1, 0, none⟩ (.int .i64 2026)).setCell ⟨W.heap.size + 1 + 1, 1, none⟩ (.int .i64 1)).setCell ⟨W.heap.size + 1 + 1, 2, none⟩ (.slice a L cap)) a L (lcs (fun i => B i - A i))) := ((hL7.out.set HFR.out _).set HFR.out _).set HFR.out _
            generalize (((w7.setCell ⟨W.heap.size + 1 + 1, 0, none⟩ (.int .i64 2026)).setCell ⟨W.heap.size + 1 + 1, 1, none⟩ (.int .i64 1)).setCell ⟨W.heap.size + 1 + 1, 2, none⟩ (.slice a L cap)) = Y at *
            refine bodyPost_ret (v := .tuple #[.agg #[.int .i64 2026, .int .i64 1, .slice a L cap], .int .i64 0]) (by simp [results, Try.results12, go_sem, y0, y1, y2]) rfl ?_
            rw [← HLL.out] at hlz HCP ⊢
            exact ⟨a, cap, rfl, hlz.out, HCP.out.1, HCP.out.2, hBz.out, HFS.out⟩
end Go.Proofs.Ytnakcmliopcabaa.W
