/- What is told, as a store. -/
import Derived.Test.YtbnjgbllenndaaaGreatDoorTkF
import Derived.Test.YtbnjgbllenndaaaGreatDoorTkD
namespace Go.Proofs.YtbnjgbllenndaaaGreatDoor.W
open Go.RowKit Go.Proofs.YtbnjgbllenndaaaGreatDoor.M Go.Proofs.YtbnjgbllenndaaaGreatDoor.S
set_option linter.unusedVariables false

theorem _root_.Go.Proofs.YtbnjgbllenndaaaGreatDoor.M.Lst.congr {z : Nat} {w : World} {a : Option Addr} {n : Nat} {c d : Nat → List Value} (h : Lst z w a n c) (hcd : ∀ j, j < n → c j = d j) : Lst z w a n d :=
  ⟨h.1, fun hn => by
    obtain ⟨b, off, ha, hlt, hc⟩ := h.2 hn
    exact ⟨b, off, ha, hlt, fun j hj i u hu => hc j hj i u (by rw [hcd j hj]; exact hu)⟩⟩
theorem grown_set (w : World) (a : Addr) (u : Value) : w.grownBy (w.setCell a u) (some a.block) :=
  ⟨rfl, rfl, rfl, by simp [World.setCell], fun k hk hne => by
    unfold World.setCell
    simp only
    rw [Array.getElem?_modify, if_neg (fun e => hne (by rw [e]))]⟩
def ToldOut (L : Nat → Fc) (n : Nat) (W : World) (e : Ending) (w' : World) : Prop := ∃ a cap, e = .returned (.tuple #[st a n cap, .bool true]) ∧ Lst 8 w' a n (fun j => fcl (L j)) ∧ (n ≤ cap ∧ cap ≤ maxLen) ∧ (a = none → n = 0) ∧ Below W.heap.size W w'

set_option maxRecDepth 100000 in
set_option maxHeartbeats 4000000 in
theorem told_is (L : Nat → Tt) (n : Nat) (hn : n ≤ 40) (hL : ∀ j, j < n → (L j).ok) (a0 : Option Addr) (cap0 : Nat) (W : World) (hl : Lst 5 W a0 n (fun j => tcl (L j))) :
    Calls Tryz.prog 5 #[.slice a0 n cap0] W (ToldOut (fun j => tf (L j)) n W) := by
  have HL := Lib.hid hl
  have HK := Lib.hid hL
  clear hl hL
  go_enter Tryz.func5, Tryz.ntmps5
  go_upto_region 2 with fail
  obtain ⟨U, hU⟩ : ∃ U, ((W.alloc (.cells #[.slice none 0 0] 30)).alloc (.cells #[.slice none 0 0] 30)) = U := ⟨_, rfl⟩
  have hBU : Hid (Below W.heap.size W U) := by rw [← hU]; exact balloc (balloc (Below.refl _ _) _) _
  have r0 : U.cell? ⟨W.heap.size, 0, none⟩ = some (.slice none 0 0) := by rw [← hU]; clear hU; go_simp
  have rf : U.frozen? ⟨W.heap.size, 0, none⟩ = false := by rw [← hU]; clear hU; go_simp
  have s0 : U.cell? ⟨W.heap.size + 1, 0, none⟩ = some (.slice none 0 0) := by rw [← hU]; clear hU; go_simp
  have sf : U.frozen? ⟨W.heap.size + 1, 0, none⟩ = false := by rw [← hU]; exact World.frozen?_alloc_at _ _ _ _ (by simp)
  have us : U.heap.size = W.heap.size + 1 + 1 := by rw [← hU]; simp
  rw [hU]
  clear hU
  obtain ⟨P, hP⟩ : ∃ m, W.heap.size + 1 = m := ⟨_, rfl⟩
  rw [hP] at s0 sf ⊢
  have HP := Lib.hid (And.intro hP us)
  have HR := Lib.hid (And.intro r0 rf)
  have HS := Lib.hid (And.intro s0 sf)
  clear r0 rf s0 sf us hP
  go_wp2_with fail
  go_loopw [12] (fun s12 wx => ∃ (q : Nat) (a : Option Addr) (cap : Nat), q ≤ n ∧ s12 = .int .i64 q ∧ Hid (U.grownBy wx (some P)) ∧ Hid (wx.cell? ⟨P, 0, none⟩ = some (.slice a q cap)) ∧ Hid (wx.frozen? ⟨P, 0, none⟩ = false) ∧ Hid (Lst 8 wx a q (fun j => fcl (tf (L j)))) ∧ Hid ((q ≤ cap ∧ cap ≤ maxLen) ∧ (a = none → q = 0)) ∧ Hid (∀ x, a = some x → x.block ≠ P) ∧ Hid (∀ x, a = some x → P ≤ x.block)) (fun s12 _ => n - (intOf s12).toNat)
  case atStart => exact ⟨0, none, 0, Nat.zero_le _, rfl, World.grownBy.refl _ _, HS.out.1, HS.out.2, ⟨by omega, fun h => absurd h (by omega)⟩, ⟨⟨Nat.le_refl _, Nat.zero_le _⟩, fun _ => rfl⟩, (fun x h => by cases h), (fun x h => by cases h)⟩
  case round =>
    obtain ⟨q, a, cap, hq, rfl, hgr, hpc, hpf, hlq, hcq, hfr, hfr2⟩ := hrel
    have hWw : Hid (Below W.heap.size W wr) := hBU.out.grown hgr.out hBU.out.size (fun k hk => by cases hk; have := HP.out.1; omega)
    by_cases cq : q < n
    · have cq' : (q : Int) < (n : Int) := by omega
      have wq : IntKind.i64.wrap ((q : Int) + 1) = (q : Int) + 1 := IntWalk.i64_in _ (by omega)
      obtain ⟨b, o, rfl, hlt, hc⟩ := (HL.out.step hWw.out).at_ cq
      have d0 : wr.cell? ⟨b, o + q * 5, none⟩ = some (.int .u8 (L q).p) := hc 0 _ rfl
      have d1 : wr.cell? ⟨b, o + q * 5 + 1, none⟩ = some (.int .u32 (L q).c) := hc 1 _ rfl
      have d2 : wr.cell? ⟨b, o + q * 5 + 2, none⟩ = some (.int .u16 (L q).f) := hc 2 _ rfl
      have d3 : wr.cell? ⟨b, o + q * 5 + 3, none⟩ = some (.int .u16 (L q).d) := hc 3 _ rfl
      have d4 : wr.cell? ⟨b, o + q * 5 + 4, none⟩ = some (.int .u16 (L q).i) := hc 4 _ rfl
      have hok := HK.out q cq
      have hsal := tf_sal hok
      have HF := Lib.hid (fun w => fact_is (L q) hok w)
      have HA := Lib.hid (fun w h => add_is (fun j => tf (L j)) q (by omega) (tf (L q)) a cap w h hcq.out.1 hcq.out.2 (fun w => check_sal _ hsal w) (fun w _ => cancel_sal _ hsal.2.1 a q cap w))
      clear hok hsal hc
      unfold tv at HF
      unfold st fv at HA
      have hX0 := balloc (Below.refl wr.heap.size wr) (.cells #[.int .u8 (L q).p, .int .u32 (L q).c, .int .u16 (L q).f, .int .u16 (L q).d, .int .u16 (L q).i] 26)
      go_upto_region 5 with fail
      have hPlt := World.block_lt_of_cell? wr ⟨P, 0, none⟩ hpc.out
      have HPL : Hid (P < wr.heap.size) := hPlt
      clear d0 d1 d2 d3 d4 hPlt
      go_wp2_with fail
      refine (HF.out _).mono ?_
      rintro e w1 ⟨rfl, hb1⟩
      have HB1 := Lib.hid (bstep hX0 hb1)
      clear hb1 hX0
      have e0 := bc HB1.out HPL.out hpc.out
      have ef := bf HB1.out HPL.out hpf.out
      obtain ⟨x, hx⟩ : ∃ x, tf (L q) = x := ⟨_, rfl⟩
      have HX := Lib.hid hx
      rw [hx] at HA ⊢
      clear hx
      obtain ⟨per, kind, fr, en, num⟩ := x
      simp only at HA
      unfold fvi
      simp only
      go_upto_region 7 with fail
      have hV0 := balloc (Below.refl w1.heap.size w1) (.cells #[.int .u32 0, .int .u32 per, .int .i64 kind, .int .i64 fr, .int .i64 en, .string ⟨#[]⟩, .int .i64 num, .string ⟨#[]⟩] 38)
      have y0 : (w1.alloc (.cells #[.int .u32 0, .int .u32 per, .int .i64 kind, .int .i64 fr, .int .i64 en, .string ⟨#[]⟩, .int .i64 num, .string ⟨#[]⟩] 38)).cell? ⟨w1.heap.size, 0, none⟩ = some (.int .u32 0) := by simp
      have y1 : (w1.alloc (.cells #[.int .u32 0, .int .u32 per, .int .i64 kind, .int .i64 fr, .int .i64 en, .string ⟨#[]⟩, .int .i64 num, .string ⟨#[]⟩] 38)).cell? ⟨w1.heap.size, 1, none⟩ = some (.int .u32 per) := by simp
      have y2 : (w1.alloc (.cells #[.int .u32 0, .int .u32 per, .int .i64 kind, .int .i64 fr, .int .i64 en, .string ⟨#[]⟩, .int .i64 num, .string ⟨#[]⟩] 38)).cell? ⟨w1.heap.size, 2, none⟩ = some (.int .i64 kind) := by simp
      have y3 : (w1.alloc (.cells #[.int .u32 0, .int .u32 per, .int .i64 kind, .int .i64 fr, .int .i64 en, .string ⟨#[]⟩, .int .i64 num, .string ⟨#[]⟩] 38)).cell? ⟨w1.heap.size, 3, none⟩ = some (.int .i64 fr) := by simp
      have y4 : (w1.alloc (.cells #[.int .u32 0, .int .u32 per, .int .i64 kind, .int .i64 fr, .int .i64 en, .string ⟨#[]⟩, .int .i64 num, .string ⟨#[]⟩] 38)).cell? ⟨w1.heap.size, 4, none⟩ = some (.int .i64 en) := by simp
      have y5 : (w1.alloc (.cells #[.int .u32 0, .int .u32 per, .int .i64 kind, .int .i64 fr, .int .i64 en, .string ⟨#[]⟩, .int .i64 num, .string ⟨#[]⟩] 38)).cell? ⟨w1.heap.size, 5, none⟩ = some (.string ⟨#[]⟩) := by simp
      have y6 : (w1.alloc (.cells #[.int .u32 0, .int .u32 per, .int .i64 kind, .int .i64 fr, .int .i64 en, .string ⟨#[]⟩, .int .i64 num, .string ⟨#[]⟩] 38)).cell? ⟨w1.heap.size, 6, none⟩ = some (.int .i64 num) := by simp
      have y7 : (w1.alloc (.cells #[.int .u32 0, .int .u32 per, .int .i64 kind, .int .i64 fr, .int .i64 en, .string ⟨#[]⟩, .int .i64 num, .string ⟨#[]⟩] 38)).cell? ⟨w1.heap.size, 7, none⟩ = some (.string ⟨#[]⟩) := by simp
      have z0 := bc hV0 (Nat.lt_of_lt_of_le HPL.out HB1.out.size) e0
      have zf := bf hV0 (Nat.lt_of_lt_of_le HPL.out HB1.out.size) ef
      have HBV := Lib.hid (bstep HB1.out hV0)
      clear e0 ef hV0
      generalize w1.alloc (.cells #[.int .u32 0, .int .u32 per, .int .i64 kind, .int .i64 fr, .int .i64 en, .string ⟨#[]⟩, .int .i64 num, .string ⟨#[]⟩] 38) = V at *
      go_wp2_with fail
      refine (HA.out _ (hlq.out.step HBV.out)).mono ?_
      rintro e w3 ⟨a', cap', rfl, hl3, hcp3, hn3, hb3, hf3⟩
      have HB3 := Lib.hid (bstep HBV.out hb3)
      have HF3 := Lib.hid hf3
      have HL3 := Lib.hid hl3
      have HC3 := Lib.hid (And.intro hcp3 hn3)
      clear hl3 hcp3 hn3 hf3 z0 zf y0 y1 y2 y3 y4 y5 y6 y7
      have hfz : ∀ x, a' = some x → x.block ≠ P := fun y hy => by
        have h1 := HF3.out y hy
        have h2 := HBV.out.size
        have h3 := HPL.out
        omega
      have HFZ := Lib.hid hfz
      have HFP : Hid (∀ x, a' = some x → P ≤ x.block) := fun y hy => by
        have h1 := HF3.out y hy
        have h2 := HBV.out.size
        have h3 := HPL.out
        omega
      clear hfz hb3
      unfold st
      have hA3 := balloc HB3.out (.cells #[.slice a' (q + 1) cap'] 30)
      have t0 := bc hA3 HPL.out hpc.out
      have tfz := bf hA3 HPL.out hpf.out
      have HGZ : Hid (U.grownBy ((w3.alloc (.cells #[.slice a' (q + 1) cap'] 30)).setCell ⟨P, 0, none⟩ (.slice a' (q + 1) cap')) (some P)) :=
        (hgr.out.trans (show wr.grownBy (w3.alloc (.cells #[.slice a' (q + 1) cap'] 30)) (some P) from ⟨hA3.os, hA3.tape, hA3.output, hA3.size, fun k hk _ => hA3.block k hk⟩)).trans (grown_set _ ⟨P, 0, none⟩ _)
      have HCZ : Hid (((w3.alloc (.cells #[.slice a' (q + 1) cap'] 30)).setCell ⟨P, 0, none⟩ (.slice a' (q + 1) cap')).cell? ⟨P, 0, none⟩ = some (.slice a' (q + 1) cap')) := World.cell?_setCell_same _ _ _ t0
      have HFRZ : Hid (((w3.alloc (.cells #[.slice a' (q + 1) cap'] 30)).setCell ⟨P, 0, none⟩ (.slice a' (q + 1) cap')).frozen? ⟨P, 0, none⟩ = false) := by
        show _ = _
        rw [World.frozen?_setCell]; exact tfz
      have HLZ : Hid (Lst 8 ((w3.alloc (.cells #[.slice a' (q + 1) cap'] 30)).setCell ⟨P, 0, none⟩ (.slice a' (q + 1) cap')) a' (q + 1) (fun j => fcl (tf (L j)))) := by
        refine (((HL3.out.step (balloc (Below.refl _ _) _)).set HFZ.out _).congr (fun j hj => ?_))
        unfold app
        by_cases c : j < q
        · rw [if_pos c]
        · rw [if_neg c, ← HX.out, show j = q by omega]
      clear hA3
      go_wp2_with fail
      go_roundw
      case rel => exact ⟨q + 1, a', cap', by omega, by go_num, HGZ.out, HCZ.out, HFRZ.out, HLZ.out, HC3.out, HFZ.out, HFP.out⟩
      case measure => simp [intOf]; omega
    · obtain rfl : q = n := by omega
      have cq' : ¬ (q : Int) < (q : Int) := by omega
      have HW2 : Hid (∀ x, a = some x → x.block ≠ W.heap.size) := fun x hx => by have := hfr.out x hx; have := hfr2.out x hx; have := HP.out.1; omega
      have g0 := hgr.out.cell HR.out.1 (by intro h; injection h with h; have := HP.out.1; simp only at h; omega)
      have gf := (hgr.out.frozen_far ⟨W.heap.size, 0, none⟩ (by have := HP.out.2; show W.heap.size < _; omega) (by intro h; injection h with h; have := HP.out.1; simp only at h; omega)).trans HR.out.2
      have e0 := hpc.out
      have HBZ : Hid (Below W.heap.size W (wr.setCell ⟨W.heap.size, 0, none⟩ (.slice a q cap))) := hWw.out.setCell (p := ⟨W.heap.size, 0, none⟩) (Nat.le_refl _) _
      have HLZ : Hid (Lst 8 (wr.setCell ⟨W.heap.size, 0, none⟩ (.slice a q cap)) a q (fun j => fcl (tf (L j)))) := hlq.out.set (fun x hx e => HW2.out x hx e) _
      have y0 : (wr.setCell ⟨W.heap.size, 0, none⟩ (.slice a q cap)).cell? ⟨W.heap.size, 0, none⟩ = some (.slice a q cap) := World.cell?_setCell_same _ _ _ g0
      clear hgr
      go_wp2_with fail
      exact bodyPost_ret (v := .tuple #[.agg #[.slice a q cap], .bool true]) (by simp [results, Tryz.results5, go_sem, y0]) rfl ⟨a, cap, rfl, HLZ.out, hcq.out.1, hcq.out.2, HBZ.out⟩
end Go.Proofs.YtbnjgbllenndaaaGreatDoor.W
