/- Slips to which differences are added: delta.Add. -/
import Derived.Test.YtnakcmliopcabaaTeT
namespace Go.Proofs.Ytnakcmliopcabaa.W
open Go.RowKit Go.Proofs.Ytnakcmliopcabaa.M Go.Proofs.Ytnakcmliopcabaa.S
open Go.Maps (Keyed)
set_option linter.unusedVariables false

def CopyOut (T : Nat → Int) (W : World) (e : Ending) (w' : World) : Prop := ∃ a' cap', e = .returned (.slice a' (ln T) cap') ∧ Lst 3 w' a' (ln T) (lcs T) ∧ (ln T ≤ cap' ∧ cap' ≤ maxLen) ∧ (a' = none → ln T = 0 ∧ cap' = 0) ∧ Below W.heap.size W w' ∧ ∀ x, a' = some x → W.heap.size ≤ x.block
theorem copy_is (T : Nat → Int) (a : Option Addr) (cap : Nat) (W : World) (hl : Lst 3 W a (ln T) (lcs T)) :
    Calls Try.prog 19 #[.slice a (ln T) cap] W (CopyOut T W) := by
  have q24 : ∀ (w : World) (a : Option Addr) (n c n' c' : Nat), (binOp .eql 27 (.slice a n c) (.slice none n' c')).run Try.prog w = .ok (.bool a.isNone) w := fun w a n c n' c' => Lib.run_eql_slice_nil w _ _ a n c n' c' Try.underlying27
  have hn := ln_le T
  cases a with
  | none =>
    have h0 : ln T = 0 := by
      rcases Nat.eq_zero_or_pos (ln T) with h | h
      · exact h
      · obtain ⟨b, o, e, _⟩ := hl.2 h
        cases e
    have HL := Lib.hid hl
    have H0 := Lib.hid h0
    clear hl h0 hn
    go_enter Try.func19, Try.ntmps19
    go_wp2
    go_ret
    exact ⟨none, 0, by rw [H0.out]; rfl, HL.out, ⟨Nat.le_of_eq H0.out, Nat.zero_le _⟩, fun _ => ⟨H0.out, rfl⟩, Below.refl _ _, (fun x h => by cases h)⟩
  | some x =>
    obtain ⟨i, hi, hz0, hz1, hz2⟩ := info_parts infoLine
    have HLL := Lib.hid hl
    clear hl
    go_enter Try.func19, Try.ntmps19
    go_wp2_with (at_builtin; refine wpList_append_lst rfl _ _ 27 rfl W.heap.size 45 i (.agg #[.int .i64 0, .string ByteArray.empty, .int .i64 0]) 3 32 Try.underlying27 hi hz0 hz1 hz2 rfl (by decide) _ 0 [] rfl (World.ownsRow_made W #[] 0 (Nat.le_refl _) (Nat.zero_le _) (by simp)) (some x) (ln T) cap (lcs T) (fun j => rfl) (fun j u hu => line_one _ _ u hu) rfl (HLL.out.step (balloc (Below.refl _ _) _)) (fun h => by cases h) (by unfold maxLen; omega) (by omega) (by simp) ?_)
    intro v' w1 hown hgrow
    go_wp2
    go_ret
    have hown' : w1.ownsRow W.heap.size 45 3 v' (ln T) (XR (lcs T) (ln T)) := by simpa using hown
    have hB : Below W.heap.size W w1 := ((Below.refl _ W).alloc (Nat.le_refl _) _).grown hgrow (by simp) (by intro k hk; simp [Value.ownBlock] at hk; omega)
    obtain ⟨a', cap', rfl, hlz⟩ := own_lst (z := 3) (fun j => rfl) hown' (by omega)
    have hfr : ∀ x, a' = some x → W.heap.size ≤ x.block := fun x hx => by subst hx; exact (hown'.lt x.block rfl).1
    rcases hown'.2 with ⟨hv, h0⟩ | ⟨g', c', cur, hv, _, _, k1, k2, _⟩
    · injection hv with e1 _ e3
      subst e1 e3
      exact ⟨none, 0, rfl, hlz, ⟨by omega, Nat.zero_le _⟩, fun _ => ⟨h0, rfl⟩, hB, hfr⟩
    · injection hv with e1 _ e3
      subst e1 e3
      exact ⟨_, _, rfl, hlz, ⟨k1, k2⟩, (fun h => by cases h), hB, hfr⟩

/-- The map behind Add's first loop: of the one period the sum. -/
def AddMid (U : Nat → Int) (b1 : Nat) (W wx : World) : Prop := Below W.heap.size W wx ∧ ∃ a c, MapT wx b1 1 (fun _ => some (2026, 1, a, ln U, c)) ∧ Lst 3 wx a (ln U) (lcs U) ∧ (ln U ≤ c ∧ c ≤ maxLen)

set_option maxRecDepth 100000 in
set_option maxHeartbeats 4000000 in
theorem addAll_is (A D : Nat → Int) (hA : small BB A) (hD : small BB D) (hU : small BB (fun i => A i + D i)) (v0 v1 : Value) (y i : Int) (nb : Bool) (a1 : Option Addr) (cap1 : Nat) (f : Unit → Option Sx) (n : Nat) (W : World) (hW : TabIn W v0 A y i nb a1 cap1 f n) (hD1 : One W v1 D) :
    Calls Try.prog 7 #[v0, v1] W (AllOut (fun i => A i + D i) W) := by
  obtain ⟨g, o, cp, a2, cap2, rfl, hg, d0, d1, d2, hl2, hc2, hn2⟩ := hD1
  have HW := Lib.hid hW
  have HK := Lib.hid (fun (w : World) h => scheck_is D hD a2 cap2 w h)
  have HP := Lib.hid (fun w => period_is a2 (ln D) cap2 w)
  have HG := Lib.hid (fun (w : World) h1 h2 => merge_is A D hA hD hU a1 a2 cap1 cap2 w h1 h2 hW.cap hc2)
  have HL2 := Lib.hid hl2
  have HD := Lib.hid (And.intro d0 (And.intro d1 (And.intro d2 hg)))
  clear hW d0 d1 d2 hg hl2 hc2 hn2 hA hD hU
  unfold sv at *
  go_enter Try.func7, Try.ntmps7
  go_wp2_with fail
  refine (HW.out.call W (Below.refl _ _)).mono ?_
  rintro e w1 ⟨b1, rfl, hbl1, hM1, hb1⟩
  have HM1 := Lib.hid hM1
  have HB1 := Lib.hid hb1
  have HBL1 := Lib.hid hbl1
  have d0 := bc HB1.out HD.out.2.2.2 HD.out.1
  have d1 := bc HB1.out HD.out.2.2.2 HD.out.2.1
  have d2 := bc HB1.out HD.out.2.2.2 HD.out.2.2.1
  clear hM1 hb1 hbl1
  go_wp2_with fail
  go_loopw [30] (fun s30 wx => (s30 = .int .i64 0 ∧ wx = w1) ∨ (s30 = .int .i64 1 ∧ Hid (AddMid (fun i => A i + D i) b1 W wx))) (fun s30 _ => 2 - (intOf s30).toNat)
  case atStart => exact .inl ⟨rfl, rfl⟩
  case round =>
    rcases hrel with ⟨rfl, rfl⟩ | ⟨rfl, hmid⟩
    · have hX0 := balloc (Below.refl wr.heap.size wr) (.cells #[.int .i64 2026, .int .i64 1, .slice a2 (ln D) cap2] 29)
      have x0 : (wr.alloc (.cells #[.int .i64 2026, .int .i64 1, .slice a2 (ln D) cap2] 29)).cell? ⟨wr.heap.size, 0, none⟩ = some (.int .i64 2026) := by simp
      have x1 : (wr.alloc (.cells #[.int .i64 2026, .int .i64 1, .slice a2 (ln D) cap2] 29)).cell? ⟨wr.heap.size, 1, none⟩ = some (.int .i64 1) := by simp
      have x2 : (wr.alloc (.cells #[.int .i64 2026, .int .i64 1, .slice a2 (ln D) cap2] 29)).cell? ⟨wr.heap.size, 2, none⟩ = some (.slice a2 (ln D) cap2) := by simp
      have xs : wr.heap.size < (wr.alloc (.cells #[.int .i64 2026, .int .i64 1, .slice a2 (ln D) cap2] 29)).heap.size := by simp
      go_upto_region 9 with fail
      clear d0 d1 d2
      generalize wr.alloc (.cells #[.int .i64 2026, .int .i64 1, .slice a2 (ln D) cap2] 29) = X at *
      obtain ⟨P9, hP9⟩ : ∃ m, wr.heap.size = m := ⟨_, rfl⟩
      have HMX := Lib.hid (HM1.out.next hX0 HM1.out.lt)
      have HXW := Lib.hid (bstep HB1.out hX0)
      rw [hP9] at x0 x1 x2 xs hX0 ⊢
      have HBP : Hid (b1 < P9) := by have := HM1.out.lt; show _ < _; omega
      have HP9 : Hid (W.heap.size ≤ P9) := by have := HB1.out.size; show _ ≤ _; omega
      clear hP9 hX0
      have HX := Lib.hid (And.intro x0 (And.intro x1 (And.intro x2 xs)))
      clear xs
      go_wp2_with fail
      refine (HK.out _ (HL2.out.step HXW.out)).mono ?_
      rintro e w2 ⟨rfl, hb2⟩
      clear x0 x1 x2
      have x0 := bc hb2 HX.out.2.2.2 HX.out.1
      have x1 := bc hb2 HX.out.2.2.2 HX.out.2.1
      have x2 := bc hb2 HX.out.2.2.2 HX.out.2.2.1
      have HB2 := Lib.hid hb2
      clear hb2
      go_wp2_with fail
      refine (HP.out _).mono ?_
      rintro e w3 ⟨rfl, hb3⟩
      have HB3 := Lib.hid (bstep HB2.out hb3)
      clear hb3 HB2 x0 x1 x2
      have HM3 := Lib.hid (HMX.out.next HB3.out HMX.out.lt)
      have hlk := HM3.out.look_ok reads_sx kPer perNames Try.underlying46 (zeroSlip _) (s := ()) trivial
      rw [HW.out.get] at hlk
      obtain ⟨qb, hqb⟩ : ∃ q, (f ()).isSome = q := ⟨_, rfl⟩
      rw [hqb] at hlk
      have HQB := Lib.hid hqb
      clear hqb
      have hlk' : Sem.run Try.prog (Instr.lookup 46 (.map (some b1)) (.agg #[.int .i64 2026, .int .i64 1]) true) w3 = .ok (.tuple #[.agg #[.int .i64 y, .int .i64 i, .slice a1 (ln A) cap1], .bool qb]) w3 := hlk
      clear hlk
      unfold pv
      go_upto_region 13 with fail
      have hV0 := balloc (Below.refl w3.heap.size w3) (.cells #[.int .i64 y, .int .i64 i, .slice a1 (ln A) cap1] 29)
      have t0 : (w3.alloc (.cells #[.int .i64 y, .int .i64 i, .slice a1 (ln A) cap1] 29)).cell? ⟨w3.heap.size, 0, none⟩ = some (.int .i64 y) := by simp
      have t1 : (w3.alloc (.cells #[.int .i64 y, .int .i64 i, .slice a1 (ln A) cap1] 29)).cell? ⟨w3.heap.size, 1, none⟩ = some (.int .i64 i) := by simp
      have t2 : (w3.alloc (.cells #[.int .i64 y, .int .i64 i, .slice a1 (ln A) cap1] 29)).cell? ⟨w3.heap.size, 2, none⟩ = some (.slice a1 (ln A) cap1) := by simp
      have tf : ∀ o, (w3.alloc (.cells #[.int .i64 y, .int .i64 i, .slice a1 (ln A) cap1] 29)).frozen? ⟨w3.heap.size, o, none⟩ = false := fun o => World.frozen?_alloc_at _ _ _ _ rfl
      have ts : w3.heap.size < (w3.alloc (.cells #[.int .i64 y, .int .i64 i, .slice a1 (ln A) cap1] 29)).heap.size := by simp
      generalize w3.alloc (.cells #[.int .i64 y, .int .i64 i, .slice a1 (ln A) cap1] 29) = V at *
      obtain ⟨P, hP⟩ : ∃ m, w3.heap.size = m := ⟨_, rfl⟩
      have HPX : Hid (X.heap.size ≤ P) := by have := HB3.out.size; show _ ≤ _; omega
      rw [hP] at hV0 t0 t1 t2 tf ts ⊢
      have HW3 := Lib.hid hP
      have HV0 := Lib.hid hV0
      have HT := Lib.hid (And.intro t0 (And.intro t1 (And.intro t2 (And.intro tf ts))))
      clear hP hV0 tf ts t0 t1 t2 hlk'
      have HP9P : Hid (P9 < P) := by have := HX.out.2.2.2; have := HPX.out; show _ < _; omega
      go_upto_if 47 with fail
      go_cut [46] (fun s46 wx => Below P w3 wx ∧ P < wx.heap.size ∧ wx.cell? ⟨P, 0, none⟩ = some (.int .i64 2026) ∧ wx.cell? ⟨P, 1, none⟩ = some (.int .i64 1) ∧ wx.cell? ⟨P, 2, none⟩ = some (.slice a1 (ln A) cap1) ∧ ∀ o, wx.frozen? ⟨P, o, none⟩ = false)
      case first =>
        rcases HW.out.num with ⟨hf, hn⟩ | ⟨hf, hn⟩
        · have hq : qb = false := by rw [← HQB.out, hf]; rfl
          have hget := HW.out.get
          rw [hf] at hget
          have hx : Hid (a1 = none ∧ ln A = 0 ∧ cap1 = 0) := by
            change ((0 : Int), (0 : Int), (none : Option Addr), 0, 0) = _ at hget
            injection hget with _ h
            injection h with _ h
            injection h with h1 h
            injection h with h2 h3
            exact ⟨h1.symm, h2.symm, h3.symm⟩
          subst hq
          have c0 := bc HV0.out HP9P.out (bc HB3.out HX.out.2.2.2 HX.out.1)
          have c1 := bc HV0.out HP9P.out (bc HB3.out HX.out.2.2.2 HX.out.2.1)
          have t0 := HT.out.1
          have t1 := HT.out.2.1
          have t2 := HT.out.2.2.1
          have tf := HT.out.2.2.2.1
          clear hf hn hget
          go_wp2_with fail
          go_meet
          obtain ⟨y0, y1, y2⟩ := set3 V P (.int .i64 2026) (.int .i64 1) (.slice none 0 0) t0 t1 t2
          obtain ⟨e1, e2, e3⟩ := hx.out
          rw [e1, e2, e3]
          refine ⟨((HV0.out.setCell (p := ⟨P, 0, none⟩) (Nat.le_refl _) _).setCell (p := ⟨P, 1, none⟩) (Nat.le_refl _) _).setCell (p := ⟨P, 2, none⟩) (Nat.le_refl _) _, by simpa using HT.out.2.2.2.2, y0, y1, y2, fun o => by rw [World.frozen?_setCell, World.frozen?_setCell, World.frozen?_setCell]; exact tf o⟩
        · have hq : qb = true := by rw [← HQB.out, hf]; rfl
          have hget := HW.out.get
          rw [hf] at hget
          have hx : Hid (y = 2026 ∧ i = 1) := by
            change ((2026 : Int), (1 : Int), a1, ln A, cap1) = _ at hget
            injection hget with h1 h
            injection h with h2 h
            exact ⟨h1.symm, h2.symm⟩
          subst hq
          clear hf hn hget
          go_wp2_with fail
          go_meet
          obtain ⟨e1, e2⟩ := hx.out
          refine ⟨HV0.out, HT.out.2.2.2.2, by rw [← e1]; exact HT.out.1, by rw [← e2]; exact HT.out.2.1, HT.out.2.2.1, HT.out.2.2.2.1⟩
      case rest =>
        obtain ⟨hbc, hPs, t0, t1, t2, tf⟩ := hcut
        clear HV0 HT
        have hbc' : Below w3.heap.size w3 wc := by rw [HW3.out]; exact hbc
        have hWc : Below W.heap.size W wc := bstep (bstep HXW.out HB3.out) hbc'
        have HWC := Lib.hid hWc
        have h90 := bc hbc HP9P.out (bc HB3.out HX.out.2.2.2 HX.out.1)
        have h91 := bc hbc HP9P.out (bc HB3.out HX.out.2.2.2 HX.out.2.1)
        have h92 := bc hbc HP9P.out (bc HB3.out HX.out.2.2.2 HX.out.2.2.1)
        have HBC := Lib.hid hbc
        have HM4 := Lib.hid (HM3.out.next hbc' HM3.out.lt)
        clear hbc hbc' hWc
        go_wp2_with fail
        refine (HG.out _ (HW.out.lst.step HWC.out) (HL2.out.step HWC.out)).mono ?_
        rintro e w5 ⟨a, c, rfl, hl5, hc5, hb5, hfr5⟩
        obtain ⟨L, hL⟩ : ∃ m, ln (fun i => A i + D i) = m := ⟨_, rfl⟩
        have HLL := Lib.hid hL
        rw [hL] at hl5 hc5 ⊢
        have hf5 : Hid (∀ x, a = some x → x.block ≠ P) := fun x hx => by have := hfr5 x hx; omega
        have hp5 : Hid (P < w5.heap.size) := Nat.lt_of_lt_of_le hPs hb5.size
        have t0 := bc hb5 hPs t0
        have t1 := bc hb5 hPs t1
        have t2 := bc hb5 hPs t2
        have tf := fun o => bf hb5 hPs (tf o)
        have k0 := bc hb5 (Nat.lt_trans HP9P.out hPs) h90
        have k1 := bc hb5 (Nat.lt_trans HP9P.out hPs) h91
        have k2 := bc hb5 (Nat.lt_trans HP9P.out hPs) h92
        have HL5 := Lib.hid hl5
        have HC5 := Lib.hid hc5
        have hY : Below P w3 (((w5.setCell ⟨P, 0, none⟩ (.int .i64 2026)).setCell ⟨P, 1, none⟩ (.int .i64 1)).setCell ⟨P, 2, none⟩ (.slice a L c)) :=
          (((HBC.out.trans (hb5.mono (Nat.le_of_lt hPs))).setCell (p := ⟨P, 0, none⟩) (Nat.le_refl _) _).setCell (p := ⟨P, 1, none⟩) (Nat.le_refl _) _).setCell (p := ⟨P, 2, none⟩) (Nat.le_refl _) _
        have HY := Lib.hid hY
        obtain ⟨y0, y1, y2⟩ := set3 w5 P (.int .i64 2026) (.int .i64 1) (.slice a L c) t0 t1 t2
        have hYl : Hid (Lst 3 (((w5.setCell ⟨P, 0, none⟩ (.int .i64 2026)).setCell ⟨P, 1, none⟩ (.int .i64 1)).setCell ⟨P, 2, none⟩ (.slice a L c)) a L (lcs fun i => A i + D i)) := ((HL5.out.set hf5.out _).set hf5.out _).set hf5.out _
        have hYs : Hid (P < (((w5.setCell ⟨P, 0, none⟩ (.int .i64 2026)).setCell ⟨P, 1, none⟩ (.int .i64 1)).setCell ⟨P, 2, none⟩ (.slice a L c)).heap.size) := by show P < _; simpa using hp5.out
        have HYY := Lib.hid (And.intro y0 (And.intro y1 y2))
        clear hL hl5 hc5 hb5 hfr5 hY h90 h91 h92 y0 y1 y2
        go_upto_region 18 with fail
        generalize (((w5.setCell ⟨P, 0, none⟩ (.int .i64 2026)).setCell ⟨P, 1, none⟩ (.int .i64 1)).setCell ⟨P, 2, none⟩ (.slice a L c)) = Y at *
        clear t0 t1 t2 tf k0 k1 k2
        have q0 := HYY.out.1
        have q1 := HYY.out.2.1
        have q2 := HYY.out.2.2
        have k0 := bc HY.out HP9P.out (bc HB3.out HX.out.2.2.2 HX.out.1)
        have k1 := bc HY.out HP9P.out (bc HB3.out HX.out.2.2.2 HX.out.2.1)
        have k2 := bc HY.out HP9P.out (bc HB3.out HX.out.2.2.2 HX.out.2.2.1)
        have hY' : Below w3.heap.size w3 Y := by rw [HW3.out]; exact HY.out
        have HMY := Lib.hid (HM3.out.next hY' HM3.out.lt)
        have HYW := Lib.hid (bstep (bstep HXW.out HB3.out) hY')
        have qs : P < Y.heap.size := hYs.out
        have qt : P9 < Y.heap.size := Nat.lt_trans HP9P.out qs
        have hbq : b1 < Y.heap.size := HMY.out.lt
        have hbmP : b1 ≠ P := by have := HBP.out; have := HP9P.out; omega
        have hbm9 : b1 ≠ P9 := by have := HBP.out; omega
        have hmore : Hid (moreK f () n = 1) := by
          show _ = _
          unfold moreK
          rcases HW.out.num with ⟨hf, hn⟩ | ⟨hf, hn⟩
          · rw [hf, hn]; rfl
          · rw [hf, hn]; rfl
        have hnlt : n < maxLen := by unfold maxLen; rcases HW.out.num with ⟨hf, hn⟩ | ⟨hf, hn⟩ <;> omega
        clear hY' hPs
        go_region_held3 (fun w' => (w'.cell? ⟨P, 0, none⟩ = some (.int .i64 2026) ∧ w'.cell? ⟨P, 1, none⟩ = some (.int .i64 1) ∧ w'.cell? ⟨P, 2, none⟩ = some (.slice a L c)) ∧ w'.cell? ⟨P9, 0, none⟩ = some (.int .i64 2026) ∧ w'.cell? ⟨P9, 1, none⟩ = some (.int .i64 1) ∧ w'.cell? ⟨P9, 2, none⟩ = some (.slice a2 (ln D) cap2))
          (first | exact ⟨⟨q0, q1, q2⟩, k0, k1, k2⟩ | exact ⟨⟨bc hb8 qs q0, bc hb8 qs q1, bc hb8 qs q2⟩, bc hb8 qt k0, bc hb8 qt k1, bc hb8 qt k2⟩ | exact ⟨⟨cellM htM hbmP (bc hb8 qs q0), cellM htM hbmP (bc hb8 qs q1), cellM htM hbmP (bc hb8 qs q2)⟩, cellM htM hbm9 (bc hb8 qt k0), cellM htM hbm9 (bc hb8 qt k1), cellM htM hbm9 (bc hb8 qt k2)⟩)
          ((go_at_call 17; refine (HP.out _).mono ?_; rintro e w8 ⟨rfl, hb7⟩; have hb8 : Below Y.heap.size Y w8 := below_drew' hb7; obtain ⟨wM, hrunM, hMM, htM⟩ := (HMY.out.next (m := Y.heap.size) hb8 hbq).store reads_sx kPer perNames Try.underlying46 hnlt (s := ()) trivial (2026, 1, a, L, c); have hrunN : Sem.run Try.prog (Instr.mapUpdate 46 (.map (some b1)) pv (.agg #[.int .i64 2026, .int .i64 1, .slice a L c])) w8 = .ok () wM := hrunM; clear hrunM))
        all_goals
          have hz : Hid (Below W.heap.size W wM) := Below.grown (bstep HYW.out hb8) htM.grown (by have := (bstep HYW.out hb8).size; omega) (fun k hk => by cases hk; exact HBL1.out)
          have hm1 : Hid (MapT wM b1 1 (fun _ => some (2026, 1, a, L, c))) := by
            rw [hmore.out] at hMM
            have e : updK f () (2026, 1, a, L, c) = fun _ => some (2026, 1, a, L, c) := by funext u; rfl
            rw [e] at hMM
            exact hMM
          have hl9 : Hid (Lst 3 wM a L (lcs fun i => A i + D i)) := ⟨hYl.out.1, fun h => by
            obtain ⟨b, off, ha, hlt, hcc⟩ := hYl.out.2 h
            have hbb : b ≠ b1 := fun e => by
              have h1 := hcc 0 h 0 _ rfl
              obtain ⟨DD, hDo, _⟩ := HMY.out
              obtain ⟨es, clock, hb, _⟩ := hDo
              rw [e] at h1
              simp [World.cell?, hb] at h1
            exact ⟨b, off, ha, Nat.lt_of_lt_of_le hlt (Nat.le_trans hb8.size htM.grown.size), fun j hj i u hu => cellM htM (fun e => hbb e.symm) (bc hb8 hlt (hcc j hj i u hu))⟩⟩
          clear hMM htM hrunN
          go_wp2_with fail
          go_roundw
          case rel => exact .inr ⟨by go_num, hz.out, a, c, by rw [HLL.out]; exact hm1.out, by rw [HLL.out]; exact hl9.out, by rw [HLL.out]; exact HC5.out⟩
          case measure => simp [intOf]
    · obtain ⟨hbw, a, c, hMM, hl, hc⟩ := hmid.out
      have HCP := Lib.hid (fun (w : World) h => copy_is (fun i => A i + D i) a c w h)
      obtain ⟨L, hL⟩ : ∃ m, ln (fun i => A i + D i) = m := ⟨_, rfl⟩
      have HLL := Lib.hid hL
      rw [hL] at hMM hl hc HCP
      clear hL
      have hgl : wr.heap.size < (wr.alloc (.cells #[.map (some b1)] 46)).heap.size := by simp
      have hb3 := balloc (Below.refl wr.heap.size wr) (.cells #[.map (some b1)] 46)
      have HP1 := Lib.hid (periods_is 1 (fun _ => b1) (fun _ => 1) (fun _ _ => some (2026, 1, a, L, c)) wr.heap.size _ (by omega) (fun j hj => by omega) hgl (fun j hj => by obtain rfl : j = 0 := by omega
                                                                                                                                                                             simp) (fun j hj => hMM.next hb3 hMM.lt) (by simp [cum]))
      have HB3 := Lib.hid (bstep hbw hb3)
      have HB3' := Lib.hid hb3
      have HMM := Lib.hid hMM
      have HL := Lib.hid hl
      clear hgl hb3 hMM hl hbw hmid hc d0 d1 d2 HK HP HG HL2
      go_wp2_with fail
      refine HP1.out.mono ?_
      rintro e w3 ⟨g3, cap3, rfl, e0, e1, hg1, hg2, hb3⟩
      have HM3 := Lib.hid (HMM.out.next (bstep HB3'.out hb3) HMM.out.lt)
      have HL3 := Lib.hid (HL.out.step (bstep HB3'.out hb3))
      have HBW := Lib.hid (bstep HB3.out hb3)
      clear hb3 HB3' HB3 HP1 HMM HL hg1
      go_wp2_with fail
      go_loopw [13, 71] (fun s13 s71 wx => (s71 = .int .i64 0 ∧ s13 = .slice none 0 0 ∧ wx = w3) ∨ (s71 = .int .i64 1 ∧ Hid (One wx s13 (fun i => A i + D i) ∧ Below W.heap.size W wx))) (fun _ s71 _ => 2 - (intOf s71).toNat)
      case atStart => exact .inl ⟨rfl, rfl, rfl⟩
      case round =>
        rcases hrel with ⟨rfl, rfl, rfl⟩ | ⟨rfl, hfin⟩
        · have hX0 := Lib.hid (balloc (Below.refl wr.heap.size wr) (.cells #[.int .i64 2026, .int .i64 1] 51))
          have x0 : (wr.alloc (.cells #[.int .i64 2026, .int .i64 1] 51)).cell? ⟨wr.heap.size, 0, none⟩ = some (.int .i64 2026) := by simp
          have x1 : (wr.alloc (.cells #[.int .i64 2026, .int .i64 1] 51)).cell? ⟨wr.heap.size, 1, none⟩ = some (.int .i64 1) := by simp
          go_upto_region 24 with fail
          clear e0 e1 hg2
          generalize wr.alloc (.cells #[.int .i64 2026, .int .i64 1] 51) = X at *
          have HXW := Lib.hid (bstep HBW.out hX0.out)
          have HLX := Lib.hid (HL3.out.step hX0.out)
          have hlk := (HM3.out.next hX0.out HM3.out.lt).look reads_sx kPer perNames Try.underlying46 (zeroSlip _) (s := ()) trivial
          have hlk' : Sem.run Try.prog (Instr.lookup 46 (.map (some b1)) (.agg #[.int .i64 2026, .int .i64 1]) false) X = .ok (.agg #[.int .i64 2026, .int .i64 1, .slice a L c]) X := hlk
          have hV0 := balloc (Below.refl X.heap.size X) (.cells #[.int .i64 2026, .int .i64 1, .slice a L c] 29)
          have s0 : (X.alloc (.cells #[.int .i64 2026, .int .i64 1, .slice a L c] 29)).cell? ⟨X.heap.size, 0, none⟩ = some (.int .i64 2026) := by simp
          have s1 : (X.alloc (.cells #[.int .i64 2026, .int .i64 1, .slice a L c] 29)).cell? ⟨X.heap.size, 1, none⟩ = some (.int .i64 1) := by simp
          have s2 : (X.alloc (.cells #[.int .i64 2026, .int .i64 1, .slice a L c] 29)).cell? ⟨X.heap.size, 2, none⟩ = some (.slice a L c) := by simp
          have sf : ∀ o, (X.alloc (.cells #[.int .i64 2026, .int .i64 1, .slice a L c] 29)).frozen? ⟨X.heap.size, o, none⟩ = false := fun o => World.frozen?_alloc_at _ _ _ _ rfl
          have ss : X.heap.size < (X.alloc (.cells #[.int .i64 2026, .int .i64 1, .slice a L c] 29)).heap.size := by simp
          have HVW := Lib.hid (bstep HXW.out hV0)
          have HLV := Lib.hid (HLX.out.step hV0)
          have HGE : Hid (W.heap.size ≤ X.heap.size) := HXW.out.size
          clear hlk hV0
          go_upto_region 25 with fail
          clear hlk' x0 x1
          generalize X.alloc (.cells #[.int .i64 2026, .int .i64 1, .slice a L c] 29) = V at *
          obtain ⟨P, hP⟩ : ∃ m, X.heap.size = m := ⟨_, rfl⟩
          rw [hP] at s0 s1 s2 sf ss HGE ⊢
          have HS := Lib.hid (And.intro s0 (And.intro s1 (And.intro s2 (And.intro sf ss))))
          clear hP sf ss
          go_wp2_with fail
          refine (HCP.out _ HLV.out).mono ?_
          rintro e w6 ⟨a', c', rfl, hl6, hc6, hn6, hb6, hfr6⟩
          rw [HLL.out] at hl6 hc6 hn6 ⊢
          have t0 := bc hb6 HS.out.2.2.2.2 HS.out.1
          have t1 := bc hb6 HS.out.2.2.2.2 HS.out.2.1
          have t2 := bc hb6 HS.out.2.2.2.2 HS.out.2.2.1
          have tf := bf hb6 HS.out.2.2.2.2 (HS.out.2.2.2.1 2)
          have hne : ∀ x, a' = some x → x.block ≠ P := fun x hx => by have := hfr6 x hx; have := HS.out.2.2.2.2; omega
          have HZ := Lib.hid ((bstep HVW.out hb6).setCell (p := ⟨P, 2, none⟩) HGE.out (.slice a' L c'))
          have HLZ := Lib.hid (hl6.set (p := ⟨P, 2, none⟩) hne (.slice a' L c'))
          have z0 : (w6.setCell ⟨P, 2, none⟩ (.slice a' L c')).cell? ⟨P, 0, none⟩ = some (.int .i64 2026) := (World.cell?_setCell_other _ _ _ _ (by intro h; cases h)).trans t0
          have z1 : (w6.setCell ⟨P, 2, none⟩ (.slice a' L c')).cell? ⟨P, 1, none⟩ = some (.int .i64 1) := (World.cell?_setCell_other _ _ _ _ (by intro h; cases h)).trans t1
          have z2 : (w6.setCell ⟨P, 2, none⟩ (.slice a' L c')).cell? ⟨P, 2, none⟩ = some (.slice a' L c') := World.cell?_setCell_same _ _ _ t2
          have HCN := Lib.hid (And.intro hc6 hn6)
          have HZZ := Lib.hid (And.intro z0 (And.intro z1 z2))
          clear hl6 hc6 hn6 hb6 hfr6 hne s0 s1 s2 z0 z1 z2
          go_upto_region 26 with fail
          clear t0 t1 t2 tf
          generalize w6.setCell ⟨P, 2, none⟩ (.slice a' L c') = Z at *
          obtain ⟨z0, z1, z2⟩ := HZZ.out
          obtain ⟨ie, hie, hz0, hz1, hz2⟩ := info_parts infoSlip
          have hnews : ∀ j u, [Value.int .i64 2026, .int .i64 1, .slice a' L c'][j]? = some u → (Z.alloc (.cells #[.int .i64 2026, .int .i64 1, .slice a' L c'] 29)).cell? ((⟨Z.heap.size, 0, none⟩ : Addr).add j) = some u :=
            World.news_of_block (block_alloc_last Z (.cells #[.int .i64 2026, .int .i64 1, .slice a' L c'] 29 (0, 0)))
          go_wp2_with (at_builtin; refine wpList_append_lies _ rfl _ _ 24 rfl Z.heap.size 29 ie (.agg #[.int .i64 0, .int .i64 0, .slice none 0 0]) 3 40 Try.underlying24 hie hz0 hz1 hz2 rfl (by decide) _ 0 [] rfl (World.ownsRow_nil _ _ _ _) ⟨Z.heap.size, 0, none⟩ 1 1 [.int .i64 2026, .int .i64 1, .slice a' L c'] rfl rfl hnews (by intro u hu; simp at hu; rcases hu with rfl | rfl | rfl <;> rfl) (by decide) (by unfold maxLen; omega) (by omega) (by simp) _ rfl ?_)
          intro g6 cp6 w7 hown2 hgr hat6 hglt
          have hb7 : Below Z.heap.size Z w7 := (balloc (Below.refl Z.heap.size Z) _).grown hgr (by simp) (fun k hk => by cases hk)
          have hone : Hid (One w7 (.slice (some ⟨g6, 0, none⟩) 1 cp6) (fun i => A i + D i)) := by
            refine ⟨g6, 0, cp6, a', c', rfl, hglt, hown2.cellAt 0 (by decide), hown2.cellAt 1 (by decide), ?_, ?_, ?_⟩
            · rw [HLL.out]; exact hown2.cellAt 2 (by decide)
            · rw [HLL.out]; exact HLZ.out.step hb7
            · rw [HLL.out]; exact HCN.out
          have hbZ : Hid (Below W.heap.size W w7) := bstep HZ.out hb7
          clear hown2 hgr hat6 hglt hb7 hnews
          go_wp2_with fail
          go_roundw
          case rel => exact .inr ⟨by go_num, hone.out, hbZ.out⟩
          case measure => simp [intOf]
        · go_wp2_with fail
          go_ret2
          exact ⟨_, rfl, hfin.out.1, hfin.out.2⟩
end Go.Proofs.Ytnakcmliopcabaa.W
