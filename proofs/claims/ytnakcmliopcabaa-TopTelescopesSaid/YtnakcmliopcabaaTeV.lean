/- The slip that some amounts make: the law's slipOf. -/
import Derived.Test.YtnakcmliopcabaaTeM
import Derived.WalkLawsBesides
import Derived.StillTailTactics
import Derived.BigQuiet
import Derived.Deep.MidRow
import Derived.Laws.IdiomStrings
namespace Go.Proofs.Ytnakcmliopcabaa.S
open Go.Proofs.Ytnakcmliopcabaa.M
set_option linter.unusedVariables false
/-- An amount: whose, of which run and period, of which part and code; cents. -/
structure Amt where
  p : Int
  r : Int
  q : Int
  t : Int
  k : Int
  c : Int
def U8 (x : Int) : Prop := 0 ≤ x ∧ x ≤ 255
def Amt.ok (x : Amt) : Prop := U8 x.p ∧ U8 x.r ∧ U8 x.q ∧ U8 x.t ∧ U8 x.k ∧ -2147483648 ≤ x.c ∧ x.c ≤ 2147483647
def acells (x : Amt) : List Value := [.int .u8 x.p, .int .u8 x.r, .int .u8 x.q, .int .u8 x.t, .int .u8 x.k, .int .i32 x.c]
/-- Which number of the table. -/
def Amt.num (x : Amt) : Nat := (x.t % 7).toNat * 4 + (x.k % 4).toNat
theorem num_lt (x : Amt) : x.num < 28 := by unfold Amt.num; omega
/-- The table of the first amounts. -/
def tot (C : Nat → Amt) : Nat → Nat → Int
  | 0 => fun _ => 0
  | n + 1 => fun j => if j = (C n).num then tot C n j + (C n).c else tot C n j
theorem tot_bd {C : Nat → Amt} {N : Nat} (hC : ∀ j, j < N → (C j).ok) : ∀ n, n ≤ N → ∀ j, -(n * 2147483648) ≤ tot C n j ∧ tot C n j ≤ n * 2147483648
  | 0, _, j => by simp [tot]
  | n + 1, h, j => by
    have ih := tot_bd hC n (by omega) j
    have h1 := (hC n (by omega)).2.2.2.2.2
    unfold tot
    split <;> omega
end Go.Proofs.Ytnakcmliopcabaa.S
namespace Go.Proofs.Ytnakcmliopcabaa.W
open Go.RowKit Go.Proofs.Ytnakcmliopcabaa.M Go.Proofs.Ytnakcmliopcabaa.S
set_option linter.unusedVariables false

theorem grown_set (w : World) (a : Addr) (u : Value) : w.grownBy (w.setCell a u) (some a.block) :=
  ⟨rfl, rfl, rfl, by simp [World.setCell], fun k hk hne => by
    unfold World.setCell
    simp only
    rw [Array.getElem?_modify, if_neg (fun e => hne (by rw [e]))]⟩
theorem idx_row (T : Nat → Int) (p : Nat) (hp : p < 7) (w : World) : (Instr.index 42 (.agg ((List.range 28).map fun j => Value.int .i64 (T j)).toArray) (.int .i64 (p : Int))).run Try.prog w = .ok (.agg #[.int .i64 (T (p * 4)), .int .i64 (T (p * 4 + 1)), .int .i64 (T (p * 4 + 2)), .int .i64 (T (p * 4 + 3))]) w := by
  rcases (by omega : p = 0 ∨ p = 1 ∨ p = 2 ∨ p = 3 ∨ p = 4 ∨ p = 5 ∨ p = 6) with rfl | rfl | rfl | rfl | rfl | rfl | rfl <;> kernel_rfl
theorem idx_cell (T : Nat → Int) (m j : Nat) (hj : j < 4) (w : World) : (Instr.index 41 (.agg #[.int .i64 (T m), .int .i64 (T (m + 1)), .int .i64 (T (m + 2)), .int .i64 (T (m + 3))]) (.int .i64 (j : Int))).run Try.prog w = .ok (.int .i64 (T (m + j))) w := by
  rcases (by omega : j = 0 ∨ j = 1 ∨ j = 2 ∨ j = 3) with rfl | rfl | rfl | rfl <;> kernel_rfl
theorem conv_code (j : Nat) (hj : j < 4) (w : World) : (convert 43 9 (.slice (some ⟨w.heap.size, 0, none⟩) 1 1)).run Try.prog (w.alloc (.cells #[.int .u8 (97 + (j : Int))] 5)) = .ok (.string (cdB j)) (w.alloc (.cells #[.int .u8 (97 + (j : Int))] 5)) :=
  run_convert_bytes_back (P := Try.prog) (w.alloc (.cells #[.int .u8 (97 + (j : Int))] 5)) 43 9 5 ⟨w.heap.size, 0, none⟩ 1 [UInt8.ofNat (97 + j)] Try.underlying43 Try.underlying5 Try.underlying9 (fun k hk => by
    obtain rfl : k = 0 := by simpa using hk
    have h : ((UInt8.ofNat (97 + j)).toNat : Int) = 97 + (j : Int) := by
      rcases (by omega : j = 0 ∨ j = 1 ∨ j = 2 ∨ j = 3) with rfl | rfl | rfl | rfl <;> rfl
    rw [add_to]
    show (w.alloc _).cell? ⟨w.heap.size, 0, none⟩ = some (.int .u8 ((UInt8.ofNat (97 + j)).toNat : Int))
    rw [h]; simp)
def SlipOut (T : Nat → Int) (W : World) (e : Ending) (w' : World) : Prop := ∃ a cap, e = .returned (sv a (ln T) cap) ∧ Lst 3 w' a (ln T) (lcs T) ∧ (ln T ≤ cap ∧ cap ≤ maxLen) ∧ (a = none → ln T = 0 ∧ cap = 0) ∧ Below W.heap.size W w'

set_option maxRecDepth 100000 in
set_option maxHeartbeats 4000000 in
theorem slip_is (C : Nat → Amt) (n : Nat) (hn : n ≤ 60) (hC : ∀ j, j < n → (C j).ok) (a : Option Addr) (cap : Nat) (W : World) (hl : Lst 6 W a n (fun j => acells (C j))) :
    Calls Try.prog 4 #[.int .i64 2026, .int .i64 1, .slice a n cap] W (SlipOut (tot C n) W) := by
  have HL := Lib.hid hl
  have HC := Lib.hid hC
  have HBD := Lib.hid (tot_bd hC)
  clear hl hC
  go_enter Try.func4, Try.ntmps4
  go_upto_region 2 with fail
  obtain ⟨U, hU⟩ : ∃ U, ((W.alloc (.cells #[.int .i64 0, .int .i64 0, .slice none 0 0] 29)).alloc (.cells #[.int .i64 0, .int .i64 0, .int .i64 0, .int .i64 0, .int .i64 0, .int .i64 0, .int .i64 0, .int .i64 0, .int .i64 0, .int .i64 0, .int .i64 0, .int .i64 0, .int .i64 0, .int .i64 0, .int .i64 0, .int .i64 0, .int .i64 0, .int .i64 0, .int .i64 0, .int .i64 0, .int .i64 0, .int .i64 0, .int .i64 0, .int .i64 0, .int .i64 0, .int .i64 0, .int .i64 0, .int .i64 0] 42)) = U := ⟨_, rfl⟩
  have hBU : Hid (Below W.heap.size W U) := by rw [← hU]; exact balloc (balloc (Below.refl _ _) _) _
  have r0 : U.cell? ⟨W.heap.size, 0, none⟩ = some (.int .i64 0) := by rw [← hU]; clear hU; go_simp
  have r1 : U.cell? ⟨W.heap.size, 1, none⟩ = some (.int .i64 0) := by rw [← hU]; clear hU; go_simp
  have r2 : U.cell? ⟨W.heap.size, 2, none⟩ = some (.slice none 0 0) := by rw [← hU]; clear hU; go_simp
  have rf : ∀ o, U.frozen? ⟨W.heap.size, o, none⟩ = false := fun o => by rw [← hU]; clear hU; go_simp
  have sc : ∀ j, j < 28 → U.cell? ⟨W.heap.size + 1, j, none⟩ = some (.int .i64 0) := fun j hj => by
    rw [← hU]; clear hU
    rw [World.cell?_alloc_at _ _ _ _ (by simp)]
    have h : (#[.int .i64 0, .int .i64 0, .int .i64 0, .int .i64 0, .int .i64 0, .int .i64 0, .int .i64 0, .int .i64 0, .int .i64 0, .int .i64 0, .int .i64 0, .int .i64 0, .int .i64 0, .int .i64 0, .int .i64 0, .int .i64 0, .int .i64 0, .int .i64 0, .int .i64 0, .int .i64 0, .int .i64 0, .int .i64 0, .int .i64 0, .int .i64 0, .int .i64 0, .int .i64 0, .int .i64 0, .int .i64 0] : Array Value) = Array.replicate 28 (.int .i64 0) := rfl
    show (#[.int .i64 0, .int .i64 0, .int .i64 0, .int .i64 0, .int .i64 0, .int .i64 0, .int .i64 0, .int .i64 0, .int .i64 0, .int .i64 0, .int .i64 0, .int .i64 0, .int .i64 0, .int .i64 0, .int .i64 0, .int .i64 0, .int .i64 0, .int .i64 0, .int .i64 0, .int .i64 0, .int .i64 0, .int .i64 0, .int .i64 0, .int .i64 0, .int .i64 0, .int .i64 0, .int .i64 0, .int .i64 0] : Array Value)[j]? = _
    rw [h]; simp [hj]
  have sf : ∀ o, U.frozen? ⟨W.heap.size + 1, o, none⟩ = false := fun o => by rw [← hU]; exact World.frozen?_alloc_at _ _ _ _ (by simp)
  have us : U.heap.size = W.heap.size + 1 + 1 := by rw [← hU]; simp
  rw [hU]
  clear hU
  obtain ⟨P, hP⟩ : ∃ m, W.heap.size + 1 = m := ⟨_, rfl⟩
  rw [hP] at sc sf ⊢
  have HR := Lib.hid (And.intro r0 (And.intro r1 (And.intro r2 rf)))
  have HS := Lib.hid (And.intro sc sf)
  have HP := Lib.hid (And.intro hP us)
  clear r0 r1 r2 rf sc sf us hP
  go_wp2_with fail
  go_loopw [17] (fun s17 wx => ∃ q : Nat, q ≤ n ∧ s17 = .int .i64 q ∧ Hid (U.grownBy wx (some P)) ∧ Hid (∀ j, j < 28 → wx.cell? ⟨P, j, none⟩ = some (.int .i64 (tot C q j))) ∧ Hid (∀ o, wx.frozen? ⟨P, o, none⟩ = false)) (fun s17 _ => n - (intOf s17).toNat)
  case atStart => exact ⟨0, Nat.zero_le _, rfl, World.grownBy.refl _ _, HS.out.1, HS.out.2⟩
  case round =>
    obtain ⟨q, hq, rfl, hgr, hsc, hsf⟩ := hrel
    have hWw : Hid (Below W.heap.size W wr) := hBU.out.grown hgr.out hBU.out.size (fun k hk => by cases hk; have := HP.out.1; omega)
    by_cases cq : q < n
    · have cq' : (q : Int) < (n : Int) := by omega
      obtain ⟨b, o, rfl, hlt, hc⟩ := (HL.out.step hWw.out).at_ cq
      have d0 : wr.cell? ⟨b, o + q * 6, none⟩ = some (.int .u8 (C q).p) := hc 0 _ rfl
      have d1 : wr.cell? ⟨b, o + q * 6 + 1, none⟩ = some (.int .u8 (C q).r) := hc 1 _ rfl
      have d2 : wr.cell? ⟨b, o + q * 6 + 2, none⟩ = some (.int .u8 (C q).q) := hc 2 _ rfl
      have d3 : wr.cell? ⟨b, o + q * 6 + 3, none⟩ = some (.int .u8 (C q).t) := hc 3 _ rfl
      have d4 : wr.cell? ⟨b, o + q * 6 + 4, none⟩ = some (.int .u8 (C q).k) := hc 4 _ rfl
      have d5 : wr.cell? ⟨b, o + q * 6 + 5, none⟩ = some (.int .i32 (C q).c) := hc 5 _ rfl
      have hok := HC.out q cq
      have hb := HBD.out q hq (C q).num
      have hnum : Hid ((C q).num = ((C q).t % 7).toNat * 4 + ((C q).k % 4).toNat) := rfl
      have hcq := hsc.out _ (num_lt (C q))
      have HTOT : Hid (∀ j, tot C (q + 1) j = if j = (C q).num then tot C q j + (C q).c else tot C q j) := fun j => rfl
      have wq : IntKind.i64.wrap ((q : Int) + 1) = (q : Int) + 1 := IntWalk.i64_in _ (by omega)
      clear hc
      obtain ⟨_, _, _, ht, hk, hcb⟩ := hok
      unfold U8 at ht hk
      have e1 : (C q).t.tmod 7 = (((C q).t % 7).toNat : Int) := by rw [Int.tmod_eq_emod_of_nonneg ht.1]; omega
      have e2 : (C q).k.tmod 4 = (((C q).k % 4).toNat : Int) := by rw [Int.tmod_eq_emod_of_nonneg hk.1]; omega
      have e3 : ((C q).t % 7).toNat < 7 := by omega
      have e4 : ((C q).k % 4).toNat < 4 := by omega
      obtain ⟨tn, htn⟩ : ∃ m, ((C q).t % 7).toNat = m := ⟨_, rfl⟩
      obtain ⟨kn, hkn⟩ : ∃ m, ((C q).k % 4).toNat = m := ⟨_, rfl⟩
      rw [htn] at e1 e3 hnum
      rw [hkn] at e2 e4 hnum
      obtain ⟨en, hen⟩ : ∃ m, (C q).num = m := ⟨_, rfl⟩
      rw [hen] at hnum hb hcq HTOT
      have HEN := Lib.hid (And.intro hnum.out (num_lt (C q)))
      rw [hen] at HEN
      clear hen htn hkn hnum
      generalize (C q).t = t at *
      generalize (C q).k = kk at *
      generalize (C q).c = c at *
      generalize (C q).p = p0 at *
      generalize (C q).r = r0 at *
      generalize (C q).q = q0 at *
      obtain ⟨v, hv⟩ : ∃ v, tot C q en = v := ⟨_, rfl⟩
      have HV := Lib.hid hv
      rw [hv] at hcq hb
      clear hv
      go_upto_region 5 with fail
      have hX0 := balloc (Below.refl wr.heap.size wr) (.cells #[.int .u8 p0, .int .u8 r0, .int .u8 q0, .int .u8 t, .int .u8 kk, .int .i32 c] 26)
      have x3 : (wr.alloc (.cells #[.int .u8 p0, .int .u8 r0, .int .u8 q0, .int .u8 t, .int .u8 kk, .int .i32 c] 26)).cell? ⟨wr.heap.size, 3, none⟩ = some (.int .u8 t) := by simp
      have x4 : (wr.alloc (.cells #[.int .u8 p0, .int .u8 r0, .int .u8 q0, .int .u8 t, .int .u8 kk, .int .i32 c] 26)).cell? ⟨wr.heap.size, 4, none⟩ = some (.int .u8 kk) := by simp
      have x5 : (wr.alloc (.cells #[.int .u8 p0, .int .u8 r0, .int .u8 q0, .int .u8 t, .int .u8 kk, .int .i32 c] 26)).cell? ⟨wr.heap.size, 5, none⟩ = some (.int .i32 c) := by simp
      have hPlt := World.block_lt_of_cell? wr ⟨P, en, none⟩ hcq
      have xe := bc hX0 hPlt hcq
      have xf := bf hX0 hPlt (hsf.out en)
      have hGX := Lib.hid (hgr.out.trans (World.grownBy_alloc wr (.cells #[.int .u8 p0, .int .u8 r0, .int .u8 q0, .int .u8 t, .int .u8 kk, .int .i32 c] 26) (some P)))
      have HXC := Lib.hid (fun j hj => bc hX0 (World.block_lt_of_cell? wr ⟨P, j, none⟩ (hsc.out j hj)) (hsc.out j hj))
      have HXF := Lib.hid (fun o => bf hX0 hPlt (hsf.out o))
      clear d0 d1 d2 d3 d4 d5 hcq hX0
      generalize wr.alloc (.cells #[.int .u8 p0, .int .u8 r0, .int .u8 q0, .int .u8 t, .int .u8 kk, .int .i32 c] 26) = X at *
      obtain ⟨P9, hP9⟩ : ∃ m, wr.heap.size = m := ⟨_, rfl⟩
      rw [hP9] at x3 x4 x5 hPlt ⊢
      clear hP9
      rw [HEN.out.1] at xe xf
      have w7 : IntKind.u8.wrap (tn : Int) = (tn : Int) := by simp [IntKind.wrap, IntKind.bits, IntKind.signed]; omega
      have w8 : IntKind.u8.wrap (kn : Int) = (kn : Int) := by simp [IntKind.wrap, IntKind.bits, IntKind.signed]; omega
      have w9 : IntKind.i64.wrap c = c := IntWalk.i64_in _ (by omega)
      have w10 : IntKind.i64.wrap (v + c) = v + c := IntWalk.i64_in _ (by omega)
      have hGZ : Hid (U.grownBy (X.setCell ⟨P, tn * 4 + kn, none⟩ (.int .i64 (v + c))).drew (some P)) := by
        have h := hGX.out.trans (grown_set X ⟨P, tn * 4 + kn, none⟩ (.int .i64 (v + c)))
        exact ⟨h.os, h.tape, h.output, h.size, h.block⟩
      have hZC : Hid (∀ j, j < 28 → (X.setCell ⟨P, tn * 4 + kn, none⟩ (.int .i64 (v + c))).drew.cell? ⟨P, j, none⟩ = some (.int .i64 (tot C (q + 1) j))) := fun j hj => by
        show (X.setCell ⟨P, tn * 4 + kn, none⟩ (.int .i64 (v + c))).cell? ⟨P, j, none⟩ = _
        rw [HTOT.out j]
        by_cases e : j = en
        · rw [if_pos e, e, HEN.out.1, ← HV.out]
          rw [← HEN.out.1]
          rw [HEN.out.1]
          exact World.cell?_setCell_same _ _ _ xe
        · rw [if_neg e, World.cell?_setCell_other _ _ _ _ (by intro h; injection h with _ h; rw [← HEN.out.1] at h; exact e h.symm)]
          exact HXC.out j hj
      have hZF : Hid (∀ o, (X.setCell ⟨P, tn * 4 + kn, none⟩ (.int .i64 (v + c))).drew.frozen? ⟨P, o, none⟩ = false) := fun o => by
        show (X.setCell ⟨P, tn * 4 + kn, none⟩ (.int .i64 (v + c))).frozen? ⟨P, o, none⟩ = false
        rw [World.frozen?_setCell]; exact HXF.out o
      go_region
      go_wp2_with fail
      go_roundw
      case rel => exact ⟨q + 1, by omega, by go_num, hGZ.out, hZC.out, hZF.out⟩
      case measure => simp [intOf]; omega
    · obtain rfl : q = n := by omega
      have cq' : ¬ (q : Int) < (q : Int) := by omega
      have hP6 : W.heap.size ≠ P := by have := HP.out.1; omega
      have g0 := hgr.out.cell HR.out.1 (by intro h; injection h with h; exact hP6 h)
      have g1 := hgr.out.cell HR.out.2.1 (by intro h; injection h with h; exact hP6 h)
      have g2 := hgr.out.cell HR.out.2.2.1 (by intro h; injection h with h; exact hP6 h)
      have gf : ∀ o, wr.frozen? ⟨W.heap.size, o, none⟩ = false := fun o => (hgr.out.frozen_far ⟨W.heap.size, o, none⟩ (by have := HP.out.2; show W.heap.size < _; omega) (by intro h; injection h with h; exact hP6 h)).trans (HR.out.2.2.2 o)
      have gs : W.heap.size + 1 < wr.heap.size := by have := HP.out.2; have := hgr.out.size; omega
      have hT28 := Lib.hid (fun j => HBD.out q (Nat.le_refl _) j)
      obtain ⟨T, hT⟩ : ∃ T, tot C q = T := ⟨_, rfl⟩
      rw [hT] at hsc hT28 ⊢
      have HTC := Lib.hid hT
      clear hT HL HC HBD HS hgr
      have HGR := Lib.hid (And.intro g0 (And.intro g1 (And.intro g2 (And.intro gf gs))))
      clear g0 g1 g2 gf
      have hV0 := balloc (Below.refl wr.heap.size wr) (.cells #[.int .i64 2026, .int .i64 1, .slice none 0 0] 29)
      have m0 : (wr.alloc (.cells #[.int .i64 2026, .int .i64 1, .slice none 0 0] 29)).cell? ⟨wr.heap.size, 0, none⟩ = some (.int .i64 2026) := by simp
      have m1 : (wr.alloc (.cells #[.int .i64 2026, .int .i64 1, .slice none 0 0] 29)).cell? ⟨wr.heap.size, 1, none⟩ = some (.int .i64 1) := by simp
      have m2 : (wr.alloc (.cells #[.int .i64 2026, .int .i64 1, .slice none 0 0] 29)).cell? ⟨wr.heap.size, 2, none⟩ = some (.slice none 0 0) := by simp
      have mf : ∀ o, (wr.alloc (.cells #[.int .i64 2026, .int .i64 1, .slice none 0 0] 29)).frozen? ⟨wr.heap.size, o, none⟩ = false := fun o => World.frozen?_alloc_at _ _ _ _ rfl
      have ms : wr.heap.size < (wr.alloc (.cells #[.int .i64 2026, .int .i64 1, .slice none 0 0] 29)).heap.size := by simp
      have hst0 : Hid (MSt (wr.alloc (.cells #[.int .i64 2026, .int .i64 1, .slice none 0 0] 29)) wr.heap.size T 0 (wr.alloc (.cells #[.int .i64 2026, .int .i64 1, .slice none 0 0] 29)) (.slice none 0 0)) := ⟨Below.refl _ _, ms, m0, m1, m2, mf, World.ownsRow_nil _ _ _ _⟩
      have HV0 := Lib.hid hV0
      have HVW := Lib.hid (bstep hWw.out hV0)
      have HVC := Lib.hid (fun j hj => bc hV0 (World.block_lt_of_cell? wr ⟨P, j, none⟩ (hsc.out j hj)) (hsc.out j hj))
      clear hV0 m0 m1 m2 mf ms hsc hsf hWw
      go_upto_region 8 with fail
      generalize wr.alloc (.cells #[.int .i64 2026, .int .i64 1, .slice none 0 0] 29) = V at *
      obtain ⟨P10, hP10⟩ : ∃ m, wr.heap.size = m := ⟨_, rfl⟩
      rw [hP10] at hst0 gs HV0 ⊢
      clear hP10
      obtain ⟨cs, hcs⟩ : ∃ cs, (List.range 28).map (fun j => Value.int .i64 (T j)) = cs := ⟨_, rfl⟩
      have hra : V.rangeAt P 0 cs := fun j v hv => by
        rw [← hcs, List.getElem?_map] at hv
        by_cases hj : j < 28
        · rw [List.getElem?_range hj] at hv
          rw [Nat.zero_add, HVC.out j hj]; exact hv
        · rw [List.getElem?_eq_none (by simpa using hj)] at hv; cases hv
      have hsz : (Try.prog.info? 42).map (·.size) = some cs.length := by rw [← hcs, List.length_map, List.length_range]; kernel_rfl
      have HCS := Lib.hid hcs
      clear hcs
      go_wp2_with (with_reducible refine wpList_load_mid rfl 42 _ rfl P 0 rfl cs _ hra Try.underlying42 rfl hsz ?_)
      clear hra hsz
      go_loopw [41] (fun s41 wx => ∃ (p : Nat) (v : Value), p ≤ 7 ∧ s41 = .int .i64 p ∧ Hid (MSt V P10 T (p * 4) wx v)) (fun s41 _ => 7 - (intOf s41).toNat)
      case atStart => exact ⟨0, _, by omega, rfl, hst0.out⟩
      case round =>
        obtain ⟨p, v, hp, rfl, hst⟩ := hrel
        by_cases cp : p < 7
        · have cp' : (p : Int) < 7 := by omega
          have wp : IntKind.i64.wrap ((p : Int) + 1) = (p : Int) + 1 := IntWalk.i64_in _ (by omega)
          have hix : ∀ w, Sem.run Try.prog (Instr.index 42 (.agg cs.toArray) (.int .i64 (p : Int))) w = .ok (.agg #[.int .i64 (T (p * 4)), .int .i64 (T (p * 4 + 1)), .int .i64 (T (p * 4 + 2)), .int .i64 (T (p * 4 + 3))]) w := fun w => by
            rw [← HCS.out]; exact idx_row T p cp w
          have hcell := Lib.hid (fun j hj w => idx_cell T (p * 4) j hj w)
          obtain ⟨t0, ht0⟩ : ∃ x, T (p * 4) = x := ⟨_, rfl⟩
          obtain ⟨t1, ht1⟩ : ∃ x, T (p * 4 + 1) = x := ⟨_, rfl⟩
          obtain ⟨t2, ht2⟩ : ∃ x, T (p * 4 + 2) = x := ⟨_, rfl⟩
          obtain ⟨t3, ht3⟩ : ∃ x, T (p * 4 + 3) = x := ⟨_, rfl⟩
          rw [ht0, ht1, ht2, ht3] at hix hcell
          have hst1 := Lib.hid (hst.out.step (balloc (Below.refl _ _) (.cells #[.int .i64 t0, .int .i64 t1, .int .i64 t2, .int .i64 t3] 41)))
          clear ht0 ht1 ht2 ht3 hst
          go_wp2_with fail
          clear hix
          go_loopw [46] (fun s46 wx => ∃ (j : Nat) (v : Value), j ≤ 4 ∧ s46 = .int .i64 j ∧ Hid (MSt V P10 T (p * 4 + j) wx v)) (fun s46 _ => 4 - (intOf s46).toNat)
          case atStart => exact ⟨0, _, by omega, rfl, hst1.out⟩
          case round =>
            clear hst1
            obtain ⟨j, v, hj, rfl, hst⟩ := hrel
            by_cases cj : j < 4
            · have cj' : (j : Int) < 4 := by omega
              have wj : IntKind.i64.wrap ((j : Int) + 1) = (j : Int) + 1 := IntWalk.i64_in _ (by omega)
              have hix := hcell.out j cj
              have hpj : Hid (p * 4 + j < 28) := by show _ < _; omega
              by_cases c0 : T (p * 4 + j) = 0
              · have hnx := Lib.hid (hst.out.skip (Nat.le_refl _) (fun k h1 h2 => by
                  have : k = p * 4 + j := by omega
                  rw [this]; exact c0))
                rw [c0] at hix
                clear c0
                go_wp2_with fail
                go_roundw
                case rel => exact ⟨j + 1, v, by omega, by go_num, hnx.out⟩
                case measure => simp [intOf]; omega
              · have z0 : (T (p * 4 + j) != 0) = true := by rw [bne_iff_ne]; exact c0
                obtain ⟨c, hc⟩ : ∃ c, T (p * 4 + j) = c := ⟨_, rfl⟩
                rw [hc] at hix z0
                have HC := Lib.hid (And.intro hc c0)
                clear hc c0
                have hc2 := hst.out.c2
                have hfz := hst.out.fz 2
                have hPw := hst.out.hi
                have hconv : ∀ w : World, Sem.run Try.prog (convert 43 9 (.slice (some ⟨w.heap.size, 0, none⟩) 1 1)) (w.alloc (.cells #[.int .u8 (97 + (j : Int))] 5)) = .ok (.string (cdB j)) (w.alloc (.cells #[.int .u8 (97 + (j : Int))] 5)) := fun w => conv_code j cj w
                have hlc : Hid (lc (p * 4 + j) c = [.int .i64 (p : Int), .string (cdB j), .int .i64 c]) := by
                  show [Value.int .i64 (prt (p * 4 + j)), .string (cod (p * 4 + j)), .int .i64 c] = _
                  have e1 : prt (p * 4 + j) = (p : Int) := by unfold prt; omega
                  have e2 : cod (p * 4 + j) = cdB j := by unfold cod; rw [show (p * 4 + j) % 4 = j by omega]
                  rw [e1, e2]
                obtain ⟨s, hs⟩ : ∃ s, cdB j = s := ⟨_, rfl⟩
                rw [hs] at hconv hlc
                clear hs
                have hown1 := hst.out.own.alloc (.cells #[.int .u8 (97 + (j : Int))] 5)
                have hgA := World.grownBy_alloc wr (.cells #[.int .u8 (97 + (j : Int))] 5) v.ownBlock
                obtain ⟨V1, hV1⟩ : ∃ V1, wr.alloc (.cells #[.int .u8 (97 + (j : Int))] 5) = V1 := ⟨_, rfl⟩
                have hsV : wr.heap.size < V1.heap.size := by rw [← hV1]; simp
                rw [hV1] at hown1 hgA
                have hconv1 := hconv wr
                rw [hV1] at hconv1
                clear hconv
                have hownA := hown1.alloc (.cells #[.int .i64 (p : Int), .string s, .int .i64 c] 45)
                have hnews : ∀ j u, [Value.int .i64 (p : Int), .string s, .int .i64 c][j]? = some u → (V1.alloc (.cells #[.int .i64 (p : Int), .string s, .int .i64 c] 45)).cell? ((⟨V1.heap.size, 0, none⟩ : Addr).add j) = some u :=
                  World.news_of_block (block_alloc_last V1 (.cells #[.int .i64 (p : Int), .string s, .int .i64 c] 45 (0, 0)))
                obtain ⟨ie, hie, hi0, hi1, hi2⟩ := info_parts infoLine
                have hil := idx_len T (p * 4 + j)
                have hpj28 := hpj.out
                have hsz1 : P10 + 1 ≤ V1.heap.size := by omega
                have HO1 := Lib.hid hown1
                have HGA := Lib.hid hgA
                clear hown1 hgA
                go_wp2_with (at_builtin; refine wpList_append_lies _ rfl _ _ 27 rfl (P10 + 1) 45 ie (.agg #[.int .i64 0, .string ByteArray.empty, .int .i64 0]) 3 32 Try.underlying27 hie hi0 hi1 hi2 rfl (by decide) _ _ _ rfl hownA ⟨V1.heap.size, 0, none⟩ 1 1 [.int .i64 (p : Int), .string s, .int .i64 c] rfl rfl hnews (by intro u hu; simp at hu; rcases hu with rfl | rfl | rfl <;> rfl) (by decide) (by unfold maxLen; omega) (by omega) (by simp; omega) _ rfl ?_)
                intro g6 cp6 w6 hown2 hgr hat6 hglt
                have hgr1 := HGA.out.trans (grown_alloc hgr (fun j hj => (HO1.out.lt j hj).2))
                obtain ⟨_, hP6, _, _, c26, f26⟩ := hst.out.grown hgr1
                have f262 := f26 2
                have hown3 : w6.ownsRow (P10 + 1) 45 3 (.slice (some ⟨g6, 0, none⟩) ((idx T (p * 4 + j)).length + 1) cp6) ((idx T (p * 4 + j)).length + 1) (XR (lcu T (p * 4 + j)) (idx T (p * 4 + j)).length ++ lc (p * 4 + j) (T (p * 4 + j))) := by
                  rw [HC.out.1, hlc.out]; exact hown2
                have hnx := Lib.hid (hst.out.app hgr1 hown3 (Nat.le_refl _) (fun k h1 h2 => by omega) (by rw [HC.out.1]; rw [← HC.out.1]; exact HC.out.2))
                clear hown2 hgr hgr1 hownA hnews f26 hat6 hown3 hV1 hconv1 hc2 hfz
                go_wp2_with fail
                go_roundw
                case rel => exact ⟨j + 1, _, by omega, by go_num, hnx.out⟩
                case measure => simp [intOf]; omega
            · obtain rfl : j = 4 := by omega
              have cj' : ¬ ((4 : Nat) : Int) < 4 := by omega
              go_wp2_with fail
              go_roundw
              case rel => exact ⟨p + 1, v, by omega, by go_num, by rw [show (p + 1) * 4 = p * 4 + 4 by omega]; exact hst.out⟩
              case measure => simp [intOf]; omega
        · obtain rfl : p = 7 := by omega
          have cp' : ¬ ((7 : Nat) : Int) < 7 := by omega
          have hown := hst.out.own
          rw [show 7 * 4 = 28 from rfl, lcu_all] at hown
          have hln28 := ln_le T
          have hcap : ∃ a cap, v = .slice a (ln T) cap ∧ (ln T ≤ cap ∧ cap ≤ maxLen) ∧ (a = none → ln T = 0 ∧ cap = 0) := by
            rcases hown.2 with ⟨hv, h0⟩ | ⟨g', cap', cur, hv, _, _, k1, k2, _⟩
            · exact ⟨none, 0, by rw [hv]; unfold ln; rw [h0], by unfold ln; rw [h0]; exact ⟨Nat.le_refl _, Nat.zero_le _⟩, fun _ => ⟨h0, rfl⟩⟩
            · exact ⟨_, cap', hv, ⟨k1, k2⟩, (fun h => by cases h)⟩
          obtain ⟨a', cap', rfl, hcp, hnl⟩ := hcap
          have h0 := hst.out.c0
          have h1 := hst.out.c1
          have h2 := hst.out.c2
          have hPs := hst.out.hi
          have p0 := bc hst.out.bel (show W.heap.size < P10 by omega) (bc HV0.out (show W.heap.size < P10 by omega) HGR.out.1)
          have p1 := bc hst.out.bel (show W.heap.size < P10 by omega) (bc HV0.out (show W.heap.size < P10 by omega) HGR.out.2.1)
          have p2 := bc hst.out.bel (show W.heap.size < P10 by omega) (bc HV0.out (show W.heap.size < P10 by omega) HGR.out.2.2.1)
          have pf : ∀ o, wr.frozen? ⟨W.heap.size, o, none⟩ = false := fun o => bf hst.out.bel (show W.heap.size < P10 by omega) (bf HV0.out (show W.heap.size < P10 by omega) (HGR.out.2.2.2.1 o))
          have HO := Lib.hid hown
          have HCN := Lib.hid (And.intro hcp hnl)
          have HGE : Hid (W.heap.size ≤ P10) := by show _ ≤ _; omega
          have HWB : Hid (Below W.heap.size W wr) := HVW.out.trans (hst.out.bel.mono HGE.out)
          clear hown hcp hnl hst
          go_wp2_with fail
          obtain ⟨y0, y1, y2⟩ := set3 wr W.heap.size (.int .i64 2026) (.int .i64 1) (.slice a' (ln T) cap') p0 p1 p2
          have hBz : Hid (Below W.heap.size W (((wr.setCell ⟨W.heap.size, 0, none⟩ (.int .i64 2026)).setCell ⟨W.heap.size, 1, none⟩ (.int .i64 1)).setCell ⟨W.heap.size, 2, none⟩ (.slice a' (ln T) cap'))) := bset3 HWB.out (Nat.le_refl _)
          have hnb : (Value.slice a' (ln T) cap').ownBlock ≠ some W.heap.size := fun e => by have := (HO.out.lt _ e).1; have := HGE.out; omega
          have hOz := ownsRow_setCell_other (a := ⟨W.heap.size, 2, none⟩) (ownsRow_setCell_other (a := ⟨W.heap.size, 1, none⟩) (ownsRow_setCell_other (a := ⟨W.heap.size, 0, none⟩) HO.out hnb (.int .i64 2026)) hnb (.int .i64 1)) hnb (.slice a' (ln T) cap')
          obtain ⟨a3, cap3, he3, hlz⟩ := own_lst (z := 3) (fun q => rfl) hOz (by show ln T ≤ _; omega)
          injection he3 with e1 _ e3
          subst e1 e3
          generalize (((wr.setCell ⟨W.heap.size, 0, none⟩ (.int .i64 2026)).setCell ⟨W.heap.size, 1, none⟩ (.int .i64 1)).setCell ⟨W.heap.size, 2, none⟩ (.slice a' (ln T) cap')) = Y at *
          exact bodyPost_ret (v := .agg #[.int .i64 2026, .int .i64 1, .slice a' (ln T) cap']) (by simp [results, Try.results4, go_sem, y0, y1, y2]) rfl (by rw [HTC.out]; exact ⟨a', cap', rfl, hlz, HCN.out.1, HCN.out.2, hBz.out⟩)
end Go.Proofs.Ytnakcmliopcabaa.W
