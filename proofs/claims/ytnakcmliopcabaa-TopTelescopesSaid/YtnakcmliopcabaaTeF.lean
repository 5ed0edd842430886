/- A list of at most one slip, as a map by periods. -/
import Derived.Test.YtnakcmliopcabaaTeE
import Derived.Deep.DeepCutAuto
import Derived.Deep.RegionHeld3
import Derived.StillTailTactics
namespace Go.Proofs.Ytnakcmliopcabaa.W
open Go.RowKit Go.Proofs.Ytnakcmliopcabaa.M Go.Proofs.Ytnakcmliopcabaa.S
open Go.Maps (Keyed)
set_option linter.unusedVariables false

theorem cellM {w w' : World} {b : Nat} (ht : w.mapTurned w' b) {p o : Nat} (hne : b ≠ p) {v : Value} (h : w.cell? ⟨p, o, none⟩ = some v) : w'.cell? ⟨p, o, none⟩ = some v := by
  have hlt := World.block_lt_of_cell? w ⟨p, o, none⟩ h
  have hb := ht.grown.block p hlt (fun e => hne (by injection e with e; exact e.symm))
  exact (World.cell?_of_block (a := ⟨p, o, none⟩) hb).trans h
def TabOut (f : Unit → Option Sx) (n : Nat) (W : World) (e : Ending) (w' : World) : Prop := ∃ b, e = .returned (.tuple #[.map (some b), .int .i64 0]) ∧ W.heap.size ≤ b ∧ MapT w' b n f ∧ Below W.heap.size W w'
theorem table_none (a : Option Addr) (cap : Nat) (W : World) : Calls Try.prog 10 #[.slice a 0 cap] W (TabOut (fun _ => none) 0 W) := by
  have hM : MapT (W.alloc (.map #[] 0)) W.heap.size 0 (fun _ => none) := mapF_made W
  have HM := Lib.hid hM
  clear hM
  have hmm := @run_makeMap Try.prog
  go_enter Try.func10, Try.ntmps10
  go_wp2_with fail
  clear hmm
  go_loop [14] (fun s14 => s14 = .int .i64 0) (fun _ => 0)
  case atStart => rfl
  case round =>
    obtain rfl := hrel
    go_wp2_with fail
    go_ret2
    exact ⟨_, rfl, Nat.le_refl _, HM.out, balloc (Below.refl _ _) _⟩

set_option maxRecDepth 100000 in
set_option maxHeartbeats 2000000 in
theorem table_one (T : Nat → Int) (hT : small BB T) (a : Option Addr) (cap : Nat) (b0 o0 cap0 : Nat) (W : World) (hl : Lst 3 W a (ln T) (lcs T)) (hlt : b0 < W.heap.size) (h0 : W.cell? ⟨b0, o0, none⟩ = some (.int .i64 2026)) (h1 : W.cell? ⟨b0, o0 + 1, none⟩ = some (.int .i64 1)) (h2 : W.cell? ⟨b0, o0 + 2, none⟩ = some (.slice a (ln T) cap)) :
    Calls Try.prog 10 #[.slice (some ⟨b0, o0, none⟩) 1 cap0] W (TabOut (fun _ => some (2026, 1, a, ln T, cap)) 1 W) := by
  have HC := Lib.hid (fun (w : World) h => scheck_is T hT a cap w h)
  have HP := Lib.hid (fun w => period_is a (ln T) cap w)
  have hM : MapT (W.alloc (.map #[] 0)) W.heap.size 0 (fun _ => none) := mapF_made W
  have HM := Lib.hid hM
  have hB0 := Lib.hid (balloc (Below.refl W.heap.size W) (.map #[] 0))
  have c0 := bc (balloc (Below.refl W.heap.size W) (.map #[] 0)) hlt h0
  have c1 := bc (balloc (Below.refl W.heap.size W) (.map #[] 0)) hlt h1
  have c2 := bc (balloc (Below.refl W.heap.size W) (.map #[] 0)) hlt h2
  have HL := Lib.hid hl
  clear hM h0 h1 h2 hT hl
  unfold sv at *
  have hmm := @run_makeMap Try.prog
  go_enter Try.func10, Try.ntmps10
  go_wp2_with fail
  clear hmm
  have hbm : W.heap.size < (W.alloc (.map #[] 0)).heap.size := by simp
  generalize W.alloc (.map #[] 0) = U at *
  obtain ⟨B, hB⟩ : ∃ B, W.heap.size = B := ⟨_, rfl⟩
  have HB := Lib.hid hB
  rw [hB] at HM hbm ⊢
  clear hB
  go_loopw [14] (fun s14 wx => (s14 = .int .i64 0 ∧ wx = U) ∨ (s14 = .int .i64 1 ∧ Hid (Below W.heap.size W wx ∧ MapT wx B 1 (fun _ => some (2026, 1, a, ln T, cap))))) (fun s14 _ => 2 - (intOf s14).toNat)
  case atStart => exact .inl ⟨rfl, rfl⟩
  case round =>
    rcases hrel with ⟨rfl, rfl⟩ | ⟨rfl, hfin⟩
    · have hBX := Lib.hid (balloc (Below.refl wr.heap.size wr) (.cells #[.int .i64 2026, .int .i64 1, .slice a (ln T) cap] 29))
      have g0 : (wr.alloc (.cells #[.int .i64 2026, .int .i64 1, .slice a (ln T) cap] 29)).cell? ⟨wr.heap.size, 0, none⟩ = some (.int .i64 2026) := by simp
      have g1 : (wr.alloc (.cells #[.int .i64 2026, .int .i64 1, .slice a (ln T) cap] 29)).cell? ⟨wr.heap.size, 1, none⟩ = some (.int .i64 1) := by simp
      have g2 : (wr.alloc (.cells #[.int .i64 2026, .int .i64 1, .slice a (ln T) cap] 29)).cell? ⟨wr.heap.size, 2, none⟩ = some (.slice a (ln T) cap) := by simp
      have gs : wr.heap.size < (wr.alloc (.cells #[.int .i64 2026, .int .i64 1, .slice a (ln T) cap] 29)).heap.size := by simp
      have HG := Lib.hid (And.intro g0 (And.intro g1 (And.intro g2 gs)))
      clear g0 g1 g2 gs
      go_wp2_with fail
      refine (HC.out _ (HL.out.step (bstep hB0.out hBX.out))).mono ?_
      rintro e w1 ⟨rfl, hb1⟩
      have hBY := Lib.hid (bstep hBX.out hb1)
      have g0 := bc hb1 HG.out.2.2.2 HG.out.1
      have g1 := bc hb1 HG.out.2.2.2 HG.out.2.1
      have g2 := bc hb1 HG.out.2.2.2 HG.out.2.2.1
      have gs : wr.heap.size < w1.heap.size := Nat.lt_of_lt_of_le HG.out.2.2.2 hb1.size
      clear hb1 c0 c1 c2 HG hBX
      go_wp2_with fail
      go_quiet (fail)
      have q0 : (w1.drewN nq).cell? ⟨wr.heap.size, 0, none⟩ = some (.int .i64 2026) := g0
      have q1 : (w1.drewN nq).cell? ⟨wr.heap.size, 1, none⟩ = some (.int .i64 1) := g1
      have q2 : (w1.drewN nq).cell? ⟨wr.heap.size, 2, none⟩ = some (.slice a (ln T) cap) := g2
      have qs : wr.heap.size < (w1.drewN nq).heap.size := gs
      have hBQ := Lib.hid (below_drewN hBY.out nq)
      clear g0 g1 g2 gs hBY
      generalize w1.drewN nq = Q at *
      obtain ⟨P5, hP5⟩ : ∃ p, wr.heap.size = p := ⟨_, rfl⟩
      rw [hP5] at q0 q1 q2 qs ⊢
      have HMQ := Lib.hid (HM.out.next hBQ.out hbm)
      have hbm5 : B ≠ P5 := by omega
      have hbq : B < Q.heap.size := by omega
      have HQW := Lib.hid (bstep hB0.out hBQ.out)
      clear hP5 HM hBQ
      go_upto_region 12 with fail
      go_region_held3 (fun w' => w'.cell? ⟨P5, 0, none⟩ = some (.int .i64 2026) ∧ w'.cell? ⟨P5, 1, none⟩ = some (.int .i64 1) ∧ w'.cell? ⟨P5, 2, none⟩ = some (.slice a (ln T) cap))
        (first | exact ⟨q0, q1, q2⟩ | exact ⟨bc hb3 qs q0, bc hb3 qs q1, bc hb3 qs q2⟩ | exact ⟨cellM htM hbm5 (bc hb3 qs q0), cellM htM hbm5 (bc hb3 qs q1), cellM htM hbm5 (bc hb3 qs q2)⟩)
        ((go_at_call 17; refine (HP.out _).mono ?_; rintro e w3 ⟨rfl, hb2⟩; have hb3 : Below Q.heap.size Q w3 := below_drew' hb2; obtain ⟨wM, hrunM, hMM, htM⟩ := (HMQ.out.next (m := Q.heap.size) hb3 hbq).store reads_sx kPer perNames Try.underlying46 (by unfold maxLen; omega) (s := ()) trivial (2026, 1, a, ln T, cap); have hrunN : Sem.run Try.prog (Instr.mapUpdate 46 (.map (some B)) pv (.agg #[.int .i64 2026, .int .i64 1, .slice a (ln T) cap])) w3 = .ok () wM := hrunM; clear hrunM))
      all_goals
        have hz : Hid (Below W.heap.size W wM) := Below.grown (bstep HQW.out hb3) htM.grown (by have := (bstep HQW.out hb3).size; omega) (fun k hk => by cases hk; exact Nat.le_of_eq HB.out)
        have hm1 : Hid (MapT wM B 1 (fun _ => some (2026, 1, a, ln T, cap))) := by
          have h : moreK (fun _ : Unit => (none : Option Sx)) () 0 = 1 := rfl
          rw [h] at hMM
          exact hMM
        clear hMM htM hrunN
        go_wp2_with fail
        go_roundw
        case rel => exact .inr ⟨by go_num, hz.out, hm1.out⟩
        case measure => simp [intOf]
    · go_wp2_with fail
      go_ret2
      exact ⟨_, rfl, Nat.le_of_eq HB.out, hfin.out.2, hfin.out.1⟩
end Go.Proofs.Ytnakcmliopcabaa.W
