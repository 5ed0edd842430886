/- Which facts are taken back. -/
import Derived.Test.YtbnjgbllenndaaaGreatDoorTkH
import Derived.Deep.RegionHeld3
namespace Go.Proofs.YtbnjgbllenndaaaGreatDoor.W
open Go.RowKit Go.Proofs.YtbnjgbllenndaaaGreatDoor.M Go.Proofs.YtbnjgbllenndaaaGreatDoor.S
set_option linter.unusedVariables false

theorem infoBool : (Tryz.prog.info? 4).map (fun i => (i.zero, i.size, i.bytes)) = some (some (.bool false), 1, 1) := by kernel_rfl
/-- A fact is a salary, or takes back one of the first. -/
def Kinds (F : Nat → Fc) (n : Nat) : Prop := ∀ j, j < n → (F j).kind = 2 ∨ ∃ k, k < n ∧ F j = can (k + 1)
def BackOut (F : Nat → Fc) (n : Nat) (W : World) (e : Ending) (w' : World) : Prop := ∃ g, e = .returned (.slice (some ⟨g, 0, none⟩) n n) ∧ W.heap.size ≤ g ∧ g < w'.heap.size ∧ (∀ j, j < n → w'.cell? ⟨g, j, none⟩ = some (.bool (bkf F n n j))) ∧ Below W.heap.size W w'
theorem bkf_skip {F : Nat → Fc} {n q : Nat} (h : (F q).kind = 2) : bkf F n (q + 1) = bkf F n q := by
  funext j
  show (if _ then _ else _) = _
  rw [if_neg (fun e => by rw [h] at e; exact absurd e.1 (by decide))]
theorem bkf_set {F : Nat → Fc} {n q k : Nat} (hk : k < n) (h : F q = can (k + 1)) (j : Nat) : bkf F n (q + 1) j = if j = k then true else bkf F n q j := by
  show (if _ then _ else _) = _
  rw [h]
  show (if (18 : Int) = 18 ∧ (1 : Int) ≤ ((k + 1 : Nat) : Int) ∧ ((k + 1 : Nat) : Int) ≤ n ∧ ((k + 1 : Nat) : Int) = (j : Int) + 1 then true else bkf F n q j) = _
  by_cases e : j = k
  · rw [if_pos (by omega), if_pos e]
  · rw [if_neg (by omega), if_neg e]

set_option maxRecDepth 100000 in
set_option maxHeartbeats 4000000 in
theorem back_is (F : Nat → Fc) (n : Nat) (hn : n ≤ 100) (hF : Kinds F n) (a : Option Addr) (W : World) (hl : Lst 8 W a n (fun j => fcl (F j))) :
    Calls Tryz.prog 27 #[.agg #[.slice a n n]] W (BackOut F n W) := by
  have HL := Lib.hid hl
  have HF := Lib.hid hF
  clear hl hF
  obtain ⟨ie, hie, hi0, hi1, hi2⟩ := info_parts infoBool
  have hX0 := balloc (Below.refl W.heap.size W) (.cells #[.slice a n n] 46)
  have x0 : (W.alloc (.cells #[.slice a n n] 46)).cell? ⟨W.heap.size, 0, none⟩ = some (.slice a n n) := by simp
  have xs : W.heap.size < (W.alloc (.cells #[.slice a n n] 46)).heap.size := by simp
  obtain ⟨X, hX⟩ : ∃ X, W.alloc (.cells #[.slice a n n] 46) = X := ⟨_, rfl⟩
  rw [hX] at hX0 x0 xs
  obtain ⟨v4, hmk, hown, hg4⟩ := run_makeSlice_full (P := Tryz.prog) (w := X) X.heap.size 72 4 ie _ 1 Tryz.underlying72 hie hi0 hi1 .i64 .i64 n (by omega) (by rw [hi2]; omega) (by unfold maxLen; omega) (Nat.le_refl _)
  have hmk' : Sem.run Tryz.prog (Instr.makeSlice 72 (.int .i64 (n : Int)) (.int .i64 (n : Int))) X = .ok (.slice (some ⟨X.heap.size, 0, none⟩) n n) v4 := hmk
  have hcl : ∀ j, j < n → v4.cell? ⟨X.heap.size, j, none⟩ = some (.bool false) := fun j hj => by
    rw [hown.cellAt j (by omega)]
    simp [madeCells, Value.cells, hj, Nat.mod_one]
  have hfz : ∀ j, v4.frozen? ⟨X.heap.size, j, none⟩ = false := fun j => hown.frozenAt j
  have hgs : X.heap.size < v4.heap.size := (hown.lt X.heap.size rfl).2
  have HB4 : Hid (Below X.heap.size X v4) := (Below.refl _ _).grown hg4 (Nat.le_refl _) (fun k h => by cases h)
  clear hmk hown hg4
  go_enter Tryz.func27, Tryz.ntmps27
  go_upto_region 2 with fail
  clear hX hmk'
  have y0 := bc HB4.out xs x0
  obtain ⟨g, hg⟩ : ∃ g, X.heap.size = g := ⟨_, rfl⟩
  have HXW := Lib.hid hX0
  have HG := Lib.hid hg
  rw [hg] at hcl hfz hgs ⊢
  clear hg hX0 x0
  have HC := Lib.hid hcl
  have HZ := Lib.hid hfz
  have HGS : Hid (g < v4.heap.size) := hgs
  clear hcl hfz hgs
  go_wp2_with fail
  go_loopw [13] (fun s13 wx => ∃ q : Nat, q ≤ n ∧ s13 = .int .i64 q ∧ Hid (v4.grownBy wx (some g)) ∧ Hid (∀ j, j < n → wx.cell? ⟨g, j, none⟩ = some (.bool (bkf F n q j))) ∧ Hid (∀ j, wx.frozen? ⟨g, j, none⟩ = false)) (fun s13 _ => n - (intOf s13).toNat)
  case atStart => exact ⟨0, Nat.zero_le _, rfl, World.grownBy.refl _ _, HC.out, HZ.out⟩
  case round =>
    obtain ⟨q, hq, rfl, hgr, hc, hf⟩ := hrel
    clear y0
    have hWw : Hid (Below W.heap.size W wr) := (bstep HXW.out HB4.out).grown hgr.out (bstep HXW.out HB4.out).size (fun k hk => by cases hk; have := HG.out; have := HXW.out.size; omega)
    by_cases cq : q < n
    · have cq' : (q : Int) < (n : Int) := by omega
      have wq : IntKind.i64.wrap ((q : Int) + 1) = (q : Int) + 1 := IntWalk.i64_in _ (by omega)
      obtain ⟨b, o, rfl, hlt, d0, d1, d2, d3, d4, d5, d6, d7⟩ := lst_fact (HL.out.step hWw.out) cq
      rcases HF.out q cq with hk | ⟨k, hkn, hk⟩
      · have hnx : Hid (∀ j, j < n → wr.cell? ⟨g, j, none⟩ = some (.bool (bkf F n (q + 1) j))) := by rw [bkf_skip hk]; exact hc.out
        rw [hk] at d2
        generalize F q = x at *
        obtain ⟨per, kind, fr, en, num⟩ := x
        simp only at d1 d3 d4 d6
        have hA0 := balloc (Below.refl wr.heap.size wr) (.cells #[.int .u32 0, .int .u32 per, .int .i64 2, .int .i64 fr, .int .i64 en, .string ⟨#[]⟩, .int .i64 num, .string ⟨#[]⟩] 38)
        have hgl : g < wr.heap.size := Nat.lt_of_lt_of_le HGS.out hgr.out.size
        have hga := Lib.hid (hgr.out.trans (World.grownBy_alloc wr (.cells #[.int .u32 0, .int .u32 per, .int .i64 2, .int .i64 fr, .int .i64 en, .string ⟨#[]⟩, .int .i64 num, .string ⟨#[]⟩] 38) (some g)))
        have hca := Lib.hid (fun j hj => bc hA0 hgl (hnx.out j hj))
        have hfa := Lib.hid (fun j => bf hA0 hgl (hf.out j))
        clear hA0 hk hnx
        go_wp2_with fail
        go_roundw
        case rel => exact ⟨q + 1, by omega, by go_num, hga.out, hca.out, hfa.out⟩
        case measure => simp [intOf]; omega
      · have hst := Lib.hid (fun j => bkf_set hkn hk (F := F) (n := n) (q := q) j)
        obtain ⟨m, hm⟩ : ∃ m : Int, ((k + 1 : Nat) : Int) = m := ⟨_, rfl⟩
        have e1 : (F q).per = 0 := by rw [hk]; rfl
        have e2 : (F q).kind = 18 := by rw [hk]; rfl
        have e3 : (F q).fr = 0 := by rw [hk]; rfl
        have e4 : (F q).en = 0 := by rw [hk]; rfl
        have e5 : (F q).num = m := by rw [hk, ← hm]; rfl
        rw [e1] at d1
        rw [e2] at d2
        rw [e3] at d3
        rw [e4] at d4
        rw [e5] at d6
        have c1 : (1 : Int) ≤ m := by omega
        have c2 : m ≤ (n : Int) := by omega
        have w1 : IntKind.i64.wrap (m - 1) = (k : Int) := by rw [IntWalk.i64_in _ (by omega)]; omega
        have hkn' : (k : Int) < (n : Int) := by omega
        have hgl : g < wr.heap.size := Nat.lt_of_lt_of_le HGS.out hgr.out.size
        have hA0 := balloc (Below.refl wr.heap.size wr) (.cells #[.int .u32 0, .int .u32 0, .int .i64 18, .int .i64 0, .int .i64 0, .string ⟨#[]⟩, .int .i64 m, .string ⟨#[]⟩] 38)
        have y1 := bc hA0 hgl (hc.out k hkn)
        have y2 := bf hA0 hgl (hf.out k)
        have hgS : g < (wr.setCell ⟨g, k, none⟩ (.bool true)).heap.size := by simpa using hgl
        have hcS : ∀ j, j < n → (wr.setCell ⟨g, k, none⟩ (.bool true)).cell? ⟨g, j, none⟩ = some (.bool (bkf F n (q + 1) j)) := fun j hj => by
          rw [hst.out j]
          by_cases e : j = k
          · rw [if_pos e, e]; exact World.cell?_setCell_same _ _ _ (hc.out k hkn)
          · rw [if_neg e, World.cell?_setCell_other _ _ _ _ (by intro h; injection h with _ h; exact e h.symm)]; exact hc.out j hj
        have hfS : ∀ j, (wr.setCell ⟨g, k, none⟩ (.bool true)).frozen? ⟨g, j, none⟩ = false := fun j => by
          rw [World.frozen?_setCell]; exact hf.out j
        have hS0 := balloc (Below.refl (wr.setCell ⟨g, k, none⟩ (.bool true)).heap.size (wr.setCell ⟨g, k, none⟩ (.bool true))) (.cells #[.int .u32 0, .int .u32 0, .int .i64 18, .int .i64 0, .int .i64 0, .string ⟨#[]⟩, .int .i64 m, .string ⟨#[]⟩] 38)
        have hga := Lib.hid ((hgr.out.trans (grown_set' wr ⟨g, k, none⟩ (.bool true))).trans (World.grownBy_alloc (wr.setCell ⟨g, k, none⟩ (.bool true)) (.cells #[.int .u32 0, .int .u32 0, .int .i64 18, .int .i64 0, .int .i64 0, .string ⟨#[]⟩, .int .i64 m, .string ⟨#[]⟩] 38) (some g)))
        have hca := Lib.hid (fun j hj => bc hS0 hgS (hcS j hj))
        have hfa := Lib.hid (fun j => bf hS0 hgS (hfS j))
        clear hcS hfS hS0 hgS
        have HKG : Hid (g ≠ wr.heap.size) := by show _ ≠ _; omega
        have hkg := HKG.out
        clear hA0 hk hm e1 e2 e3 e4 e5 hkn
        go_wp2_with fail
        go_roundw
        case rel => exact ⟨q + 1, by omega, by go_num, hga.out, hca.out, hfa.out⟩
        case measure => simp [intOf]; omega
    · obtain rfl : q = n := by omega
      have cq' : ¬ (q : Int) < (q : Int) := by omega
      have HCC := Lib.hid hc.out
      have HGL : Hid (g < wr.heap.size) := Nat.lt_of_lt_of_le HGS.out hgr.out.size
      go_wp2_with fail
      go_ret
      exact ⟨g, rfl, by have := HG.out; have := HXW.out.size; omega, HGL.out, HCC.out, hWw.out⟩
end Go.Proofs.YtbnjgbllenndaaaGreatDoor.W
