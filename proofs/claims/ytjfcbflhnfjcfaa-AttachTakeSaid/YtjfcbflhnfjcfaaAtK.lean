/- The sample that each statement of attach asks first. -/
import Derived.Test.YtjfcbflhnfjcfaaAtTC
namespace Go.Proofs.Ytjfcbflhnfjcfaa.S
open Go.Proofs.Ytjfcbflhnfjcfaa.B Go.Proofs.Ytjfcbflhnfjcfaa.M Go.Sort
def cA : ByteArray := ⟨#[97]⟩
def cB : ByteArray := ⟨#[98]⟩
def cC : ByteArray := ⟨#[99]⟩
def oA : Ord := ⟨cA, 1, 100000, 0, 120000, 0⟩
def oB : Ord := ⟨cB, 2, 0, 90000, 150000, 0⟩
def SK (j : Nat) : Ord := if j = 0 then oB else oA
def OK (j : Nat) : Ord := if j = 0 then oA else oB
theorem SK_check : check SK 2 = 0 := by decide
theorem SK_served : served SK 2 = [1, 0] := by
  refine (Z.sorted_is (aheadAt_swo SK) 2 [1, 0] ?_ ?_).symm
  · decide
  · refine List.pairwise_cons.2 ⟨fun y hy => ?_, List.pairwise_singleton _ _⟩
    obtain rfl : y = 0 := by simpa using hy
    decide
theorem SK_srv : ∀ i, i < 2 → srvO SK 2 i = OK i := by
  intro i hi
  rcases (by omega : i = 0 ∨ i = 1) with rfl | rfl
  · show SK ((served SK 2).getD 0 0) = _; rw [SK_served]; rfl
  · show SK ((served SK 2).getD 1 0) = _; rw [SK_served]; rfl
theorem SK_items : itemsK 200000 (fun _ => none) (srvO SK 2) 2 = [(cA, 20000), (cB, 30000)] := by
  rw [itemsK_congr 2 SK_srv]; rfl
theorem SK_terr : terr 200000 (fun _ => none) (srvO SK 2) 2 = 0 := by
  refine terr_congr 2 (fun i hi => (SK_srv i hi).symm) ?_
  decide
theorem SK_err : takeErr 200000 (fun _ => none) SK 2 = 0 := by
  unfold takeErr
  rw [if_neg (by decide), if_neg (by rw [SK_check]; simp)]
  exact SK_terr
theorem SK_apart : apart SK 2 := (check_right SK_check).2.1
theorem SK_out : was (outK 200000 (fun _ => none) (srvO SK 2) 2) cB = 30000 := by
  have h := out_at (net := 200000) (g := fun _ => none) 2 (apart_srv SK_apart) 1 (by omega)
  rw [takeK_congr 1 SK_srv, SK_srv 1 (by omega)] at h
  unfold was
  rw [show cB = (OK 1).code from rfl, h]
  decide
end Go.Proofs.Ytjfcbflhnfjcfaa.S
namespace Go.Proofs.Ytjfcbflhnfjcfaa.W
open Go.RowKit Go.Proofs.Ytjfcbflhnfjcfaa.M Go.Proofs.Ytjfcbflhnfjcfaa.B Go.Proofs.Ytjfcbflhnfjcfaa.S
open Go.Maps (Keyed)
set_option linter.unusedVariables false

def mC : Mp := upd (fun _ => none) cC 40000
def oC : Ord := ⟨cC, 0, 0, 0, 0, 50000⟩
theorem okSK (j : Nat) : okO (SK j) := by
  unfold SK
  split <;> exact ⟨by decide, by unfold I64; decide, by unfold I64; decide, by unfold I64; decide, by unfold I64; decide, by unfold I64; decide⟩
theorem cells12 (W : World) (E : TypeId) : Lst 6 (W.alloc (.cells #[.string cB, .int .i64 2, .int .i64 0, .int .i64 90000, .int .i64 150000, .int .i64 0, .string cA, .int .i64 1, .int .i64 100000, .int .i64 0, .int .i64 120000, .int .i64 0] E)) (some ⟨W.heap.size, 0, none⟩) 2 (fun j => ocells (SK j)) :=
  ⟨by omega, fun _ => ⟨_, _, rfl, by simp, fun j hj i u hu => by
    rw [World.cell?_alloc_at _ _ _ _ rfl]
    have hi : i < 6 := (List.getElem?_eq_some_iff.1 hu).1
    rcases (by omega : j = 0 ∨ j = 1) with rfl | rfl <;> rcases (by omega : i = 0 ∨ i = 1 ∨ i = 2 ∨ i = 3 ∨ i = 4 ∨ i = 5) with rfl | rfl | rfl | rfl | rfl | rfl <;> exact hu⟩⟩

set_option maxRecDepth 100000 in
set_option maxHeartbeats 4000000 in
theorem awake_is (W : World) : Calls Try.prog 10 #[] W fun e w' => e = .returned (.bool true) ∧ Below W.heap.size W w' := by
  have hL := cells12 W 43
  have hB0 := balloc (Below.refl W.heap.size W) (.cells #[.string cB, .int .i64 2, .int .i64 0, .int .i64 90000, .int .i64 150000, .int .i64 0, .string cA, .int .i64 1, .int .i64 100000, .int .i64 0, .int .i64 120000, .int .i64 0] 43)
  have hT := Lib.hid (take_nil 200000 (some ⟨W.heap.size, 0, none⟩) 2 2 SK _ hL (fun h => by cases h) (fun j _ => okSK j) (by unfold I64; omega) (by omega))
  have HL := Lib.hid hL
  have HB0 := Lib.hid hB0
  clear hL hB0
  have hmm := @run_makeMap Try.prog
  go_enter Try.func10, Try.ntmps10
  go_wp2_with fail
  refine hT.out.mono ?_
  rintro e w1 ⟨hb1, h1⟩
  rw [show takeErr 200000 gN SK 2 = 0 from SK_err, if_pos rfl] at h1
  obtain ⟨v, b, N, rfl, hbl, hown, hmp, hN⟩ := h1
  rw [show itemsK 200000 gN (srvO SK 2) 2 = [(cA, 20000), (cB, 30000)] from SK_items] at hown
  obtain ⟨a1, cap1, rfl, hl1⟩ := ownL_lst hown (by decide) (cA, 0)
  obtain ⟨bx, ox, rfl, hlx, hc1⟩ := hl1.at_ (j := 0) (by decide)
  obtain ⟨bx', ox', hbx, hlx', hc2⟩ := hl1.at_ (j := 1) (by decide)
  injection hbx with hbx
  injection hbx with hbx1 hbx2
  subst hbx1 hbx2
  have d0 := hc1 0 (.string cA) rfl
  have d1 := hc1 1 (.int .i64 20000) rfl
  have d2 := hc2 0 (.string cB) rfl
  have d3 := hc2 1 (.int .i64 30000) rfl
  simp only [Nat.zero_mul, Nat.add_zero] at d0 d1
  clear hc1 hc2 hl1 hown hT hlx' hbl hN
  have hlk := (readP_map hmp _ (Below.refl _ _) cB (by decide)).1
  rw [show was (outK 200000 gN (srvO SK 2) 2) cB = 30000 from SK_out] at hlk
  clear hmp
  have hl2 := Lib.hid (HL.out.step hb1)
  have hb2 := Lib.hid (bstep HB0.out hb1)
  obtain ⟨wM, hrunM, hMM, htM⟩ := (mapIs_made (P := Try.prog) (k := 9) (dat := idat) (R := iR) w1).store reads_i kStr Try.underlying9 Try.underlying29 (by unfold maxLen; omega) (s := cC) (by decide) 40000
  have hb3 : Hid (Below w1.heap.size w1 wM) := (balloc (Below.refl _ _) (.map #[] 0)).grown htM.grown (by simp) (fun k hk => by cases hk; exact Nat.le_refl _)
  have hLf := Lib.hid (left_is (some w1.heap.size) mC oC 10000 (by show _ = _; decide) wM (readP_map hMM) ⟨by decide, by unfold I64; decide, by unfold I64; decide, by unfold I64; decide, by unfold I64; decide, by unfold I64; decide⟩ (by unfold I64; decide))
  have eA : cA.toList = [97] := by rw [ByteArray.toList_eq]; rfl
  have eB : cB.toList = [98] := by rw [ByteArray.toList_eq]; rfl
  change Sem.run Try.prog (Instr.lookup 29 (.map (some b)) (.string ⟨#[98]⟩) false) w1 = _ at hlk
  change Sem.run Try.prog (Instr.mapUpdate 29 (.map (some w1.heap.size)) (.string ⟨#[99]⟩) (.int .i64 40000)) _ = _ at hrunM
  have hgu : Try.prog.eqGuardType Try.prog.depth 38 = false := by kernel_rfl
  clear hb1 htM hMM HL HB0
  go_wp2_with fail
  refine hLf.out.mono ?_
  rintro e w3 ⟨rfl, hb4⟩
  have hb5 := bstep hb3.out hb4
  have hC := Lib.hid (check_is SK _ 2 2 w3 (hl2.out.step hb5) (fun j _ => okSK j))
  rw [SK_check] at hC
  clear hlk hrunM d0 d1 d2 d3 hLf
  go_wp2_with fail
  refine hC.out.mono ?_
  rintro e w4 ⟨rfl, hb6⟩
  have hb7 := bstep hb5 hb6
  have hS := Lib.hid (sort_is SK _ 2 2 w4 (hl2.out.step hb7) (fun h => by cases h) (by omega))
  go_wp2_with fail
  refine hS.out.mono ?_
  rintro e w5 ⟨a5, cap5, rfl, hl5, _, _, _, _, hb8⟩
  obtain ⟨b5, o5, rfl, hlt5, hc5⟩ := hl5.at_ (j := 0) (by omega)
  have d5 : w5.cell? ⟨b5, o5, none⟩ = some (.string cA) := by
    have := hc5 0 (.string (srvO SK 2 0).code) rfl
    rw [SK_srv 0 (by omega)] at this
    rw [Nat.zero_mul, Nat.add_zero] at this
    exact this
  clear hl5 hc5
  have hbe := Lib.hid (bstep hb2.out (bstep hb7 hb8))
  go_wp2_with fail
  go_ret
  exact ⟨rfl, hbe.out⟩
end Go.Proofs.Ytjfcbflhnfjcfaa.W
