/- slices.Compact at one period, or at two that are the same. -/
import Derived.Test.YtnakcmliopcabaaTeD
import Derived.Lib.SliceRun
namespace Go.Proofs.Ytnakcmliopcabaa.W
open Go.RowKit Go.Proofs.Ytnakcmliopcabaa.M Go.Proofs.Ytnakcmliopcabaa.S
set_option linter.unusedVariables false

theorem clear_one (w : World) (ty : TypeId) (b c : Nat) (h2 : (w.cell? ⟨b, 2, none⟩).isSome = true) (h3 : (w.cell? ⟨b, 3, none⟩).isSome = true) (f2 : w.frozen? ⟨b, 2, none⟩ = false) (f3 : w.frozen? ⟨b, 3, none⟩ = false) :
    (Builtin.clear_ #[49] ty #[.slice (some ⟨b, 2, none⟩) 1 c]).run Try.prog w = .ok (.tuple #[]) (w.setCells b 2 [.int .i64 0, .int .i64 0]) := by
  have hst := run_storeCells_cells (P := Try.prog) b 2 [.int .i64 0, .int .i64 0] 0 w (by
    intro j hj
    rcases (by simp at hj; omega : j = 0 ∨ j = 1) with rfl | rfl
    · exact h2
    · exact h3) (by
    intro j hj
    rcases (by simp at hj; omega : j = 0 ∨ j = 1) with rfl | rfl
    · exact f2
    · exact f3) (by intro v hv; simp at hv; subst hv; rfl)
  simp only [Nat.add_zero] at hst
  have hz : ∀ w, (zeroValue 51).run Try.prog w = .ok (.agg #[.int .i64 0, .int .i64 0]) w := fun w => by kernel_rfl
  have hzc : (Builtin.zeroCells (Value.agg #[.int .i64 0, .int .i64 0]).cells 1).toList = [.int .i64 0, .int .i64 0] := by simp [Builtin.zeroCells, Value.cells]; rfl
  simp [Builtin.clear_, run_underlying Try.underlying49, hz, hzc, hst]
/-- What Compact leaves: the first period, and all that lies below. -/
def ComOut (b : Nat) (w w' : World) : Prop := (∀ B, B ≤ b → B ≤ w.heap.size → Below B w w') ∧ w'.cell? ⟨b, 0, none⟩ = some (.int .i64 2026) ∧ w'.cell? ⟨b, 1, none⟩ = some (.int .i64 1) ∧ b < w'.heap.size
theorem compact_one (b cap : Nat) (w : World) : Calls Try.prog 22 #[.slice (some ⟨b, 0, none⟩) 1 cap] w fun e w' => e = .returned (.slice (some ⟨b, 0, none⟩) 1 cap) ∧ w = w' := by
  go_enter Try.func22, Try.ntmps22
  go_wp2
  go_ret
  exact ⟨rfl, rfl⟩
set_option maxRecDepth 100000 in
theorem compact_two (b cap : Nat) (w : World) (hcap : 2 ≤ cap) (hb : b < w.heap.size) (c0 : w.cell? ⟨b, 0, none⟩ = some (.int .i64 2026)) (c1 : w.cell? ⟨b, 1, none⟩ = some (.int .i64 1)) (c2 : w.cell? ⟨b, 2, none⟩ = some (.int .i64 2026)) (c3 : w.cell? ⟨b, 3, none⟩ = some (.int .i64 1))
    (f2 : w.frozen? ⟨b, 2, none⟩ = false) (f3 : w.frozen? ⟨b, 3, none⟩ = false) :
    Calls Try.prog 22 #[.slice (some ⟨b, 0, none⟩) 2 cap] w fun e w' => e = .returned (.slice (some ⟨b, 0, none⟩) 1 cap) ∧ ComOut b w w' := by
  have heq : ∀ w, (binOp .eql 51 (.agg #[.int .i64 2026, .int .i64 1]) (.agg #[.int .i64 2026, .int .i64 1])).run Try.prog w = .ok (.bool true) w := fun w => by kernel_rfl
  have hcl := fun ty c => Lib.hid (fun q => clear_one (w.drewN q) ty b c (by rw [show (w.drewN q).cell? ⟨b, 2, none⟩ = w.cell? ⟨b, 2, none⟩ from rfl, c2]; rfl) (by rw [show (w.drewN q).cell? ⟨b, 3, none⟩ = w.cell? ⟨b, 3, none⟩ from rfl, c3]; rfl) f2 f3)
  have HCL := Lib.hid hcl
  clear hcl f2 f3
  go_enter Try.func22, Try.ntmps22
  go_wp2_with fail
  go_loop [3] (fun s3 => s3 = .int .i64 1) (fun _ => 0)
  case atStart => rfl
  case round =>
    obtain rfl := hrel
    go_wp2_with fail
    go_quiet (fail)
    go_wp2_with fail
    go_loop [3, 5] (fun s3 s5 => s3 = .int .i64 1 ∧ s5 = .int .i64 1) (fun _ _ => 0)
    case atStart => exact ⟨rfl, rfl⟩
    case round =>
      obtain ⟨rfl, rfl⟩ := hrel
      go_upto_region 14 with fail
      have hq := (HCL.out 0 (cap - 1)).out nq
      go_wp2_with fail
      go_ret
      refine ⟨rfl, ?_⟩
      show ComOut b w (((w.drewN nq).setCell ⟨b, 2, none⟩ (.int .i64 0)).setCell ⟨b, 3, none⟩ (.int .i64 0))
      refine ⟨fun B hB hBw => ((below_drewN (Below.refl B w) nq).setCell (p := ⟨b, 2, none⟩) hB _).setCell (p := ⟨b, 3, none⟩) hB _, ?_, ?_, ?_⟩
      · rw [World.cell?_setCell_other _ _ _ _ (by intro h; cases h), World.cell?_setCell_other _ _ _ _ (by intro h; cases h)]; exact c0
      · rw [World.cell?_setCell_other _ _ _ _ (by intro h; cases h), World.cell?_setCell_other _ _ _ _ (by intro h; cases h)]; exact c1
      · simpa using hb
end Go.Proofs.Ytnakcmliopcabaa.W
