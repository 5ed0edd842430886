/- The rules of the kinds, as a value. -/
import Derived.Test.YtbnjgbllenndaaaGreatDoorTkS
import Derived.Test.YtbnjgbllenndaaaGreatDoorProg
import Derived.Deep.DeepCutAuto
import Derived.Laws.Tables
import Derived.Laws.Rows
import Derived.Laws.CopyOwn
import Derived.KernelRfl
namespace Go.Proofs.YtbnjgbllenndaaaGreatDoor.W
open Go.RowKit Go.Proofs.YtbnjgbllenndaaaGreatDoor.M Go.Proofs.YtbnjgbllenndaaaGreatDoor.S
set_option linter.unusedVariables false

/-- What is asked of a salary; of a Cancel. -/
def ruleS : Value := .agg #[.string ⟨#[115, 97, 108, 97, 114, 121]⟩, .bool false, .bool true, .func (.func 34) #[] #[], .int .i64 0, .int .i64 1125899906842624, .func (.func 35) #[] #[]]
def ruleC : Value := .agg #[.string ⟨#[99, 97, 110, 99, 101, 108]⟩, .bool true, .bool false, .func (.func 34) #[] #[], .int .i64 1, .int .i64 4096, .func (.func 35) #[] #[]]
def Rules (v : Value) : Prop := ∀ w, (Instr.index 67 v (.int .i64 2)).run Tryz.prog w = .ok ruleS w ∧ (Instr.index 67 v (.int .i64 18)).run Tryz.prog w = .ok ruleC w

set_option maxRecDepth 100000 in
set_option maxHeartbeats 4000000 in
theorem rules_is (W : World) : Calls Tryz.prog 22 #[] W fun e w' => (∃ v, e = .returned v ∧ Rules v) ∧ Below W.heap.size W w' := by
  go_enter Tryz.func22, Tryz.ntmps22
  go_upto_region 5 with fail
  generalize hV : (W.alloc _) = V
  obtain ⟨old, ho, hos⟩ : ∃ old : Array Value, W.alloc (.cells old 67 (0, 0)) = V ∧ old.size = 133 := ⟨_, hV, rfl⟩
  have hg := heap_alloc_new W (.cells old 67 (0, 0))
  have hb : Below W.heap.size W V := by rw [← ho]; exact balloc (Below.refl _ _) _
  rw [ho] at hg
  clear hV ho
  have HB := Lib.hid hb
  have HG := Lib.hid hg
  clear hb hg
  go_wp2_with (refine wpList_store_row (P := Tryz.prog) rfl 67 (.tmp 0) (.tmp 28) rfl W.heap.size _ rfl rfl _ old HG.out (by kernel_rfl) (hos.trans (by kernel_rfl)) (by kernel_rfl) ?_)
  refine bodyPost_ret (results_cell_row (fn := Tryz.f22) (p := 0) (ty := 67) Tryz.results22 _ _ W.heap.size _ _ _ _ rfl (setRow_heap V W.heap.size old _ _ _ HG.out) Tryz.underlying67 rfl (by kernel_rfl)) rfl ⟨⟨_, rfl, fun w => ⟨by kernel_rfl, by kernel_rfl⟩⟩, ?_⟩
  exact below_setRow HB.out (Nat.le_refl _) _
end Go.Proofs.YtbnjgbllenndaaaGreatDoor.W
