/- The sort, of lines, and of periods that are all one. -/
import Derived.Test.YtnakcmliopcabaaTeC
import Derived.Test.YtnakcmliopcabaaChecked
namespace Go.Proofs.Ytnakcmliopcabaa.W
open Go.RowKit Go.Lib Go.Sort Go.Proofs Go.Shelf Go.Proofs.Ytnakcmliopcabaa.M Go.Proofs.Ytnakcmliopcabaa.S
set_option linter.unusedVariables false

def encP (_ : Unit) : List Value := [.int .i64 2026, .int .i64 1]
theorem psort_is (d : Array Unit) (blk off cap : Nat) (w : World) (hH : HoldsK encP 2 w blk off d) (hblk : blk < w.heap.size) (hsz : d.size < 1000) :
    Calls Try.prog 21 #[.slice (some ⟨blk, off, none⟩) d.size cap, .func (.func 20) #[] #[]] w fun e w' => e = .returned (.tuple #[]) ∧ ∃ d' n os, PermIn 0 d.size d d' ∧ w' = sortWorldK encP 2 w blk off n d' os := by
  have eg : ∀ args w, (callFunc 20 args).run Try.prog w = .ok (.enter 20 args) w := enters_of Try.func20 (by kernel_rfl) rfl
  have hO : SWO (ltOf fun _ _ : Unit => (0 : Int)) := ⟨fun _ => rfl, (fun _ _ _ h _ => (by cases h)), fun _ _ _ _ _ => rfl⟩
  have hcmp : CmpLays Try.prog 20 #[] encP 2 (fun _ _ : Unit => (0 : Int)) blk off d.size w := fun _ _ _ _ _ _ => pahead_is _
  exact (AnyQ.slices_SortFunc Z.perAt 2 Try.isAgg51 Try.sizeOf51 encP (fun _ => rfl) (fun x v hv => by simp [encP] at hv; rcases hv with rfl | rfl <;> rfl) (fun _ _ => 0) hO _ #[] blk off cap d w eg hcmp hH hblk (by omega)).mono fun e w' ⟨he, d', n, os, hp, _, hw⟩ => ⟨he, d', n, os, hp, hw⟩

def encL (x : Nat × Int) : List Value := lc x.1 x.2
theorem ltOf_L : ltOf (fun x y : Nat × Int => cfL x.1 y.1) = fun x y => decide (x.1 < y.1) := by
  funext x y
  exact cfL_less x.1 y.1
theorem lsort_is (d : Array (Nat × Int)) (blk off cap : Nat) (w : World) (hH : HoldsK encL 3 w blk off d) (hblk : blk < w.heap.size) (hsz : d.size < 1000) :
    Calls Try.prog 37 #[.slice (some ⟨blk, off, none⟩) d.size cap, .func (.func 38) #[] #[]] w fun e w' => e = .returned (.tuple #[]) ∧ ∃ d' n os, PermIn 0 d.size d d' ∧ SortedIn (fun x y : Nat × Int => decide (x.1 < y.1)) 0 d.size d' ∧ w' = sortWorldK encL 3 w blk off n d' os := by
  have eg : ∀ args w, (callFunc 38 args).run Try.prog w = .ok (.enter 38 args) w := enters_of Try.func38 (by kernel_rfl) rfl
  have hO : SWO (ltOf fun x y : Nat × Int => cfL x.1 y.1) := by
    rw [ltOf_L]
    exact ⟨fun x => by simp, fun x y z h1 h2 => by simp at *; omega, fun x y z h1 h2 => by simp at *; omega⟩
  have hcmp : CmpLays Try.prog 38 #[] encL 3 (fun x y : Nat × Int => cfL x.1 y.1) blk off d.size w := fun _ _ _ _ x y => lines1_is x y _
  have h := AnyQ.slices_SortFunc Z.lineAt 3 Try.isAgg45 Try.sizeOf45 encL (fun _ => rfl) (fun x v hv => by simp [encL, lc] at hv; rcases hv with rfl | rfl | rfl <;> rfl) (fun x y => cfL x.1 y.1) hO _ #[] blk off cap d w eg hcmp hH hblk (by omega)
  rw [ltOf_L] at h
  exact h
end Go.Proofs.Ytnakcmliopcabaa.W
