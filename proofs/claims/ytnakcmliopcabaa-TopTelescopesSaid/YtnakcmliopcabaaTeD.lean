/- The walks of delta: whether a slip is none, what is wrong with it, its period. -/
import Derived.Test.YtnakcmliopcabaaTeB
namespace Go.Proofs.Ytnakcmliopcabaa.W
open Go.RowKit Go.Proofs.Ytnakcmliopcabaa.M Go.Proofs.Ytnakcmliopcabaa.S
set_option linter.unusedVariables false

/-- The slip that is none. -/
def sv0 : Value := .agg #[.int .i64 0, .int .i64 0, .slice none 0 0]
theorem none_not (a : Option Addr) (n cap : Nat) (W : World) : Calls Try.prog 13 #[sv a n cap] W fun e w' => e = .returned (.bool false) ∧ Below W.heap.size W w' := by
  have hB := Lib.hid (balloc (Below.refl W.heap.size W) (.cells #[.int .i64 2026, .int .i64 1, .slice a n cap] 29))
  unfold sv
  go_enter Try.func13, Try.ntmps13
  go_wp2_with fail
  go_ret
  exact ⟨rfl, hB.out⟩
theorem none_is (W : World) : Calls Try.prog 13 #[sv0] W fun e w' => e = .returned (.bool true) ∧ Below W.heap.size W w' := by
  have hB := Lib.hid (balloc (Below.refl W.heap.size W) (.cells #[.int .i64 0, .int .i64 0, .slice none 0 0] 29))
  unfold sv0
  go_enter Try.func13, Try.ntmps13
  go_wp2_with fail
  go_ret
  exact ⟨rfl, hB.out⟩
theorem wrong_not (T : Nat → Int) (hT : small BB T) (a : Option Addr) (cap : Nat) (W : World) (hl : Lst 3 W a (ln T) (lcs T)) : Calls Try.prog 23 #[sv a (ln T) cap] W fun e w' => e = .returned (.int .i64 0) ∧ Below W.heap.size W w' := by
  have hB := Lib.hid (balloc (Below.refl W.heap.size W) (.cells #[.int .i64 2026, .int .i64 1, .slice a (ln T) cap] 29))
  have HN := Lib.hid (fun w => none_not a (ln T) cap w)
  have HC := Lib.hid (fun (w : World) h => scheck_is T hT a cap w h)
  have HL := Lib.hid hl
  have c0 : (W.alloc (.cells #[.int .i64 2026, .int .i64 1, .slice a (ln T) cap] 29)).cell? ⟨W.heap.size, 0, none⟩ = some (.int .i64 2026) := by simp
  have c1 : (W.alloc (.cells #[.int .i64 2026, .int .i64 1, .slice a (ln T) cap] 29)).cell? ⟨W.heap.size, 1, none⟩ = some (.int .i64 1) := by simp
  have c2 : (W.alloc (.cells #[.int .i64 2026, .int .i64 1, .slice a (ln T) cap] 29)).cell? ⟨W.heap.size, 2, none⟩ = some (.slice a (ln T) cap) := by simp
  have hlt : W.heap.size < (W.alloc (.cells #[.int .i64 2026, .int .i64 1, .slice a (ln T) cap] 29)).heap.size := by simp
  have HH := Lib.hid (And.intro c0 (And.intro c1 (And.intro c2 hlt)))
  clear c0 c1 c2 hlt hl hT
  unfold sv at *
  go_enter Try.func23, Try.ntmps23
  go_wp2_with fail
  refine (HN.out _).mono ?_
  rintro e w1 ⟨rfl, hb1⟩
  have c0 := bc hb1 HH.out.2.2.2 HH.out.1
  have c1 := bc hb1 HH.out.2.2.2 HH.out.2.1
  have c2 := bc hb1 HH.out.2.2.2 HH.out.2.2.1
  have hB1 := Lib.hid (bstep hB.out hb1)
  clear hb1
  go_wp2_with fail
  refine (HC.out _ (HL.out.step hB1.out)).mono ?_
  rintro e w2 ⟨rfl, hb2⟩
  have hB2 := Lib.hid (bstep hB1.out hb2)
  clear hb2
  go_wp2_with fail
  go_ret
  exact ⟨rfl, hB2.out⟩
theorem wrong_none (W : World) : Calls Try.prog 23 #[sv0] W fun e w' => e = .returned (.int .i64 0) ∧ Below W.heap.size W w' := by
  have hB := Lib.hid (balloc (Below.refl W.heap.size W) (.cells #[.int .i64 0, .int .i64 0, .slice none 0 0] 29))
  have HN := Lib.hid (fun w => none_is w)
  unfold sv0 at *
  go_enter Try.func23, Try.ntmps23
  go_wp2_with fail
  refine (HN.out _).mono ?_
  rintro e w1 ⟨rfl, hb1⟩
  have hB1 := Lib.hid (bstep hB.out hb1)
  clear hb1
  go_wp2_with fail
  go_ret
  exact ⟨rfl, hB1.out⟩
/-- A slip's period, as a key. -/
def pv : Value := .agg #[.int .i64 2026, .int .i64 1]
theorem period_is (a : Option Addr) (n cap : Nat) (W : World) : Calls Try.prog 17 #[sv a n cap] W fun e w' => e = .returned pv ∧ Below W.heap.size W w' := by
  unfold sv pv
  go_enter Try.func17, Try.ntmps17
  go_wp2_with fail
  refine bodyPost_ret (v := .agg #[.int .i64 2026, .int .i64 1]) (by simp [results, Try.results17, go_sem]) rfl ⟨rfl, ?_⟩
  exact balloc (balloc (Below.refl _ _) _) _
end Go.Proofs.Ytnakcmliopcabaa.W
