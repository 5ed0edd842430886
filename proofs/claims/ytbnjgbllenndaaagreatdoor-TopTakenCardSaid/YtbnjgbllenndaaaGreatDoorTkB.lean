/- What fact asks of a fact, in parts: a kind, its days, no code, no text. -/
import Derived.Test.YtbnjgbllenndaaaGreatDoorTkS
import Derived.Test.YtbnjgbllenndaaaGreatDoorProg
import Derived.BigQuiet
namespace Go.Proofs.YtbnjgbllenndaaaGreatDoor.W
open Go.RowKit Go.Proofs.YtbnjgbllenndaaaGreatDoor.M Go.Proofs.YtbnjgbllenndaaaGreatDoor.S
set_option linter.unusedVariables false

theorem known_is (k : Int) (h : k = 2 ∨ k = 18) (W : World) : Calls Tryz.prog 21 #[.int .i64 k] W fun e w' => e = .returned (.bool true) ∧ W = w' := by
  rcases h with rfl | rfl
  · go_enter Tryz.func21, Tryz.ntmps21
    go_wp2
    go_ret
    exact ⟨rfl, rfl⟩
  · go_enter Tryz.func21, Tryz.ntmps21
    go_wp2
    go_ret
    exact ⟨rfl, rfl⟩
theorem empty_is (W : World) : Calls Tryz.prog 34 #[.string ⟨#[]⟩] W fun e w' => e = .returned (.bool true) ∧ W = w' := by
  go_enter Tryz.func34, Tryz.ntmps34
  go_wp2
  go_ret
  exact ⟨rfl, rfl⟩
theorem silent_is (x : Fc) (W : World) : Calls Tryz.prog 35 #[fv x] W fun e w' => e = .returned (.bool true) ∧ Below W.heap.size W w' := by
  unfold fv
  go_enter Tryz.func35, Tryz.ntmps35
  go_wp2
  go_ret
  exact ⟨rfl, balloc (Below.refl _ _) _⟩
theorem days_sal (x : Fc) (hx : x.sal) (n : ByteArray) (f1 f2 : Value) (l m : Int) (W : World) (hf1 : ∃ a b, f1 = .func a b #[]) (hf2 : ∃ a b, f2 = .func a b #[]) : Calls Tryz.prog 23 #[fv x, .agg #[.string n, .bool false, .bool true, f1, .int .i64 l, .int .i64 m, f2]] W fun e w' => e = .returned (.int .i64 0) ∧ Below W.heap.size W w' := by
  obtain ⟨_, hk, ⟨h1, h2⟩, h3, _⟩ := hx
  obtain ⟨per, kind, fr, en, num⟩ := x
  obtain ⟨a1, b1, rfl⟩ := hf1
  obtain ⟨a2, b2, rfl⟩ := hf2
  simp only at hk h1 h2 h3
  subst hk
  have c1 : decide (fr < -25567) = false := decide_eq_false (by omega)
  have c2 : decide (84005 < fr) = false := decide_eq_false (by omega)
  have c3 : decide (84006 < en) = false := decide_eq_false (by omega)
  have hB := Lib.hid (balloc (balloc (Below.refl W.heap.size W) (.cells #[.int .u32 0, .int .u32 per, .int .i64 2, .int .i64 fr, .int .i64 en, .string ⟨#[]⟩, .int .i64 num, .string ⟨#[]⟩] 38)) (.cells #[.string n, .bool false, .bool true, .func a1 b1 #[], .int .i64 l, .int .i64 m, .func a2 b2 #[]] 66))
  unfold fv
  by_cases h0 : en = 0
  · subst h0
    clear h1 h2 h3
    go_enter Tryz.func23, Tryz.ntmps23
    go_wp2
    go_ret
    exact ⟨rfl, hB.out⟩
  · have n0 : (en != 0) = true := by rw [bne_iff_ne]; exact h0
    have c4 : decide (en ≤ fr) = false := decide_eq_false (by omega)
    clear h1 h2 h3 h0
    go_enter Tryz.func23, Tryz.ntmps23
    go_wp2
    go_ret
    exact ⟨rfl, hB.out⟩
theorem days_can (k : Nat) (n : ByteArray) (f1 f2 : Value) (l m : Int) (W : World) (hf1 : ∃ a b, f1 = .func a b #[]) (hf2 : ∃ a b, f2 = .func a b #[]) : Calls Tryz.prog 23 #[fv (can k), .agg #[.string n, .bool true, .bool false, f1, .int .i64 l, .int .i64 m, f2]] W fun e w' => e = .returned (.int .i64 0) ∧ Below W.heap.size W w' := by
  obtain ⟨a1, b1, rfl⟩ := hf1
  obtain ⟨a2, b2, rfl⟩ := hf2
  unfold fv can
  go_enter Tryz.func23, Tryz.ntmps23
  go_wp2
  go_ret
  exact ⟨rfl, balloc (balloc (Below.refl _ _) _) _⟩
end Go.Proofs.YtbnjgbllenndaaaGreatDoor.W
