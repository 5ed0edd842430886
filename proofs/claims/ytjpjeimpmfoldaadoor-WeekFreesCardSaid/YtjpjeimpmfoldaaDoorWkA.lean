/- The walks of the week: whether its minutes may be. -/
import Derived.Test.YtjpjeimpmfoldaaDoorCivC
import Derived.Test.YtjpjeimpmfoldaaDoorWkR
namespace Go.Proofs.YtjpjeimpmfoldaaDoor.W
open Go.RowKit Go.Proofs.YtjpjeimpmfoldaaDoor.M

theorem right_yes (a0 a1 a2 a3 a4 a5 a6 : Int) (w : World) (h0 : 0 ≤ a0 ∧ a0 ≤ 1440) (h1 : 0 ≤ a1 ∧ a1 ≤ 1440) (h2 : 0 ≤ a2 ∧ a2 ≤ 1440) (h3 : 0 ≤ a3 ∧ a3 ≤ 1440) (h4 : 0 ≤ a4 ∧ a4 ≤ 1440) (h5 : 0 ≤ a5 ∧ a5 ≤ 1440) (h6 : 0 ≤ a6 ∧ a6 ≤ 1440) :
    Calls Tryd.prog 25 #[.agg #[.int .i64 a0, .int .i64 a1, .int .i64 a2, .int .i64 a3, .int .i64 a4, .int .i64 a5, .int .i64 a6]] w fun e w' => e = .returned (.bool true) ∧ Below w.heap.size w w' := by
  have i0 : ∀ w, (Instr.index 23 (.agg #[.int .i64 a0, .int .i64 a1, .int .i64 a2, .int .i64 a3, .int .i64 a4, .int .i64 a5, .int .i64 a6]) (.int .i64 0)).run Tryd.prog w = .ok (.int .i64 a0) w := fun _ => by kernel_rfl
  have i1 : ∀ w, (Instr.index 23 (.agg #[.int .i64 a0, .int .i64 a1, .int .i64 a2, .int .i64 a3, .int .i64 a4, .int .i64 a5, .int .i64 a6]) (.int .i64 1)).run Tryd.prog w = .ok (.int .i64 a1) w := fun _ => by kernel_rfl
  have i2 : ∀ w, (Instr.index 23 (.agg #[.int .i64 a0, .int .i64 a1, .int .i64 a2, .int .i64 a3, .int .i64 a4, .int .i64 a5, .int .i64 a6]) (.int .i64 2)).run Tryd.prog w = .ok (.int .i64 a2) w := fun _ => by kernel_rfl
  have i3 : ∀ w, (Instr.index 23 (.agg #[.int .i64 a0, .int .i64 a1, .int .i64 a2, .int .i64 a3, .int .i64 a4, .int .i64 a5, .int .i64 a6]) (.int .i64 3)).run Tryd.prog w = .ok (.int .i64 a3) w := fun _ => by kernel_rfl
  have i4 : ∀ w, (Instr.index 23 (.agg #[.int .i64 a0, .int .i64 a1, .int .i64 a2, .int .i64 a3, .int .i64 a4, .int .i64 a5, .int .i64 a6]) (.int .i64 4)).run Tryd.prog w = .ok (.int .i64 a4) w := fun _ => by kernel_rfl
  have i5 : ∀ w, (Instr.index 23 (.agg #[.int .i64 a0, .int .i64 a1, .int .i64 a2, .int .i64 a3, .int .i64 a4, .int .i64 a5, .int .i64 a6]) (.int .i64 5)).run Tryd.prog w = .ok (.int .i64 a5) w := fun _ => by kernel_rfl
  have i6 : ∀ w, (Instr.index 23 (.agg #[.int .i64 a0, .int .i64 a1, .int .i64 a2, .int .i64 a3, .int .i64 a4, .int .i64 a5, .int .i64 a6]) (.int .i64 6)).run Tryd.prog w = .ok (.int .i64 a6) w := fun _ => by kernel_rfl
  obtain ⟨p0, q0⟩ := h0
  obtain ⟨p1, q1⟩ := h1
  obtain ⟨p2, q2⟩ := h2
  obtain ⟨p3, q3⟩ := h3
  obtain ⟨p4, q4⟩ := h4
  obtain ⟨p5, q5⟩ := h5
  obtain ⟨p6, q6⟩ := h6
  go_enter Tryd.func25, Tryd.ntmps25
  go_wp2_with fail
  go_loop [6] (fun t => ∃ i : Nat, i ≤ 7 ∧ t = .int .i64 i) (fun t => (8 - intOf t).toNat)
  case atStart => exact ⟨0, by omega, rfl⟩
  case round =>
    obtain ⟨i, hi, rfl⟩ := hrel
    rcases (by omega : i = 0 ∨ i = 1 ∨ i = 2 ∨ i = 3 ∨ i = 4 ∨ i = 5 ∨ i = 6 ∨ i = 7) with rfl | rfl | rfl | rfl | rfl | rfl | rfl | rfl
    · go_wp2_with fail
      go_round
      case rel => exact ⟨1, by omega, rfl⟩
      case measure => simp [intOf]
    · go_wp2_with fail
      go_round
      case rel => exact ⟨2, by omega, rfl⟩
      case measure => simp [intOf]
    · go_wp2_with fail
      go_round
      case rel => exact ⟨3, by omega, rfl⟩
      case measure => simp [intOf]
    · go_wp2_with fail
      go_round
      case rel => exact ⟨4, by omega, rfl⟩
      case measure => simp [intOf]
    · go_wp2_with fail
      go_round
      case rel => exact ⟨5, by omega, rfl⟩
      case measure => simp [intOf]
    · go_wp2_with fail
      go_round
      case rel => exact ⟨6, by omega, rfl⟩
      case measure => simp [intOf]
    · go_wp2_with fail
      go_round
      case rel => exact ⟨7, by omega, rfl⟩
      case measure => simp [intOf]
    · go_wp2_with fail
      go_ret
      exact ⟨rfl, balloc (Below.refl _ _) _⟩

theorem right_no (a0 a1 a2 a3 a4 a5 a6 : Int) (w : World) (h : ¬ ((0 ≤ a0 ∧ a0 ≤ 1440) ∧ (0 ≤ a1 ∧ a1 ≤ 1440) ∧ (0 ≤ a2 ∧ a2 ≤ 1440) ∧ (0 ≤ a3 ∧ a3 ≤ 1440) ∧ (0 ≤ a4 ∧ a4 ≤ 1440) ∧ (0 ≤ a5 ∧ a5 ≤ 1440) ∧ (0 ≤ a6 ∧ a6 ≤ 1440))) :
    Calls Tryd.prog 25 #[.agg #[.int .i64 a0, .int .i64 a1, .int .i64 a2, .int .i64 a3, .int .i64 a4, .int .i64 a5, .int .i64 a6]] w fun e w' => e = .returned (.bool false) ∧ Below w.heap.size w w' := by
  have i0 : ∀ w, (Instr.index 23 (.agg #[.int .i64 a0, .int .i64 a1, .int .i64 a2, .int .i64 a3, .int .i64 a4, .int .i64 a5, .int .i64 a6]) (.int .i64 0)).run Tryd.prog w = .ok (.int .i64 a0) w := fun _ => by kernel_rfl
  have i1 : ∀ w, (Instr.index 23 (.agg #[.int .i64 a0, .int .i64 a1, .int .i64 a2, .int .i64 a3, .int .i64 a4, .int .i64 a5, .int .i64 a6]) (.int .i64 1)).run Tryd.prog w = .ok (.int .i64 a1) w := fun _ => by kernel_rfl
  have i2 : ∀ w, (Instr.index 23 (.agg #[.int .i64 a0, .int .i64 a1, .int .i64 a2, .int .i64 a3, .int .i64 a4, .int .i64 a5, .int .i64 a6]) (.int .i64 2)).run Tryd.prog w = .ok (.int .i64 a2) w := fun _ => by kernel_rfl
  have i3 : ∀ w, (Instr.index 23 (.agg #[.int .i64 a0, .int .i64 a1, .int .i64 a2, .int .i64 a3, .int .i64 a4, .int .i64 a5, .int .i64 a6]) (.int .i64 3)).run Tryd.prog w = .ok (.int .i64 a3) w := fun _ => by kernel_rfl
  have i4 : ∀ w, (Instr.index 23 (.agg #[.int .i64 a0, .int .i64 a1, .int .i64 a2, .int .i64 a3, .int .i64 a4, .int .i64 a5, .int .i64 a6]) (.int .i64 4)).run Tryd.prog w = .ok (.int .i64 a4) w := fun _ => by kernel_rfl
  have i5 : ∀ w, (Instr.index 23 (.agg #[.int .i64 a0, .int .i64 a1, .int .i64 a2, .int .i64 a3, .int .i64 a4, .int .i64 a5, .int .i64 a6]) (.int .i64 5)).run Tryd.prog w = .ok (.int .i64 a5) w := fun _ => by kernel_rfl
  have i6 : ∀ w, (Instr.index 23 (.agg #[.int .i64 a0, .int .i64 a1, .int .i64 a2, .int .i64 a3, .int .i64 a4, .int .i64 a5, .int .i64 a6]) (.int .i64 6)).run Tryd.prog w = .ok (.int .i64 a6) w := fun _ => by kernel_rfl
  have H := Lib.hid h
  clear h
  go_enter Tryd.func25, Tryd.ntmps25
  go_wp2_with fail
  go_loop [6] (fun t => ∃ i : Nat, (i ≤ 7 ∧ t = .int .i64 i) ∧ RowKit.Hid ((0 < i → (0 ≤ a0 ∧ a0 ≤ 1440)) ∧ (1 < i → (0 ≤ a1 ∧ a1 ≤ 1440)) ∧ (2 < i → (0 ≤ a2 ∧ a2 ≤ 1440)) ∧ (3 < i → (0 ≤ a3 ∧ a3 ≤ 1440)) ∧ (4 < i → (0 ≤ a4 ∧ a4 ≤ 1440)) ∧ (5 < i → (0 ≤ a5 ∧ a5 ≤ 1440)) ∧ (6 < i → (0 ≤ a6 ∧ a6 ≤ 1440)))) (fun t => (8 - intOf t).toNat)
  case atStart => exact ⟨0, ⟨by omega, rfl⟩, Lib.hid (by omega)⟩
  case round =>
    obtain ⟨i, ⟨hi, rfl⟩, hg⟩ := hrel
    rcases (by omega : i = 0 ∨ i = 1 ∨ i = 2 ∨ i = 3 ∨ i = 4 ∨ i = 5 ∨ i = 6 ∨ i = 7) with rfl | rfl | rfl | rfl | rfl | rfl | rfl | rfl
    · rcases (by omega : a0 < 0 ∨ 1440 < a0 ∨ (0 ≤ a0 ∧ a0 ≤ 1440)) with c | c | ⟨c, c'⟩
      · go_wp2_with fail
        go_ret
        exact ⟨rfl, balloc (Below.refl _ _) _⟩
      · have c' : 0 ≤ a0 := by omega
        go_wp2_with fail
        go_ret
        exact ⟨rfl, balloc (Below.refl _ _) _⟩
      · go_wp2_with fail
        go_round
        case rel => exact ⟨1, ⟨by omega, rfl⟩, Lib.hid (by have := hg.out; omega)⟩
        case measure => simp [intOf]
    · rcases (by omega : a1 < 0 ∨ 1440 < a1 ∨ (0 ≤ a1 ∧ a1 ≤ 1440)) with c | c | ⟨c, c'⟩
      · go_wp2_with fail
        go_ret
        exact ⟨rfl, balloc (Below.refl _ _) _⟩
      · have c' : 0 ≤ a1 := by omega
        go_wp2_with fail
        go_ret
        exact ⟨rfl, balloc (Below.refl _ _) _⟩
      · go_wp2_with fail
        go_round
        case rel => exact ⟨2, ⟨by omega, rfl⟩, Lib.hid (by have := hg.out; omega)⟩
        case measure => simp [intOf]
    · rcases (by omega : a2 < 0 ∨ 1440 < a2 ∨ (0 ≤ a2 ∧ a2 ≤ 1440)) with c | c | ⟨c, c'⟩
      · go_wp2_with fail
        go_ret
        exact ⟨rfl, balloc (Below.refl _ _) _⟩
      · have c' : 0 ≤ a2 := by omega
        go_wp2_with fail
        go_ret
        exact ⟨rfl, balloc (Below.refl _ _) _⟩
      · go_wp2_with fail
        go_round
        case rel => exact ⟨3, ⟨by omega, rfl⟩, Lib.hid (by have := hg.out; omega)⟩
        case measure => simp [intOf]
    · rcases (by omega : a3 < 0 ∨ 1440 < a3 ∨ (0 ≤ a3 ∧ a3 ≤ 1440)) with c | c | ⟨c, c'⟩
      · go_wp2_with fail
        go_ret
        exact ⟨rfl, balloc (Below.refl _ _) _⟩
      · have c' : 0 ≤ a3 := by omega
        go_wp2_with fail
        go_ret
        exact ⟨rfl, balloc (Below.refl _ _) _⟩
      · go_wp2_with fail
        go_round
        case rel => exact ⟨4, ⟨by omega, rfl⟩, Lib.hid (by have := hg.out; omega)⟩
        case measure => simp [intOf]
    · rcases (by omega : a4 < 0 ∨ 1440 < a4 ∨ (0 ≤ a4 ∧ a4 ≤ 1440)) with c | c | ⟨c, c'⟩
      · go_wp2_with fail
        go_ret
        exact ⟨rfl, balloc (Below.refl _ _) _⟩
      · have c' : 0 ≤ a4 := by omega
        go_wp2_with fail
        go_ret
        exact ⟨rfl, balloc (Below.refl _ _) _⟩
      · go_wp2_with fail
        go_round
        case rel => exact ⟨5, ⟨by omega, rfl⟩, Lib.hid (by have := hg.out; omega)⟩
        case measure => simp [intOf]
    · rcases (by omega : a5 < 0 ∨ 1440 < a5 ∨ (0 ≤ a5 ∧ a5 ≤ 1440)) with c | c | ⟨c, c'⟩
      · go_wp2_with fail
        go_ret
        exact ⟨rfl, balloc (Below.refl _ _) _⟩
      · have c' : 0 ≤ a5 := by omega
        go_wp2_with fail
        go_ret
        exact ⟨rfl, balloc (Below.refl _ _) _⟩
      · go_wp2_with fail
        go_round
        case rel => exact ⟨6, ⟨by omega, rfl⟩, Lib.hid (by have := hg.out; omega)⟩
        case measure => simp [intOf]
    · rcases (by omega : a6 < 0 ∨ 1440 < a6 ∨ (0 ≤ a6 ∧ a6 ≤ 1440)) with c | c | ⟨c, c'⟩
      · go_wp2_with fail
        go_ret
        exact ⟨rfl, balloc (Below.refl _ _) _⟩
      · have c' : 0 ≤ a6 := by omega
        go_wp2_with fail
        go_ret
        exact ⟨rfl, balloc (Below.refl _ _) _⟩
      · go_wp2_with fail
        go_round
        case rel => exact ⟨7, ⟨by omega, rfl⟩, Lib.hid (by have := hg.out; omega)⟩
        case measure => simp [intOf]
    · exact absurd hg.out (by have := H.out; omega)
end Go.Proofs.YtjpjeimpmfoldaaDoor.W
