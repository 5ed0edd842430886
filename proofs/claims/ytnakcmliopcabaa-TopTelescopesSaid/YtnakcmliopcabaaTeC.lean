/- The comparisons that the sorts are handed: of lines, of periods. -/
import Derived.Test.YtnakcmliopcabaaTeK
import Derived.StillTailTactics
import Derived.WalkLawsBesides
import Derived.Deep.RegionHeld2
namespace Go.Proofs.Ytnakcmliopcabaa.S
theorem bl_irrefl : ∀ a : List UInt8, Op.bytesLess a a = false
  | [] => rfl
  | a :: x => by simp [Op.bytesLess, bl_irrefl x]
theorem bl_total : ∀ a b : List UInt8, Op.bytesLess a b = false → Op.bytesLess b a = false → a = b
  | [], [], _, _ => rfl
  | [], _ :: _, h, _ => by simp [Op.bytesLess] at h
  | _ :: _, [], _, h => by simp [Op.bytesLess] at h
  | a :: x, b :: y, h1, h2 => by
    simp only [Op.bytesLess, Bool.or_eq_false_iff, Bool.and_eq_false_iff, decide_eq_false_iff_not, beq_eq_false_iff_ne] at *
    have e : a = b := UInt8.le_antisymm (UInt8.not_lt.1 h2.1) (UInt8.not_lt.1 h1.1)
    subst e
    rw [bl_total x y (h1.2.resolve_left (by simp)) (h2.2.resolve_left (by simp))]
def cmpS (x y : ByteArray) : Int := if Op.bytesLess x.toList y.toList then -1 else if Op.bytesLess y.toList x.toList then 1 else 0
end Go.Proofs.Ytnakcmliopcabaa.S
namespace Go.Proofs.Ytnakcmliopcabaa.W
open Go.RowKit Go.Lib Go.Sort Go.Proofs.Ytnakcmliopcabaa.M Go.Proofs.Ytnakcmliopcabaa.S
set_option linter.unusedVariables false

def cmpI (x y : Int) : Int := if x < y then -1 else if y < x then 1 else 0
theorem nanI_is (x : Int) (W : World) : Calls Try.prog 42 #[.int .i64 x] W fun e w' => e = .returned (.bool false) ∧ W = w' := by
  go_enter Try.func42, Try.ntmps42
  go_wp2
  go_ret
  exact ⟨by simp, rfl⟩
theorem nanS_is (x : ByteArray) (W : World) : Calls Try.prog 54 #[.string x] W fun e w' => e = .returned (.bool false) ∧ W = w' := by
  go_enter Try.func54, Try.ntmps54
  go_wp2
  go_ret
  exact ⟨by simp, rfl⟩
theorem cmpI_is (x y : Int) (W : World) : Calls Try.prog 34 #[.int .i64 x, .int .i64 y] W fun e w' => e = .returned (.int .i64 (cmpI x y)) ∧ W = w' := by
  unfold cmpI
  by_cases c1 : x < y
  · rw [if_pos c1]
    go_enter Try.func34, Try.ntmps34
    go_wp2_with (go_at_call 42; refine (nanI_is _ _).mono ?_; rintro e w' ⟨rfl, rfl⟩)
    go_ret
    exact ⟨rfl, rfl⟩
  · rw [if_neg c1]
    by_cases c2 : y < x
    · rw [if_pos c2]
      go_enter Try.func34, Try.ntmps34
      go_wp2_with (go_at_call 42; refine (nanI_is _ _).mono ?_; rintro e w' ⟨rfl, rfl⟩)
      go_ret
      exact ⟨rfl, rfl⟩
    · rw [if_neg c2]
      go_enter Try.func34, Try.ntmps34
      go_wp2_with (go_at_call 42; refine (nanI_is _ _).mono ?_; rintro e w' ⟨rfl, rfl⟩)
      go_ret
      exact ⟨rfl, rfl⟩
theorem cmpS_is (x y : ByteArray) (W : World) : Calls Try.prog 39 #[.string x, .string y] W fun e w' => e = .returned (.int .i64 (cmpS x y)) ∧ W = w' := by
  unfold cmpS
  cases c1 : Op.bytesLess x.toList y.toList with
  | true =>
    rw [if_pos rfl]
    go_enter Try.func39, Try.ntmps39
    go_wp2_with (go_at_call 54; refine (nanS_is _ _).mono ?_; rintro e w' ⟨rfl, rfl⟩)
    go_ret
    exact ⟨rfl, rfl⟩
  | false =>
    rw [if_neg (by simp)]
    cases c2 : Op.bytesLess y.toList x.toList with
    | true =>
      rw [if_pos rfl]
      have c3 : (x.toList == y.toList) = false := by
        rw [beq_eq_false_iff_ne]; intro h; rw [h, bl_irrefl] at c2; cases c2
      clear c2
      go_enter Try.func39, Try.ntmps39
      go_wp2_with (go_at_call 54; refine (nanS_is _ _).mono ?_; rintro e w' ⟨rfl, rfl⟩)
      go_ret
      exact ⟨rfl, rfl⟩
    | false =>
      rw [if_neg (by simp)]
      have c3 : (x.toList == y.toList) = true := by rw [beq_iff_eq]; exact bl_total _ _ c1 c2
      clear c2
      go_enter Try.func39, Try.ntmps39
      go_wp2_with (go_at_call 54; refine (nanS_is _ _).mono ?_; rintro e w' ⟨rfl, rfl⟩)
      go_ret
      exact ⟨rfl, rfl⟩
theorem or_is (b : Nat) (c1 c2 : Int) (W : World) (d0 : W.cell? ⟨b, 0, none⟩ = some (.int .i64 c1)) (d1 : W.cell? ⟨b, 1, none⟩ = some (.int .i64 c2)) :
    Calls Try.prog 33 #[.slice (some ⟨b, 0, none⟩) 2 2] W fun e w' => e = .returned (.int .i64 (if c1 ≠ 0 then c1 else c2)) ∧ W = w' := by
  by_cases h1 : c1 = 0
  · subst h1
    rw [if_neg (by simp)]
    by_cases h2 : c2 = 0
    · subst h2
      go_enter Try.func33, Try.ntmps33
      go_wp2_with fail
      go_loop [8] (fun s8 => ∃ j : Nat, j ≤ 2 ∧ s8 = .int .i64 j) (fun i => 2 - (intOf i).toNat)
      case atStart => exact ⟨0, by omega, rfl⟩
      case round =>
        obtain ⟨j, hj, rfl⟩ := hrel
        rcases (by omega : j = 0 ∨ j = 1 ∨ j = 2) with rfl | rfl | rfl
        · go_wp2_with fail
          go_round
          case rel => exact ⟨1, by omega, by go_num⟩
          case measure => simp [intOf]
        · go_wp2_with fail
          go_round
          case rel => exact ⟨2, by omega, by go_num⟩
          case measure => simp [intOf]
        · go_wp2_with fail
          go_ret
          exact ⟨rfl, rfl⟩
    · have n2 : (c2 != 0) = true := by rw [bne_iff_ne]; exact h2
      go_enter Try.func33, Try.ntmps33
      go_wp2_with fail
      go_loop [8] (fun s8 => ∃ j : Nat, j ≤ 1 ∧ s8 = .int .i64 j) (fun i => 2 - (intOf i).toNat)
      case atStart => exact ⟨0, by omega, rfl⟩
      case round =>
        obtain ⟨j, hj, rfl⟩ := hrel
        rcases (by omega : j = 0 ∨ j = 1) with rfl | rfl
        · go_wp2_with fail
          go_round
          case rel => exact ⟨1, by omega, by go_num⟩
          case measure => simp [intOf]
        · go_wp2_with fail
          go_ret
          exact ⟨rfl, rfl⟩
  · rw [if_pos h1]
    have n1 : (c1 != 0) = true := by rw [bne_iff_ne]; exact h1
    go_enter Try.func33, Try.ntmps33
    go_wp2_with fail
    go_loop [8] (fun s8 => s8 = .int .i64 0) (fun i => 2 - (intOf i).toNat)
    case atStart => rfl
    case round =>
      obtain rfl := hrel
      go_wp2_with fail
      go_ret
      exact ⟨rfl, rfl⟩
theorem two0 (V : World) (a b : Value) (E : TypeId) {n : Nat} (h : n = V.heap.size) : (V.alloc (.cells #[a, b] E)).cell? ⟨n, 0, none⟩ = some a := by
  rw [World.cell?_alloc_at _ _ _ _ h]; rfl
theorem two1 (V : World) (a b : Value) (E : TypeId) {n : Nat} (h : n = V.heap.size) : (V.alloc (.cells #[a, b] E)).cell? ⟨n, 1, none⟩ = some b := by
  rw [World.cell?_alloc_at _ _ _ _ h]; rfl
/-- Lines by their numbers. -/
def cfL (i j : Nat) : Int := if cmpI (prt i) (prt j) ≠ 0 then cmpI (prt i) (prt j) else cmpS (cod i) (cod j)
theorem cfL_less (i j : Nat) : decide (cfL i j < 0) = decide (i < j) := by
  have hn := num_less (i := i) (j := j)
  have hc := cdB_less (a := i % 4) (b := j % 4) (by omega) (by omega)
  have hd := cdB_less (a := j % 4) (b := i % 4) (by omega) (by omega)
  change Op.bytesLess (cod i).toList (cod j).toList = _ at hc
  change Op.bytesLess (cod j).toList (cod i).toList = _ at hd
  unfold cfL cmpI cmpS
  rw [hc, hd]
  congr 1
  apply propext
  rw [hn]
  by_cases c1 : prt i < prt j
  · simp [c1]
  · by_cases c2 : prt j < prt i
    · simp [c1, c2]; omega
    · have : prt i = prt j := by omega
      by_cases c3 : i % 4 < j % 4
      · simp [c3, this]
      · by_cases c4 : j % 4 < i % 4 <;> simp [c1, c2, c3, c4]
set_option maxRecDepth 100000 in
set_option maxHeartbeats 400000 in
theorem lines1_is (x y : Nat × Int) (W : World) : Calls Try.prog 38 #[lv x.1 x.2, lv y.1 y.2] W fun e w' => e = .returned (.int .i64 (cfL x.1 y.1)) ∧ ∃ q os', w' = grow (W.drewN q) os' := by
  obtain ⟨i, z1⟩ := x
  obtain ⟨j, z2⟩ := y
  unfold lv cfL
  simp only
  generalize prt i = r1 at *
  generalize prt j = r2 at *
  generalize cod i = c1 at *
  generalize cod j = c2 at *
  have hI := Lib.hid (fun W => (cmpI_is r1 r2 W).mono (R' := fun e w' => e = .returned (.int .i64 (cmpI r1 r2)) ∧ w' = W) (fun _ _ h => ⟨h.1, h.2.symm⟩))
  have hS := Lib.hid (fun W => (cmpS_is c1 c2 W).mono (R' := fun e w' => e = .returned (.int .i64 (cmpS c1 c2)) ∧ w' = W) (fun _ _ h => ⟨h.1, h.2.symm⟩))
  generalize cmpI r1 r2 = a at *
  generalize cmpS c1 c2 = b at *
  have hor := fun bl W d0 d1 => or_is bl a b W d0 d1
  generalize (if a ≠ 0 then a else b) = r at *
  have hR := Lib.hid hor
  clear hor
  go_enter Try.func38, Try.ntmps38
  go_wp2_with fail
  have x0 : ((W.alloc (.cells #[.int .i64 r1, .string c1, .int .i64 z1] 45)).alloc (.cells #[.int .i64 r2, .string c2, .int .i64 z2] 45)).cell? ⟨W.heap.size, 0, none⟩ = some (.int .i64 r1) := by simp
  have x1 : ((W.alloc (.cells #[.int .i64 r1, .string c1, .int .i64 z1] 45)).alloc (.cells #[.int .i64 r2, .string c2, .int .i64 z2] 45)).cell? ⟨W.heap.size, 1, none⟩ = some (.string c1) := by simp
  have y0 : ((W.alloc (.cells #[.int .i64 r1, .string c1, .int .i64 z1] 45)).alloc (.cells #[.int .i64 r2, .string c2, .int .i64 z2] 45)).cell? ⟨W.heap.size + 1, 0, none⟩ = some (.int .i64 r2) := by simp
  have y1 : ((W.alloc (.cells #[.int .i64 r1, .string c1, .int .i64 z1] 45)).alloc (.cells #[.int .i64 r2, .string c2, .int .i64 z2] 45)).cell? ⟨W.heap.size + 1, 1, none⟩ = some (.string c2) := by simp
  have hV : Hid (∃ os, ((W.alloc (.cells #[.int .i64 r1, .string c1, .int .i64 z1] 45)).alloc (.cells #[.int .i64 r2, .string c2, .int .i64 z2] 45)) = grow W os) := ⟨_, by rw [alloc_eq_grow, alloc_eq_grow, grow_grow]⟩
  generalize ((W.alloc (.cells #[.int .i64 r1, .string c1, .int .i64 z1] 45)).alloc (.cells #[.int .i64 r2, .string c2, .int .i64 z2] 45)) = V at *
  go_still_tail 10, (by kernel_rfl)
  still_call (hI.out _)
  repeat still_step
  still_call (hS.out _)
  repeat still_step
  refine wpStill_nil ?_
  change wpList _ _ _ _ _ V.drew
  have hV' : Hid (∃ q os, V.drew = grow (W.drewN q) os) := by
    obtain ⟨os, h⟩ := hV.out
    exact ⟨1, os, by rw [h]; rfl⟩
  clear x0 x1 y0 y1 hV
  generalize V.drew = V2 at *
  go_wp2_with (go_at_call 33; refine (hR.out _ _ (two0 _ _ _ _ rfl) (two1 _ _ _ _ rfl)).mono ?_; rintro e w' ⟨rfl, rfl⟩)
  go_ret
  obtain ⟨q, os, h⟩ := hV'.out
  exact ⟨rfl, q, _, by rw [h, alloc_eq_grow, grow_grow]⟩
set_option maxRecDepth 100000 in
set_option maxHeartbeats 400000 in
theorem pahead_is (W : World) : Calls Try.prog 20 #[.agg #[.int .i64 2026, .int .i64 1], .agg #[.int .i64 2026, .int .i64 1]] W fun e w' => e = .returned (.int .i64 (0)) ∧ ∃ q os', w' = grow (W.drewN q) os' := by
  have hI := Lib.hid (fun W => (cmpI_is 2026 2026 W).mono (R' := fun e w' => e = .returned (.int .i64 (cmpI 2026 2026)) ∧ w' = W) (fun _ _ h => ⟨h.1, h.2.symm⟩))
  have hS := Lib.hid (fun W => (cmpI_is 1 1 W).mono (R' := fun e w' => e = .returned (.int .i64 (cmpI 1 1)) ∧ w' = W) (fun _ _ h => ⟨h.1, h.2.symm⟩))
  have ha : cmpI 2026 2026 = 0 := rfl
  have hb : cmpI 1 1 = 0 := rfl
  rw [show (0 : Int) = if cmpI 2026 2026 ≠ 0 then cmpI 2026 2026 else cmpI 1 1 from rfl]
  clear ha hb
  generalize cmpI 2026 2026 = a at *
  generalize cmpI 1 1 = b at *
  have hor := fun bl W d0 d1 => or_is bl a b W d0 d1
  generalize (if a ≠ 0 then a else b) = r at *
  have hR := Lib.hid hor
  clear hor
  go_enter Try.func20, Try.ntmps20
  go_wp2_with fail
  have x0 : ((W.alloc (.cells #[.int .i64 2026, .int .i64 1] 51)).alloc (.cells #[.int .i64 2026, .int .i64 1] 51)).cell? ⟨W.heap.size, 0, none⟩ = some (.int .i64 2026) := by simp
  have x1 : ((W.alloc (.cells #[.int .i64 2026, .int .i64 1] 51)).alloc (.cells #[.int .i64 2026, .int .i64 1] 51)).cell? ⟨W.heap.size, 1, none⟩ = some (.int .i64 1) := by simp
  have y0 : ((W.alloc (.cells #[.int .i64 2026, .int .i64 1] 51)).alloc (.cells #[.int .i64 2026, .int .i64 1] 51)).cell? ⟨W.heap.size + 1, 0, none⟩ = some (.int .i64 2026) := by simp
  have y1 : ((W.alloc (.cells #[.int .i64 2026, .int .i64 1] 51)).alloc (.cells #[.int .i64 2026, .int .i64 1] 51)).cell? ⟨W.heap.size + 1, 1, none⟩ = some (.int .i64 1) := by simp
  have hV : Hid (∃ os, ((W.alloc (.cells #[.int .i64 2026, .int .i64 1] 51)).alloc (.cells #[.int .i64 2026, .int .i64 1] 51)) = grow W os) := ⟨_, by rw [alloc_eq_grow, alloc_eq_grow, grow_grow]⟩
  generalize ((W.alloc (.cells #[.int .i64 2026, .int .i64 1] 51)).alloc (.cells #[.int .i64 2026, .int .i64 1] 51)) = V at *
  go_still_tail 10, (by kernel_rfl)
  still_call (hI.out _)
  repeat still_step
  still_call (hS.out _)
  repeat still_step
  refine wpStill_nil ?_
  change wpList _ _ _ _ _ V.drew
  have hV' : Hid (∃ q os, V.drew = grow (W.drewN q) os) := by
    obtain ⟨os, h⟩ := hV.out
    exact ⟨1, os, by rw [h]; rfl⟩
  clear x0 x1 y0 y1 hV
  generalize V.drew = V2 at *
  go_wp2_with (go_at_call 33; refine (hR.out _ _ (two0 _ _ _ _ rfl) (two1 _ _ _ _ rfl)).mono ?_; rintro e w' ⟨rfl, rfl⟩)
  go_ret
  obtain ⟨q, os, h⟩ := hV'.out
  exact ⟨rfl, q, _, by rw [h, alloc_eq_grow, grow_grow]⟩
end Go.Proofs.Ytnakcmliopcabaa.W
