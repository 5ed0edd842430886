/- The walks of slip: amounts that fit, a code, a line, which line stands ahead. -/
import Derived.Test.YtnakcmliopcabaaTeS
import Derived.Test.YtnakcmliopcabaaStr
import Derived.Test.YtnakcmliopcabaaProg
import Derived.BigQuiet
namespace Go.Proofs.Ytnakcmliopcabaa.W
open Go.RowKit Go.Proofs.Ytnakcmliopcabaa.M Go.Proofs.Ytnakcmliopcabaa.S
set_option linter.unusedVariables false

theorem ret_bool {a b : Bool} (h : a = b) : Ending.returned (.bool a) = .returned (.bool b) := by rw [h]
theorem ret_int {k : IntKind} {a b : Int} (h : a = b) : Ending.returned (.int k a) = .returned (.int k b) := by rw [h]
theorem fits_is (c : Int) (hc : fit c) (w : World) : Calls Try.prog 27 #[.int .i64 c] w fun e w' => e = .returned (.bool true) ∧ w = w' := by
  unfold fit at hc
  obtain ⟨h0, h1⟩ := hc
  go_enter Try.func27, Try.ntmps27
  go_wp2
  go_ret
  exact ⟨rfl, rfl⟩
theorem told_is (a b c : Int) (ha : fit a) (hb : fit b) (hc : fit c) (w : World) : Calls Try.prog 29 #[.int .i64 a, .int .i64 b, .int .i64 c] w fun e w' => e = .returned (.tuple #[.int .i64 c, .int .i64 0]) ∧ w = w' := by
  have h1 := Lib.hid (fun w => fits_is a ha w)
  have h2 := Lib.hid (fun w => fits_is b hb w)
  have h3 := Lib.hid (fun w => fits_is c hc w)
  clear ha hb hc
  go_enter Try.func29, Try.ntmps29
  go_wp2_with fail
  refine (h1.out _).mono ?_
  rintro e w' ⟨rfl, rfl⟩
  go_wp2_with fail
  refine (h2.out _).mono ?_
  rintro e w' ⟨rfl, rfl⟩
  go_wp2_with fail
  refine (h3.out _).mono ?_
  rintro e w' ⟨rfl, rfl⟩
  go_wp2_with fail
  go_ret2
  exact ⟨rfl, rfl⟩
theorem add_is (a b : Int) (ha : fit a) (hb : fit b) (hc : fit (a + b)) (w : World) : Calls Try.prog 15 #[.int .i64 a, .int .i64 b] w fun e w' => e = .returned (.tuple #[.int .i64 (a + b), .int .i64 0]) ∧ w = w' := by
  have h1 := Lib.hid (fun w => told_is a b (a + b) ha hb hc w)
  have wab : IntKind.i64.wrap (a + b) = a + b := IntWalk.i64_in _ (by unfold fit at *; omega)
  clear ha hb hc
  go_enter Try.func15, Try.ntmps15
  go_wp2_with fail
  refine (h1.out _).mono ?_
  rintro e w' ⟨rfl, rfl⟩
  go_wp2_with fail
  go_ret2
  exact ⟨rfl, rfl⟩

set_option maxRecDepth 100000 in
theorem code_is (j : Nat) (hj : j < 4) (W : World) : Calls Try.prog 41 #[.string (cdB j)] W fun e w' => e = .returned (.bool true) ∧ Below W.heap.size W w' := by
  obtain ⟨x, hx⟩ : ∃ x : UInt8, UInt8.ofNat (97 + j) = x := ⟨_, rfl⟩
  have hxn : 97 ≤ (x.toNat : Int) ∧ (x.toNat : Int) ≤ 122 := by
    rw [← hx]
    rcases (by omega : j = 0 ∨ j = 1 ∨ j = 2 ∨ j = 3) with rfl | rfl | rfl | rfl <;> decide
  have hl0 : (cdB j).toList = [x] := by rw [cdB_list, hx]
  obtain ⟨s, hs⟩ : ∃ s, cdB j = s := ⟨_, rfl⟩
  have hsz : s.size = 1 := by rw [← hs]; rfl
  rw [hs] at hl0 ⊢
  obtain ⟨cap, W1, hrun, hB1, hlt1, hcl⟩ := bytes_of (P := Try.prog) W 9 43 5 s Try.underlying9 Try.underlying43 Try.underlying5
  have hd : s.data.toList = [x] := by rw [← ByteArray.toList_eq]; exact hl0
  have c0 := hcl 0 (by rw [hd]; simp)
  rw [hd] at c0
  change W1.cell? ⟨W.heap.size, 0, none⟩ = some (.int .u8 (x.toNat : Int)) at c0
  have q1 : (s.toList == []) = false := by rw [hl0]; rfl
  have q2 : (s.toList == [45]) = false := by
    rw [hl0, beq_eq_false_iff_ne]
    intro h
    injection h with h
    rw [h] at hxn
    exact absurd hxn.1 (by decide)
  rw [hsz] at hrun
  have HB := Lib.hid hB1
  obtain ⟨h97, h122⟩ := hxn
  clear hcl hd hl0 hs hx hB1 hlt1
  go_enter Try.func41, Try.ntmps41
  go_wp2_with fail
  go_loop [19] (fun s19 => s19 = .int .i64 0 ∨ s19 = .int .i64 1) (fun i => 2 - (intOf i).toNat)
  case atStart => exact .inl rfl
  case round =>
    rcases hrel with rfl | rfl
    · go_wp2_with fail
      go_round
      case rel => exact .inr rfl
      case measure => simp [intOf]
    · go_wp2_with fail
      go_ret
      exact ⟨rfl, HB.out⟩

/-- Which line stands ahead. -/
theorem less_is (i j : Nat) (a b : Int) (v : Bool) (hv : Hid (decide (i < j) = v)) (W : World) : Calls Try.prog 31 #[lv i a, lv j b] W fun e w' => e = .returned (.bool v) ∧ Below W.heap.size W w' := by
  have h := hv.out
  clear hv
  have hB := Lib.hid (balloc (balloc (Below.refl W.heap.size W) (.cells #[.int .i64 (prt i), .string (cod i), .int .i64 a] 45)) (.cells #[.int .i64 (prt j), .string (cod j), .int .i64 b] 45))
  have hn := num_less (i := i) (j := j)
  have hc := cdB_less (a := i % 4) (b := j % 4) (by omega) (by omega)
  change Op.bytesLess (cod i).toList (cod j).toList = _ at hc
  unfold lv
  generalize prt i = p at *
  generalize prt j = r at *
  generalize cod i = s at *
  generalize cod j = t at *
  by_cases c1 : p < r
  · have d1 : decide (p < r) = true := decide_eq_true c1
    have : v = true := by rw [← h]; exact decide_eq_true (hn.2 (.inl c1))
    subst this
    clear c1 h hn hc
    go_enter Try.func31, Try.ntmps31
    go_wp2_with fail
    go_ret
    exact ⟨rfl, hB.out⟩
  · have d1 : decide (p < r) = false := decide_eq_false c1
    by_cases c2 : p = r
    · subst c2
      have d2 : (p == p) = true := by simp
      have e : Op.bytesLess s.toList t.toList = v := by
        rw [hc, ← h]
        congr 1
        apply propext
        rw [hn]
        constructor
        · intro h; exact .inr ⟨rfl, h⟩
        · rintro (h | h)
          · exact absurd h c1
          · exact h.2
      clear h hn hc c1
      cases v with
      | true =>
        go_enter Try.func31, Try.ntmps31
        go_wp2_with fail
        go_ret
        exact ⟨rfl, hB.out⟩
      | false =>
        go_enter Try.func31, Try.ntmps31
        go_wp2_with fail
        go_ret
        exact ⟨rfl, hB.out⟩
    · have d2 : (p == r) = false := by rw [beq_eq_false_iff_ne]; exact c2
      have : v = false := by
        rw [← h]
        refine decide_eq_false (fun hh => ?_)
        rcases hn.1 hh with h | h
        · exact c1 h
        · exact c2 h.1
      subst this
      clear h hn hc c1
      go_enter Try.func31, Try.ntmps31
      go_wp2_with fail
      go_ret
      exact ⟨rfl, hB.out⟩

/-- A line that is right. -/
theorem line_is (i : Nat) (c : Int) (hi : i < 28) (hc0 : c ≠ 0) (hc : fit c) (W : World) : Calls Try.prog 30 #[lv i c] W fun e w' => e = .returned (.int .i64 0) ∧ Below W.heap.size W w' := by
  have hB := Lib.hid (balloc (Below.refl W.heap.size W) (.cells #[.int .i64 (prt i), .string (cod i), .int .i64 c] 45))
  have hC := Lib.hid (fun w => code_is (i % 4) (by omega) w)
  have hF := Lib.hid (fun w => fits_is c hc w)
  obtain ⟨p0, p1⟩ := prt_bd hi
  have z0 : (c == 0) = false := by rw [beq_eq_false_iff_ne]; exact hc0
  have z1 : decide (prt i < 0) = false := decide_eq_false (by omega)
  have z2 : decide (7 ≤ prt i) = false := decide_eq_false (by omega)
  change Hid (∀ w, Calls Try.prog 41 #[.string (cod i)] w _) at hC
  have c0 : (W.alloc (.cells #[.int .i64 (prt i), .string (cod i), .int .i64 c] 45)).cell? ⟨W.heap.size, 2, none⟩ = some (.int .i64 c) := by simp
  have hlt : W.heap.size < (W.alloc (.cells #[.int .i64 (prt i), .string (cod i), .int .i64 c] 45)).heap.size := by simp
  unfold lv
  clear hc hi
  generalize prt i = p at *
  generalize cod i = s at *
  have HLT := Lib.hid hlt
  have HC0 := Lib.hid c0
  clear hlt c0
  go_enter Try.func30, Try.ntmps30
  go_wp2_with fail
  refine (hC.out _).mono ?_
  rintro e w1 ⟨rfl, hb1⟩
  have hB1 := Lib.hid (bstep hB.out hb1)
  have c0 := bc hb1 HLT.out HC0.out
  clear hb1
  go_wp2_with fail
  refine (hF.out _).mono ?_
  rintro e w2 ⟨rfl, rfl⟩
  go_wp2_with fail
  go_ret
  exact ⟨rfl, hB1.out⟩
end Go.Proofs.Ytnakcmliopcabaa.W
