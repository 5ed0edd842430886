/- The map of slips by their periods; the map of amounts by parts and codes. -/
import Derived.Test.YtnakcmliopcabaaTeD
import Derived.Test.YtnakcmliopcabaaMapK
import Derived.Test.YtnakcmliopcabaaChecked
namespace Go.Proofs.Ytnakcmliopcabaa.W
open Go.RowKit Go.Proofs.Ytnakcmliopcabaa.M Go.Proofs.Ytnakcmliopcabaa.S
open Go.Maps (Keyed)
set_option linter.unusedVariables false

theorem laidOutT : laidOutB Try.prog = true := by kernel_rfl
theorem kPer : Keyed Try.prog 51 := Keyed.of_law (deep_law_laid laidOutT (m := 3) (by omega) (of_decide_eq_true (by kernel_rfl)) (by kernel_rfl) (by kernel_rfl))
theorem kSpot : Keyed Try.prog 67 := Keyed.of_law (deep_law_laid laidOutT (m := 3) (by omega) (of_decide_eq_true (by kernel_rfl)) (by kernel_rfl) (by kernel_rfl))

/-- The one period there is. -/
theorem perNames : Names (K := Unit) Try.prog 51 (fun _ => pv) (fun _ => True) where
  reads _ _ := by kernel_rfl
  inj _ _ _ _ _ := rfl
def spv (i : Nat) : Value := .agg #[.int .i64 (prt i), .string (cod i)]
theorem spotNames : Names (K := Nat) Try.prog 67 spv (fun i => i < 28) where
  reads x hx := by
    have h : (List.range 28).all (fun i => (keyOf Try.prog 67 (spv i)).isSome) = true := by kernel_rfl
    exact List.all_eq_true.1 h x (List.mem_range.2 hx)
  inj x y hx hy h := by
    unfold spv at h
    injection h with h
    injection h with h
    injection h with h1 h2
    injection h1 with _ h1
    injection h2 with h2 _
    injection h2 with h2
    have hc := cdB_same (a := x % 4) (b := y % 4) (by omega) (by omega)
    have h3 : (cod x).toList = (cod y).toList := by rw [h2]
    change ((cod x).toList == (cod y).toList) = _ at hc
    rw [h3] at hc
    simp at hc
    exact num_same.2 ⟨h1, hc⟩

/-- A slip in a map: year, index, lines. -/
abbrev Sx := Int × Int × Option Addr × Nat × Nat
def sxv (x : Sx) : Value := .agg #[.int .i64 x.1, .int .i64 x.2.1, .slice x.2.2.1 x.2.2.2.1 x.2.2.2.2]
def spd : Option Nat → DataW Unit
  | none => .nil
  | some k => .lit (.int .i64 k)
def add_d : Option Addr → DataW Unit
  | none => .nil
  | some a => .agg [.lit (.int .i64 a.block), .lit (.int .i64 a.off), spd a.spot]
theorem spd_inj (a b : Option Nat) (h : spd a = spd b) : a = b := by
  cases a <;> cases b
  · rfl
  · cases h
  · cases h
  · injection h with h
    injection h with _ h
    congr 1; omega
theorem add_inj (a b : Option Addr) (h : add_d a = add_d b) : a = b := by
  cases a with
  | none => cases b with
    | none => rfl
    | some b => cases h
  | some a => cases b with
    | none => cases h
    | some b =>
      obtain ⟨b1, o1, s1⟩ := a
      obtain ⟨b2, o2, s2⟩ := b
      injection h with h
      injection h with h1 h
      injection h with h2 h
      injection h with h3 _
      injection h1 with h1
      injection h1 with _ h1
      injection h2 with h2
      injection h2 with _ h2
      have := spd_inj _ _ h3
      subst this
      have e1 : b1 = b2 := by simp only at h1; omega
      have e2 : o1 = o2 := by simp only at h2; omega
      rw [e1, e2]
def sxd (x : Sx) : DataW Unit := .agg [.lit (.int .i64 x.1), .lit (.int .i64 x.2.1), add_d x.2.2.1, .lit (.int .i64 x.2.2.2.1), .lit (.int .i64 x.2.2.2.2)]
def sxR : Value → Option (DataW Unit × List MemPlace)
  | .agg ⟨[.int .i64 y, .int .i64 i, .slice a n c]⟩ => some (sxd (y, i, a, n, c), [])
  | _ => none
theorem reads_sx : Reads sxv sxd sxR where
  enc x := rfl
  inv v z h := by
    unfold sxR at h
    split at h
    · injection h with h; exact ⟨(_, _, _, _, _), rfl, h.symm⟩
    · cases h
  inj x y h := by
    obtain ⟨y1, i1, a1, n1, c1⟩ := x
    obtain ⟨y2, i2, a2, n2, c2⟩ := y
    unfold sxd at h
    injection h with h
    injection h with h1 h
    injection h with h2 h
    injection h with h3 h
    injection h with h4 h
    injection h with h5 _
    injection h1 with h1
    injection h1 with _ h1
    injection h2 with h2
    injection h2 with _ h2
    injection h4 with h4
    injection h4 with _ h4
    injection h5 with h5
    injection h5 with _ h5
    have h3 := add_inj _ _ h3
    simp only at h1 h2 h3 h4 h5
    have e4 : n1 = n2 := by omega
    have e5 : c1 = c2 := by omega
    rw [h1, h2, h3, e4, e5]
theorem zeroSlip (w : World) : (zeroValue 29).run Try.prog w = .ok (sxv (0, 0, none, 0, 0)) w := by kernel_rfl
abbrev MapT (w : World) (b n : Nat) (f : Unit → Option Sx) : Prop := MapF Try.prog 51 (fun _ : Unit => pv) (fun _ => True) sxd sxR w b n f
def idat (x : Int) : DataW Unit := .lit (.int .i64 x)
def iR : Value → Option (DataW Unit × List MemPlace)
  | .int .i64 a => some (idat a, [])
  | _ => none
theorem reads_i : Reads (Value.int .i64) idat iR where
  enc := fun x => rfl
  inv := fun v z h => by
    unfold iR at h
    split at h
    · injection h with h; exact ⟨_, rfl, h.symm⟩
    · cases h
  inj := fun x y h => by unfold idat at h; injection h with h; injection h
theorem zeroInt (w : World) : (zeroValue 23).run Try.prog w = .ok (.int .i64 0) w := by kernel_rfl
abbrev MapS (w : World) (b n : Nat) (f : Nat → Option Int) : Prop := MapF Try.prog 67 spv (fun i => i < 28) idat iR w b n f
end Go.Proofs.Ytnakcmliopcabaa.W
