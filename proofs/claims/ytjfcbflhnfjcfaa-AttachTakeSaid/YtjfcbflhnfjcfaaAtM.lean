/- Whether lists are short enough for a look. -/
import Derived.Test.YtjfcbflhnfjcfaaAtK
namespace Go.Proofs.Ytjfcbflhnfjcfaa.W
open Go.RowKit Go.Proofs.Ytjfcbflhnfjcfaa.M Go.Proofs.Ytjfcbflhnfjcfaa.B Go.Proofs.Ytjfcbflhnfjcfaa.S
open Go.Maps (Keyed)
set_option linter.unusedVariables false

theorem str_ne {a b : ByteArray} (h : a ≠ b) : (a.toList == b.toList) = false := by
  rw [ByteArray.toList_eq, ByteArray.toList_eq]
  exact beq_eq_false_iff_ne.2 (fun e => h (key_inj (congrArg Lit.string e)))

/-- What a look at the list answers. -/
def ShortOut (n m : Nat) (S : Nat → Ord) (W : World) (e : Ending) (w' : World) : Prop := W = w' ∧ (e = .returned (.bool false) ∨ (e = .returned (.bool true) ∧ n ≤ m ∧ ∀ j, j < n → (S j).code.size ≤ 300))
set_option maxRecDepth 100000 in
theorem short_is (a : Option Addr) (n cap m : Nat) (S : Nat → Ord) (W : World) (hl : Lst 6 W a n (fun j => ocells (S j))) (hm : m ≤ 1000) :
    Calls Try.prog 11 #[.slice a n cap, .int .i64 m] W (ShortOut n m S W) := by
  have hn := hl.1
  go_enter Try.func11, Try.ntmps11
  go_wp2_with fail
  go_loop [5] (fun s5 => ∃ i : Nat, i ≤ n ∧ i ≤ m + 1 ∧ s5 = .int .i64 i ∧ Hid (∀ j, j < i → (S j).code.size ≤ 300)) (fun s5 => n - (intOf s5).toNat)
  case atStart => exact ⟨0, Nat.zero_le _, Nat.zero_le _, rfl, fun j hj => absurd hj (by omega)⟩
  case round =>
    obtain ⟨i, hi, him, rfl, hok⟩ := hrel
    by_cases c : i < n
    · by_cases cm : i ≤ m
      · obtain ⟨b, off, rfl, hlt, hcl⟩ := hl.at_ c
        have d0 := hcl 0 (.string (S i).code) rfl
        rw [Nat.add_zero] at d0
        have hw : IntKind.i64.wrap ((i : Int) + 1) = (i : Int) + 1 := IntWalk.i64_in _ (by omega)
        have cz : (i : Int) < (n : Int) := by omega
        have cmz : (i : Int) ≤ (m : Int) := by omega
        by_cases c3 : 300 < (S i).code.size
        · clear hcl hl
          generalize (S i).code = s at *
          have c3z : (300 : Int) < (s.size : Int) := by omega
          go_wp2_with fail
          go_ret
          exact ⟨rfl, .inl rfl⟩
        · have hnx : Hid (∀ j, j < i + 1 → (S j).code.size ≤ 300) := fun j hj => by
            by_cases e : j = i
            · subst e; omega
            · exact hok.out j (by omega)
          clear hcl
          generalize (S i).code = s at *
          have c3z : ¬ (300 : Int) < (s.size : Int) := by omega
          go_wp2_with fail
          go_round
          case rel => exact ⟨i + 1, by omega, by omega, by go_num, hnx⟩
          case measure => simp [intOf]; omega
      · have cz : (i : Int) < (n : Int) := by omega
        have cmz : ¬ (i : Int) ≤ (m : Int) := by omega
        have cnm : ¬ (n : Int) ≤ (m : Int) := by omega
        go_wp2_with fail
        go_ret
        exact ⟨rfl, .inl rfl⟩
    · obtain rfl : i = n := by omega
      have cz : ¬ (i : Int) < (i : Int) := by omega
      by_cases cnm : i ≤ m
      · have cnz : (i : Int) ≤ (m : Int) := by omega
        go_wp2_with fail
        go_ret
        exact ⟨rfl, .inr ⟨rfl, cnm, hok.out⟩⟩
      · have cnz : ¬ (i : Int) ≤ (m : Int) := by omega
        go_wp2_with fail
        go_ret
        exact ⟨rfl, .inl rfl⟩
end Go.Proofs.Ytjfcbflhnfjcfaa.W
