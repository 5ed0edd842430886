/- Lists of items: short ones, the map that they tell, what they have of a code; the document's check of orders. -/
import Derived.Test.YtjfcbflhnfjcfaaAtU
import Derived.StillTailTactics
namespace Go.Proofs.Ytjfcbflhnfjcfaa.S
open Go.Proofs.Ytjfcbflhnfjcfaa.B Go.Proofs.Ytjfcbflhnfjcfaa.M
/-- What the first k items have of a code, the last one of it. -/
def fnd (I : Nat → ByteArray × Int) (s : ByteArray) : Nat → Int
  | 0 => 0
  | k + 1 => if (I k).1 = s then (I k).2 else fnd I s k
/-- .. as a map. -/
def pm (I : Nat → ByteArray × Int) : Nat → Mp
  | 0 => fun _ => none
  | k + 1 => upd (pm I k) (I k).1 (I k).2
def pn (I : Nat → ByteArray × Int) : Nat → Nat
  | 0 => 0
  | k + 1 => more (pm I k) (I k).1 (pn I k)
theorem pn_le (I : Nat → ByteArray × Int) : ∀ k, pn I k ≤ k
  | 0 => Nat.le_refl _
  | k + 1 => by have := pn_le I k; unfold pn more; split <;> omega
theorem pm_was (I : Nat → ByteArray × Int) (s : ByteArray) : ∀ k, was (pm I k) s = fnd I s k
  | 0 => rfl
  | k + 1 => by
    unfold fnd
    by_cases h : (I k).1 = s
    · rw [if_pos h]; unfold was pm upd; rw [if_pos h.symm]; rfl
    · rw [if_neg h, ← pm_was I s k]; unfold was; show (upd _ _ _ s).getD 0 = _; unfold upd; rw [if_neg (fun e => h e.symm)]
theorem pm_some (I : Nat → ByteArray × Int) (s : ByteArray) : ∀ k, (pm I k s).isSome = decide (∃ i, i < k ∧ (I i).1 = s)
  | 0 => by simp [pm]
  | k + 1 => by
    unfold pm upd
    by_cases h : s = (I k).1
    · rw [if_pos h]; exact (decide_eq_true ⟨k, by omega, h.symm⟩).symm
    · rw [if_neg h, pm_some I s k]
      congr 1
      apply propext
      constructor
      · rintro ⟨i, hi, e⟩; exact ⟨i, by omega, e⟩
      · rintro ⟨i, hi, e⟩
        rcases Nat.lt_or_ge i k with h1 | h1
        · exact ⟨i, h1, e⟩
        · obtain rfl : i = k := by omega
          exact absurd e.symm h
theorem fnd_ok {I : Nat → ByteArray × Int} (s : ByteArray) : ∀ k, (∀ j, j < k → I64 (I j).2) → I64 (fnd I s k)
  | 0, _ => by unfold fnd I64; omega
  | k + 1, h => by
    unfold fnd
    split
    · exact h k (by omega)
    · exact fnd_ok s k (fun j hj => h j (by omega))
end Go.Proofs.Ytjfcbflhnfjcfaa.S
namespace Go.Proofs.Ytjfcbflhnfjcfaa.W
open Go.RowKit Go.Proofs.Ytjfcbflhnfjcfaa.M Go.Proofs.Ytjfcbflhnfjcfaa.B Go.Proofs.Ytjfcbflhnfjcfaa.S
open Go.Maps (Keyed)
set_option linter.unusedVariables false

theorem strs_ne {a b : ByteArray} (h : a ≠ b) : (a.toList == b.toList) = false := by
  rw [ByteArray.toList_eq, ByteArray.toList_eq]
  exact beq_eq_false_iff_ne.2 (fun e => h (key_inj (congrArg Lit.string e)))

def ShortI (n : Nat) (I : Nat → ByteArray × Int) (W : World) (e : Ending) (w' : World) : Prop := W = w' ∧ (e = .returned (.bool false) ∨ (e = .returned (.bool true) ∧ n ≤ 30 ∧ ∀ j, j < n → (I j).1.size ≤ 300))
set_option maxRecDepth 100000 in
theorem shorti_is (a : Option Addr) (n cap : Nat) (I : Nat → ByteArray × Int) (W : World) (hl : Lst 2 W a n (fun j => ic (I j))) :
    Calls Try.prog 12 #[.slice a n cap] W (ShortI n I W) := by
  have hn := hl.1
  go_enter Try.func12, Try.ntmps12
  go_wp2_with fail
  go_loop [3] (fun s5 => ∃ i : Nat, i ≤ n ∧ i ≤ 30 ∧ s5 = .int .i64 i ∧ Hid (∀ j, j < i → (I j).1.size ≤ 300)) (fun s5 => n - (intOf s5).toNat)
  case atStart => exact ⟨0, Nat.zero_le _, Nat.zero_le _, rfl, fun j hj => absurd hj (by omega)⟩
  case round =>
    obtain ⟨i, hi, him, rfl, hok⟩ := hrel
    by_cases c : i < n
    · by_cases cm : i < 30
      · obtain ⟨b, off, rfl, hlt, hcl⟩ := hl.at_ c
        have d0 := hcl 0 (.string (I i).1) rfl
        rw [Nat.add_zero] at d0
        have hw : IntKind.i64.wrap ((i : Int) + 1) = (i : Int) + 1 := IntWalk.i64_in _ (by omega)
        have cz : (i : Int) < (n : Int) := by omega
        have cmz : (i : Int) < 30 := by omega
        by_cases c3 : 300 < (I i).1.size
        · clear hcl hl
          generalize (I i).1 = s at *
          have c3z : (300 : Int) < (s.size : Int) := by omega
          go_wp2_with fail
          go_ret
          exact ⟨rfl, .inl rfl⟩
        · have hnx : Hid (∀ j, j < i + 1 → (I j).1.size ≤ 300) := fun j hj => by
            by_cases e : j = i
            · subst e; omega
            · exact hok.out j (by omega)
          clear hcl
          generalize (I i).1 = s at *
          have c3z : ¬ (300 : Int) < (s.size : Int) := by omega
          go_wp2_with fail
          go_round
          case rel => exact ⟨i + 1, by omega, by omega, by go_num, hnx⟩
          case measure => simp [intOf]; omega
      · have cz : (i : Int) < (n : Int) := by omega
        have cmz : ¬ (i : Int) < 30 := by omega
        have cnm : ¬ (n : Int) ≤ 30 := by omega
        go_wp2_with fail
        go_ret
        exact ⟨rfl, .inl rfl⟩
    · obtain rfl : i = n := by omega
      have cz : ¬ (i : Int) < (i : Int) := by omega
      have cnz : (i : Int) ≤ 30 := by omega
      go_wp2_with fail
      go_ret
      exact ⟨rfl, .inr ⟨rfl, by omega, hok.out⟩⟩

set_option maxRecDepth 100000 in
theorem found_is (a : Option Addr) (n cap : Nat) (I : Nat → ByteArray × Int) (s : ByteArray) (v : Int) (hv : Hid (fnd I s n = v)) (W : World) (hl : Lst 2 W a n (fun j => ic (I j))) :
    Calls Try.prog 16 #[.slice a n cap, .string s] W fun e w' => e = .returned (.int .i64 v) ∧ W = w' := by
  have hn := hl.1
  go_enter Try.func16, Try.ntmps16
  go_wp2_with fail
  go_loop [5, 6] (fun s5 s6 => ∃ (i : Nat) (q : Int), i ≤ n ∧ s6 = .int .i64 i ∧ s5 = .int .i64 q ∧ Hid (fnd I s i = q)) (fun _ s6 => n - (intOf s6).toNat)
  case atStart => exact ⟨0, 0, Nat.zero_le _, rfl, rfl, rfl⟩
  case round =>
    obtain ⟨i, q, hi, rfl, rfl, hq⟩ := hrel
    by_cases c : i < n
    · obtain ⟨b, off, rfl, hlt, hcl⟩ := hl.at_ c
      have d0 := hcl 0 (.string (I i).1) rfl
      have d1 := hcl 1 (.int .i64 (I i).2) rfl
      rw [Nat.add_zero] at d0
      have hw : IntKind.i64.wrap ((i : Int) + 1) = (i : Int) + 1 := IntWalk.i64_in _ (by omega)
      have cz : (i : Int) < (n : Int) := by omega
      by_cases ct : (I i).1 = s
      · have hnx : Hid (fnd I s (i + 1) = (I i).2) := by show _ = _; unfold fnd; rw [if_pos ct]
        rw [ct] at d0
        clear hcl hq ct
        generalize (I i).2 = y at *
        have hbn : (s.toList == s.toList) = true := by simp
        go_wp2_with fail
        go_round
        case rel => exact ⟨i + 1, y, by omega, by go_num, rfl, hnx⟩
        case measure => simp [intOf]; omega
      · have hnx : Hid (fnd I s (i + 1) = q) := by show _ = _; unfold fnd; rw [if_neg ct]; exact hq.out
        have hbn : ((I i).1.toList == s.toList) = false := strs_ne ct
        clear hcl hq ct d1
        generalize (I i).1 = t at *
        go_wp2_with fail
        go_round
        case rel => exact ⟨i + 1, q, by omega, by go_num, rfl, hnx⟩
        case measure => simp [intOf]; omega
    · obtain rfl : i = n := by omega
      have hvq : Hid (v = q) := hv.out.symm.trans hq.out
      go_wp2_with fail
      go_ret
      exact ⟨ret_int hvq.out.symm, rfl⟩

set_option maxRecDepth 100000 in
theorem paid_is (a : Option Addr) (n cap : Nat) (I : Nat → ByteArray × Int) (W : World) (hl : Lst 2 W a n (fun j => ic (I j))) (hsz : ∀ j, j < n → (I j).1.size ≤ 300) (hn : n ≤ 1000) :
    Calls Try.prog 13 #[.slice a n cap] W fun e w' => e = .returned (.map (some W.heap.size)) ∧ Below W.heap.size W w' ∧ MapP w' W.heap.size (pn I n) (pm I n) := by
  have hst0 : Below W.heap.size W (W.alloc (.map #[] 0)) ∧ MapP (W.alloc (.map #[] 0)) W.heap.size 0 (fun _ => none) := ⟨balloc (Below.refl _ _) _, mapIs_made W⟩
  have hmm := @run_makeMap Try.prog
  go_enter Try.func13, Try.ntmps13
  go_wp2_with fail
  clear hmm
  go_loopw [4] (fun s4 wx => ∃ i : Nat, i ≤ n ∧ s4 = .int .i64 i ∧ Below W.heap.size W wx ∧ MapP wx W.heap.size (pn I i) (pm I i)) (fun s4 _ => n - (intOf s4).toNat)
  case atStart => exact ⟨0, Nat.zero_le _, rfl, hst0⟩
  case round =>
    obtain ⟨i, hi, rfl, hbel, hM⟩ := hrel
    clear hst0
    by_cases ci : i < n
    · obtain ⟨b1, o1, rfl, hlt1, hc1⟩ := (hl.step hbel).at_ ci
      have d0 := hc1 0 (.string (I i).1) rfl
      have d1 := hc1 1 (.int .i64 (I i).2) rfl
      rw [Nat.add_zero] at d0
      have wi : IntKind.i64.wrap ((i : Int) + 1) = (i : Int) + 1 := IntWalk.i64_in _ (by omega)
      have z0 : (0 : Int) ≤ (i : Int) := by omega
      have z3 : (i : Int) < (n : Int) := by omega
      have hsi := hsz i ci
      have hpn := pn_le I i
      have e1 : pn I (i + 1) = more (pm I i) (I i).1 (pn I i) := rfl
      have e2 : pm I (i + 1) = Go.Proofs.Ytjfcbflhnfjcfaa.M.upd (pm I i) (I i).1 (I i).2 := rfl
      clear hc1 hl hsz
      go_upto_region 5 with fail
      go_still_tail 11, (by kernel_rfl)
      change wpList _ _ _ _ _ wr.drew
      go_wp2_with (at_mapUpdate; refine wpList_mapUpdate_is _ rfl _ _ _ 29 rfl 9 22 kStr Try.underlying9 Try.underlying29 reads_i W.heap.size (pn I i) (pm I i) rfl hM.drew (by unfold maxLen; omega) (I i).1 rfl (by unfold maxLen; omega) (I i).2 rfl ?_)
      intro w2 hM2 ht2
      rw [← e1, ← e2] at hM2
      have hbel2 : Below W.heap.size W w2 := Below.grown (hbel.drew) ht2.grown hbel.size (fun k hk => by cases hk; exact Nat.le_refl _)
      go_wp2_with fail
      go_roundw
      case rel => exact ⟨i + 1, by omega, by go_num, hbel2, hM2⟩
      case measure => simp [intOf]; omega
    · obtain rfl : i = n := by omega
      go_wp2_with fail
      go_ret
      exact ⟨rfl, hbel, hM⟩
end Go.Proofs.Ytjfcbflhnfjcfaa.W
