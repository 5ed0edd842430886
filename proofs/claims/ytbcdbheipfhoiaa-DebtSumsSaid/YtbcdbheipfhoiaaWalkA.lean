/- The walks of debt: what Settle, Forgive and Chain compute. -/
import Derived.Test.YtbcdbheipfhoiaaRows
import Derived.WalkKit
import Derived.ProofKit
import Derived.OpenShut
import Derived.Outline
import Derived.Below
import Derived.BigQuiet
import Derived.WalkLawsBesides
import Derived.Deep.QuietTactic
namespace Go.Proofs.Ytbcdbheipfhoiaa.W
open Go.RowKit

/-- What Settle answers: what is owed, what is paid, the error's number. -/
def stl (o d : Int) : Int × Int × Int :=
  if o < 0 ∨ 1125899906842624 < o then (o, 0, 2)
  else if d < -1125899906842624 ∨ 1125899906842624 < d then (o, 0, 9)
  else if 0 ≤ d - o then (0, d - o, 0)
  else if 1125899906842624 < -(d - o) then (o, 0, 9)
  else (-(d - o), 0, 0)

def stlV (s : Int × Int × Int) : Value := .tuple #[.agg #[.int .i64 s.1], .int .i64 s.2.1, .int .i64 s.2.2]

theorem settle (o d : Int) (w : World) (_ho : -9223372036854775808 ≤ o ∧ o ≤ 9223372036854775807) (_hd : -9223372036854775808 ≤ d ∧ d ≤ 9223372036854775807) :
    Calls Try.prog 10 #[.agg #[.int .i64 o], .int .i64 d] w fun e w' => e = .returned (stlV (stl o d)) ∧ Below w.heap.size w w' := by
  by_cases h1 : o < 0
  · have hs : stl o d = (o, 0, 2) := by unfold stl; rw [if_pos (.inl h1)]
    have h1' : ¬ 0 ≤ o := by omega
    rw [hs]; clear hs
    go_enter Try.func10, Try.ntmps10
    go_wp2
    refine bodyPost_ret (v := stlV (o, 0, 2)) (by simp [results, Try.results10, go_sem, stlV]) rfl ⟨rfl, ?_⟩
    repeat (first | exact Below.refl _ _ | refine Below.alloc ?_ (by simp) _ | refine Below.setCell ?_ (by simp) _ | refine Below.drew ?_)
  by_cases h2 : 1125899906842624 < o
  · have hs : stl o d = (o, 0, 2) := by unfold stl; rw [if_pos (.inr h2)]
    have h1' : 0 ≤ o := by omega
    have h2' : ¬ o ≤ 1125899906842624 := by omega
    rw [hs]; clear hs
    go_enter Try.func10, Try.ntmps10
    go_wp2
    refine bodyPost_ret (v := stlV (o, 0, 2)) (by simp [results, Try.results10, go_sem, stlV]) rfl ⟨rfl, ?_⟩
    repeat (first | exact Below.refl _ _ | refine Below.alloc ?_ (by simp) _ | refine Below.setCell ?_ (by simp) _ | refine Below.drew ?_)
  have h1' : 0 ≤ o := by omega
  have h2' : o ≤ 1125899906842624 := by omega
  by_cases h3 : d < -1125899906842624
  · have hs : stl o d = (o, 0, 9) := by unfold stl; rw [if_neg (by omega), if_pos (.inl h3)]
    rw [hs]; clear hs
    go_enter Try.func10, Try.ntmps10
    go_wp2
    refine bodyPost_ret (v := stlV (o, 0, 9)) (by simp [results, Try.results10, go_sem, stlV]) rfl ⟨rfl, ?_⟩
    repeat (first | exact Below.refl _ _ | refine Below.alloc ?_ (by simp) _ | refine Below.setCell ?_ (by simp) _ | refine Below.drew ?_)
  by_cases h4 : 1125899906842624 < d
  · have hs : stl o d = (o, 0, 9) := by unfold stl; rw [if_neg (by omega), if_pos (.inr h4)]
    rw [hs]; clear hs
    go_enter Try.func10, Try.ntmps10
    go_wp2
    refine bodyPost_ret (v := stlV (o, 0, 9)) (by simp [results, Try.results10, go_sem, stlV]) rfl ⟨rfl, ?_⟩
    repeat (first | exact Below.refl _ _ | refine Below.alloc ?_ (by simp) _ | refine Below.setCell ?_ (by simp) _ | refine Below.drew ?_)
  have h3' : -1125899906842624 ≤ d := by omega
  have h4' : d ≤ 1125899906842624 := by omega
  by_cases h5 : 0 ≤ d - o
  · have hs : stl o d = (0, d - o, 0) := by unfold stl; rw [if_neg (by omega), if_neg (by omega), if_pos h5]
    rw [hs]; clear hs
    go_enter Try.func10, Try.ntmps10
    go_wp2
    refine bodyPost_ret (v := stlV (0, d - o, 0)) (by simp [results, Try.results10, go_sem, stlV]) rfl ⟨rfl, ?_⟩
    repeat (first | exact Below.refl _ _ | refine Below.alloc ?_ (by simp) _ | refine Below.setCell ?_ (by simp) _ | refine Below.drew ?_)
  have h5' : 0 ≤ -(d - o) := by omega
  by_cases h6 : 1125899906842624 < -(d - o)
  · have hs : stl o d = (o, 0, 9) := by unfold stl; rw [if_neg (by omega), if_neg (by omega), if_neg h5, if_pos h6]
    have h6' : ¬ -(d - o) ≤ 1125899906842624 := by omega
    rw [hs]; clear hs
    go_enter Try.func10, Try.ntmps10
    go_wp2
    refine bodyPost_ret (v := stlV (o, 0, 9)) (by simp [results, Try.results10, go_sem, stlV]) rfl ⟨rfl, ?_⟩
    repeat (first | exact Below.refl _ _ | refine Below.alloc ?_ (by simp) _ | refine Below.setCell ?_ (by simp) _ | refine Below.drew ?_)
  · have hs : stl o d = (-(d - o), 0, 0) := by unfold stl; rw [if_neg (by omega), if_neg (by omega), if_neg h5, if_neg h6]
    have h6' : -(d - o) ≤ 1125899906842624 := by omega
    rw [hs]; clear hs
    go_enter Try.func10, Try.ntmps10
    go_wp2
    refine bodyPost_ret (v := stlV (-(d - o), 0, 0)) (by simp [results, Try.results10, go_sem, stlV]) rfl ⟨rfl, ?_⟩
    repeat (first | exact Below.refl _ _ | refine Below.alloc ?_ (by simp) _ | refine Below.setCell ?_ (by simp) _ | refine Below.drew ?_)

theorem settle_to (o d o' p k : Int) (w : World) (ho : -9223372036854775808 ≤ o ∧ o ≤ 9223372036854775807) (hd : -9223372036854775808 ≤ d ∧ d ≤ 9223372036854775807) (hs : stl o d = (o', p, k)) :
    Calls Try.prog 10 #[.agg #[.int .i64 o], .int .i64 d] w fun e w' => e = .returned (.tuple #[.agg #[.int .i64 o'], .int .i64 p, .int .i64 k]) ∧ Below w.heap.size w w' := by
  have h := settle o d w ho hd
  rw [hs] at h
  exact h

theorem refSettle (o d : Int) (w : World) (_ho : -9223372036854775808 ≤ o ∧ o ≤ 9223372036854775807) (_hd : -9223372036854775808 ≤ d ∧ d ≤ 9223372036854775807) :
    Calls Try.prog 11 #[.int .i64 o, .int .i64 d] w fun e w' => e = .returned (.tuple #[.int .i64 (stl o d).1, .int .i64 (stl o d).2.1, .int .i64 (stl o d).2.2]) ∧ w = w' := by
  by_cases h1 : o < 0
  · have hs : stl o d = (o, 0, 2) := by unfold stl; rw [if_pos (.inl h1)]
    rw [hs]; clear hs
    go_enter Try.func11, Try.ntmps11
    go_wp2
    go_ret3
    exact ⟨rfl, rfl⟩
  by_cases h2 : 1125899906842624 < o
  · have hs : stl o d = (o, 0, 2) := by unfold stl; rw [if_pos (.inr h2)]
    rw [hs]; clear hs
    go_enter Try.func11, Try.ntmps11
    go_wp2
    go_ret3
    exact ⟨rfl, rfl⟩
  by_cases h4 : 1125899906842624 < d
  · have hs : stl o d = (o, 0, 9) := by unfold stl; rw [if_neg (by omega), if_pos (.inr h4)]
    rw [hs]; clear hs
    go_enter Try.func11, Try.ntmps11
    go_wp2
    go_ret3
    exact ⟨rfl, rfl⟩
  by_cases h3 : d < -1125899906842624
  · have hs : stl o d = (o, 0, 9) := by unfold stl; rw [if_neg (by omega), if_pos (.inl h3)]
    rw [hs]; clear hs
    go_enter Try.func11, Try.ntmps11
    go_wp2
    go_ret3
    exact ⟨rfl, rfl⟩
  have h1' : 0 ≤ o := by omega
  have h2' : o ≤ 1125899906842624 := by omega
  have h3' : -1125899906842624 ≤ d := by omega
  have h4' : d ≤ 1125899906842624 := by omega
  by_cases h5 : 0 ≤ d - o
  · have hs : stl o d = (0, d - o, 0) := by unfold stl; rw [if_neg (by omega), if_neg (by omega), if_pos h5]
    rw [hs]; clear hs
    go_enter Try.func11, Try.ntmps11
    go_wp2
    go_ret3
    exact ⟨rfl, rfl⟩
  have h5' : 0 ≤ -(d - o) := by omega
  by_cases h6 : 1125899906842624 < -(d - o)
  · have hs : stl o d = (o, 0, 9) := by unfold stl; rw [if_neg (by omega), if_neg (by omega), if_neg h5, if_pos h6]
    rw [hs]; clear hs
    go_enter Try.func11, Try.ntmps11
    go_wp2
    go_ret3
    exact ⟨rfl, rfl⟩
  · have hs : stl o d = (-(d - o), 0, 0) := by unfold stl; rw [if_neg (by omega), if_neg (by omega), if_neg h5, if_neg h6]
    rw [hs]; clear hs
    go_enter Try.func11, Try.ntmps11
    go_wp2
    go_ret3
    exact ⟨rfl, rfl⟩

theorem refSettle_to (o d o' p k : Int) (w : World) (ho : -9223372036854775808 ≤ o ∧ o ≤ 9223372036854775807) (hd : -9223372036854775808 ≤ d ∧ d ≤ 9223372036854775807) (hs : stl o d = (o', p, k)) :
    Calls Try.prog 11 #[.int .i64 o, .int .i64 d] w fun e w' => e = .returned (.tuple #[.int .i64 o', .int .i64 p, .int .i64 k]) ∧ w = w' := by
  have h := refSettle o d w ho hd
  rw [hs] at h
  exact h

theorem forgive_no (o c : Int) (w : World) (h : o < 0 ∨ 1125899906842624 < o ∨ c < 0 ∨ o < c) :
    Calls Try.prog 15 #[.agg #[.int .i64 o], .int .i64 c] w fun e w' => e = .returned (.tuple #[.agg #[.int .i64 o], .int .i64 2]) ∧ Below w.heap.size w w' := by
  by_cases h1 : o < 0
  · have h1' : ¬ 0 ≤ o := by omega
    clear h
    go_enter Try.func15, Try.ntmps15
    go_wp2
    refine bodyPost_ret (v := .tuple #[.agg #[.int .i64 (o)], .int .i64 2]) (by simp [results, Try.results15, go_sem]) rfl ⟨rfl, ?_⟩
    repeat (first | exact Below.refl _ _ | refine Below.alloc ?_ (by simp) _ | refine Below.setCell ?_ (by simp) _ | refine Below.drew ?_)
  have h1' : 0 ≤ o := by omega
  by_cases h2 : 1125899906842624 < o
  · have h2' : ¬ o ≤ 1125899906842624 := by omega
    clear h
    go_enter Try.func15, Try.ntmps15
    go_wp2
    refine bodyPost_ret (v := .tuple #[.agg #[.int .i64 (o)], .int .i64 2]) (by simp [results, Try.results15, go_sem]) rfl ⟨rfl, ?_⟩
    repeat (first | exact Below.refl _ _ | refine Below.alloc ?_ (by simp) _ | refine Below.setCell ?_ (by simp) _ | refine Below.drew ?_)
  have h2' : o ≤ 1125899906842624 := by omega
  by_cases h3 : c < 0
  · clear h
    go_enter Try.func15, Try.ntmps15
    go_wp2
    refine bodyPost_ret (v := .tuple #[.agg #[.int .i64 (o)], .int .i64 2]) (by simp [results, Try.results15, go_sem]) rfl ⟨rfl, ?_⟩
    repeat (first | exact Below.refl _ _ | refine Below.alloc ?_ (by simp) _ | refine Below.setCell ?_ (by simp) _ | refine Below.drew ?_)
  · have h4 : o < c := by omega
    clear h
    go_enter Try.func15, Try.ntmps15
    go_wp2
    refine bodyPost_ret (v := .tuple #[.agg #[.int .i64 (o)], .int .i64 2]) (by simp [results, Try.results15, go_sem]) rfl ⟨rfl, ?_⟩
    repeat (first | exact Below.refl _ _ | refine Below.alloc ?_ (by simp) _ | refine Below.setCell ?_ (by simp) _ | refine Below.drew ?_)

theorem forgive_yes (o c : Int) (w : World) (h1 : o ≤ 1125899906842624) (h2 : 0 ≤ c) (h3 : c ≤ o) :
    Calls Try.prog 15 #[.agg #[.int .i64 o], .int .i64 c] w fun e w' => e = .returned (.tuple #[.agg #[.int .i64 (o - c)], .int .i64 0]) ∧ Below w.heap.size w w' := by
  have h0 : 0 ≤ o := by omega
  have h2' : ¬ c < 0 := by omega
  have h3' : ¬ o < c := by omega
  go_enter Try.func15, Try.ntmps15
  go_wp2
  refine bodyPost_ret (v := .tuple #[.agg #[.int .i64 (o - c)], .int .i64 0]) (by simp [results, Try.results15, go_sem]) rfl ⟨rfl, ?_⟩
  repeat (first | exact Below.refl _ _ | refine Below.alloc ?_ (by simp) _ | refine Below.setCell ?_ (by simp) _ | refine Below.drew ?_)

end Go.Proofs.Ytbcdbheipfhoiaa.W
