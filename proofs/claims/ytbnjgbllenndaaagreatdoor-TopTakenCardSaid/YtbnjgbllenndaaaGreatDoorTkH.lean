/- A store's view; what is taken back; whose, of which kind. -/
import Derived.Test.YtbnjgbllenndaaaGreatDoorTkE
import Derived.Laws.OwnMore
namespace Go.Proofs.YtbnjgbllenndaaaGreatDoor.W
open Go.RowKit Go.Proofs.YtbnjgbllenndaaaGreatDoor.M Go.Proofs.YtbnjgbllenndaaaGreatDoor.S
set_option linter.unusedVariables false

theorem grown_set' (w : World) (a : Addr) (u : Value) : w.grownBy (w.setCell a u) (some a.block) :=
  ⟨rfl, rfl, rfl, by simp [World.setCell], fun k hk hne => by
    unfold World.setCell
    simp only
    rw [Array.getElem?_modify, if_neg (fun e => hne (by rw [e]))]⟩
theorem at_is (a : Option Addr) (n cap : Nat) (hn : n ≤ 100) (hcap : n ≤ cap ∧ cap ≤ maxLen) (hnil : a = none → n = 0) (W : World) : Calls Tryz.prog 8 #[st a n cap, .int .i64 n] W fun e w' => (∃ a', e = .returned (.agg #[.slice a' n n]) ∧ (0 < n → a' = a)) ∧ Below W.heap.size W w' := by
  obtain ⟨h1, h2⟩ := hcap
  unfold st
  rcases Nat.eq_zero_or_pos n with h0 | h0
  · subst h0
    cases a with
    | none =>
      go_enter Tryz.func8, Tryz.ntmps8
      go_wp2_with fail
      exact bodyPost_ret (v := .agg #[.slice none 0 0]) (by simp [results, Tryz.results8, go_sem]) rfl ⟨⟨_, rfl⟩, balloc (balloc (Below.refl _ _) _) _⟩
    | some x =>
      obtain ⟨b, o, sp⟩ := x
      go_enter Tryz.func8, Tryz.ntmps8
      go_wp2_with fail
      exact bodyPost_ret (v := .agg #[.slice (some ⟨b, o, sp⟩) 0 0]) (by simp [results, Tryz.results8, go_sem]) rfl ⟨⟨_, rfl⟩, balloc (balloc (Below.refl _ _) _) _⟩
  · have c1 : (0 : Int) < (n : Int) := by omega
    obtain ⟨x, rfl⟩ : ∃ x, a = some x := by
      cases a with
      | none => exact absurd (hnil rfl) (by omega)
      | some x => exact ⟨x, rfl⟩
    obtain ⟨b, o, sp⟩ := x
    go_enter Tryz.func8, Tryz.ntmps8
    go_wp2_with fail
    exact bodyPost_ret (v := .agg #[.slice (some ⟨b, o, sp⟩) n n]) (by simp [results, Tryz.results8, go_sem]) rfl ⟨⟨_, rfl, fun h => rfl⟩, balloc (balloc (Below.refl _ _) _) _⟩
theorem facts1_is (x : Fc) (p q : Nat) (per : Int) (W : World) (hp : W.cell? ⟨p, 0, none⟩ = some (.int .u32 per)) (hq : W.cell? ⟨q, 0, none⟩ = some (.int .i64 2)) (hpl : p < W.heap.size) (hql : q < W.heap.size) (v : Bool) (hv : Hid (decide (x.per = per ∧ x.kind = 2) = v)) :
    Calls Tryz.prog 18 #[fv x, .pointer (some ⟨p, 0, none⟩), .pointer (some ⟨q, 0, none⟩)] W fun e w' => e = .returned (.bool v) ∧ Below W.heap.size W w' := by
  have hv' := hv.out
  clear hv
  obtain ⟨xp, kind, fr, en, num⟩ := x
  simp only at hv'
  have hB0 := balloc (Below.refl W.heap.size W) (.cells #[.int .u32 0, .int .u32 xp, .int .i64 kind, .int .i64 fr, .int .i64 en, .string ⟨#[]⟩, .int .i64 num, .string ⟨#[]⟩] 38)
  have e0 := bc hB0 hpl hp
  have e1 := bc hB0 hql hq
  have HB := Lib.hid hB0
  clear hB0
  unfold fv
  by_cases h1 : xp = per
  · have c1 : (xp == per) = true := by rw [beq_iff_eq]; exact h1
    by_cases h2 : kind = 2
    · have c2 : (kind == 2) = true := by rw [beq_iff_eq]; exact h2
      obtain rfl : v = true := by rw [← hv']; exact decide_eq_true ⟨h1, h2⟩
      clear h1 h2 hv'
      go_enter Tryz.func18, Tryz.ntmps18
      go_wp2_with fail
      go_ret
      exact ⟨rfl, HB.out⟩
    · have c2 : (kind == 2) = false := by rw [beq_eq_false_iff_ne]; exact h2
      obtain rfl : v = false := by rw [← hv']; exact decide_eq_false (fun h => h2 h.2)
      clear h1 h2 hv'
      go_enter Tryz.func18, Tryz.ntmps18
      go_wp2_with fail
      go_ret
      exact ⟨rfl, HB.out⟩
  · have c1 : (xp == per) = false := by rw [beq_eq_false_iff_ne]; exact h1
    obtain rfl : v = false := by rw [← hv']; exact decide_eq_false (fun h => h1 h.1)
    clear h1 hv'
    go_enter Tryz.func18, Tryz.ntmps18
    go_wp2_with fail
    go_ret
    exact ⟨rfl, HB.out⟩
end Go.Proofs.YtbnjgbllenndaaaGreatDoor.W
