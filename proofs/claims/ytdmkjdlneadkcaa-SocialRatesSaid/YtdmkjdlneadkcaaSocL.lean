/- The plain laws of social: what is insured, and what is due, step by step. -/
import Derived.Test.YtdmkjdlneadkcaaSocS
namespace Go.Proofs.Ytdmkjdlneadkcaa.S
open Go.Proofs.Ytdmkjdlneadkcaa.B

/-- What a step that was made says. -/
theorem sstep_ok {b i w f : Int} {l : List UInt8} {wr fr ce base : Int} {B I W F : Int} (h : sstep b i w f l wr fr ce base = ((B, I, W, F), 0)) :
    rgt b i w f ∧ wrg l wr fr ce = 0 ∧ fit base ∧ rgt B I W F ∧ B = b + base ∧ I = i + partOf (topOf (b + base) ce) i ∧
      W = w + rnd (capOf (partOf (topOf (b + base) ce) i)) wr ∧ F = f + rnd (capOf (partOf (topOf (b + base) ce) i)) fr := by
  unfold sstep at h
  by_cases c1 : rgt b i w f
  · rw [if_neg (show ¬ ¬ rgt b i w f from fun hh => hh c1)] at h
    by_cases c2 : wrg l wr fr ce = 0
    · rw [if_neg (show ¬ (wrg l wr fr ce ≠ 0) from fun hh => hh c2)] at h
      by_cases c3 : fit base
      · rw [if_neg (show ¬ ¬ fit base from fun hh => hh c3)] at h
        unfold stp at h
        dsimp only at h
        by_cases c4 : rgt (b + base) (i + partOf (topOf (b + base) ce) i) (w + rnd (capOf (partOf (topOf (b + base) ce) i)) wr) (f + rnd (capOf (partOf (topOf (b + base) ce) i)) fr)
        · rw [if_pos c4] at h
          simp only [Prod.mk.injEq, and_true] at h
          obtain ⟨rfl, rfl, rfl, rfl⟩ := h
          exact ⟨c1, c2, c3, c4, rfl, rfl, rfl, rfl⟩
        · rw [if_neg c4] at h
          simp at h
      · rw [if_pos c3] at h
        simp at h
    · rw [if_pos c2] at h
      simp only [Prod.mk.injEq] at h
      exact absurd h.2 c2
  · rw [if_pos c1] at h
    simp at h
theorem sstep_err {b i w f : Int} {l : List UInt8} {wr fr ce base : Int} (h : (sstep b i w f l wr fr ce base).2 ≠ 0) : (sstep b i w f l wr fr ce base).1 = (0, 0, 0, 0) := by
  revert h
  unfold sstep stp
  dsimp only
  repeat' split
  all_goals first | (intro _; rfl) | (intro h; exact absurd rfl h)
theorem part_le {B i ce : Int} : 0 ≤ partOf (topOf B ce) i := by unfold partOf; split <;> omega
theorem sroom_nonneg (b i w f : Int) (l : List UInt8) (wr fr ce : Int) : 0 ≤ sroom b i w f l wr fr ce := by
  unfold sroom; split
  · omega
  · unfold partOf; split <;> omega

/-- P23.3: a step takes no more than there is room for, all of it, if the base is that much, and then there is none left. -/
theorem room_law {b i w f : Int} {l : List UInt8} {wr fr ce base : Int} {B I W F : Int} (h : sstep b i w f l wr fr ce base = ((B, I, W, F), 0)) :
    0 ≤ I - i ∧ I - i ≤ sroom b i w f l wr fr ce ∧ sroom B I W F l wr fr ce = sroom b i w f l wr fr ce - (I - i) ∧ (ce = 0 ∨ B < ce ∨ sroom B I W F l wr fr ce = 0) := by
  obtain ⟨h1, h2, h3, h4, hB, hI, _, _⟩ := sstep_ok h
  obtain ⟨_, _, _, _, _, c0, c1⟩ := wrg_zero h2
  have r1 : sroom b i w f l wr fr ce = partOf (if 0 < ce then ce else 1125899906842624) i := by
    unfold sroom; rw [if_neg (show ¬ (¬ rgt b i w f ∨ wrg l wr fr ce ≠ 0) from fun hh => by rcases hh with hh | hh; exact hh h1; exact hh h2)]
  have r2 : sroom B I W F l wr fr ce = partOf (if 0 < ce then ce else 1125899906842624) I := by
    unfold sroom; rw [if_neg (show ¬ (¬ rgt B I W F ∨ wrg l wr fr ce ≠ 0) from fun hh => by rcases hh with hh | hh; exact hh h4; exact hh h2)]
  obtain ⟨b1, i1, _, _⟩ := h1
  obtain ⟨b2, i2, _, _⟩ := h4
  unfold fit at b1 b2
  unfold amt at i1 i2
  rw [r1, r2]
  unfold partOf topOf at hI
  unfold partOf
  by_cases z : 0 < ce
  · simp only [if_pos z] at hI ⊢
    refine ⟨?_, ?_, ?_, ?_⟩ <;> (repeat' split at hI) <;> (repeat' split) <;> omega
  · simp only [if_neg z] at hI ⊢
    refine ⟨?_, ?_, ?_, ?_⟩ <;> (repeat' split at hI) <;> (repeat' split) <;> omega
end Go.Proofs.Ytdmkjdlneadkcaa.S
