/- The plain law of the year: what is insured is the greatest of 0 and the bases to date, or the ceiling. -/
import Derived.Test.YtdmkjdlneadkcaaSocLP
namespace Go.Proofs.Ytdmkjdlneadkcaa.S
open Go.Proofs.Ytdmkjdlneadkcaa.B

/-- What is insured where T is the greatest sum to date. -/
def want (ce T : Int) : Int := if 0 < ce then (if ce < T then ce else T) else T
theorem rnd_pos {p r : Int} (hp : 0 ≤ p) (hr : 0 ≤ r) : 0 ≤ rnd p r := by
  unfold rnd
  have h := Int.mul_nonneg hp hr
  generalize p * r = m at *
  omega
theorem ceil_law {b i w f : Int} {l : List UInt8} {wr fr ce x T : Int} {B I W F : Int} (hi : i = want ce T)
    (h : sstep b i w f l wr fr ce x = ((B, I, W, F), 0)) : B = b + x ∧ I = want ce (if T < b + x then b + x else T) ∧ w ≤ W ∧ f ≤ F ∧ 0 ≤ ce ∧ ce ≤ 1125899906842624 ∧ fit x ∧ rgt B I W F := by
  obtain ⟨_, hw, hx, hr, e1, e2, e3, e4⟩ := sstep_ok h
  obtain ⟨_, r0, _, r1, _, c0, c1⟩ := wrg_zero hw
  have p0 : 0 ≤ partOf (topOf (b + x) ce) i := part_le
  have q0 : 0 ≤ capOf (partOf (topOf (b + x) ce) i) := by unfold capOf; split <;> omega
  have t1 := rnd_pos q0 r0
  have t2 := rnd_pos q0 r1
  refine ⟨e1, ?_, by omega, by omega, c0, c1, hx, hr⟩
  rw [e2, hi]
  unfold partOf topOf want
  by_cases z : 0 < ce
  · simp only [if_pos z]
    (repeat' split) <;> omega
  · simp only [if_neg z]
    (repeat' split) <;> omega
end Go.Proofs.Ytdmkjdlneadkcaa.S
