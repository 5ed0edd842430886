/- What social computes, in plain arithmetic: names, amounts, a step. -/
import Derived.Test.YtdmkjdlneadkcaaRate
namespace Go.Proofs.Ytdmkjdlneadkcaa.S
open Go.Proofs.Ytdmkjdlneadkcaa.B

/-- A name's byte. -/
def okc (b : Nat) : Prop := (97 ≤ b ∧ b ≤ 122) ∨ (48 ≤ b ∧ b ≤ 57) ∨ b = 46 ∨ b = 95 ∨ b = 45
instance (b : Nat) : Decidable (okc b) := by unfold okc; infer_instance
/-- Is a text a name? -/
def word (l : List UInt8) : Prop := (∀ b ∈ l, okc b.toNat) ∧ l ≠ [] ∧ l ≠ [45] ∧ l.length ≤ 32
instance (l : List UInt8) : Decidable (word l) := by unfold word; infer_instance

def fit (c : Int) : Prop := -1125899906842624 ≤ c ∧ c ≤ 1125899906842624
def amt (c : Int) : Prop := 0 ≤ c ∧ c ≤ 1125899906842624
instance (c : Int) : Decidable (fit c) := by unfold fit; infer_instance
instance (c : Int) : Decidable (amt c) := by unfold amt; infer_instance
def rgt (b i w f : Int) : Prop := fit b ∧ amt i ∧ amt w ∧ amt f
instance (b i w f : Int) : Decidable (rgt b i w f) := by unfold rgt; infer_instance
/-- What is wrong with a scheme. -/
def wrg (l : List UInt8) (wr fr ce : Int) : Int := if ¬ word l then 12 else if wr < 0 ∨ 1000000 < wr ∨ fr < 0 ∨ 1000000 < fr ∨ ¬ amt ce then 2 else 0
theorem wrg_zero {l : List UInt8} {wr fr ce : Int} (h : wrg l wr fr ce = 0) : word l ∧ 0 ≤ wr ∧ wr ≤ 1000000 ∧ 0 ≤ fr ∧ fr ≤ 1000000 ∧ 0 ≤ ce ∧ ce ≤ 1125899906842624 := by
  unfold wrg at h
  by_cases c : word l
  · rw [if_neg (by simpa using c)] at h
    by_cases e : wr < 0 ∨ 1000000 < wr ∨ fr < 0 ∨ 1000000 < fr ∨ ¬ amt ce
    · rw [if_pos e] at h; omega
    · have hc : amt ce := by
        by_cases z : amt ce
        · exact z
        · exact absurd (.inr (.inr (.inr (.inr z)))) e
      unfold amt at hc
      exact ⟨c, by omega, by omega, by omega, by omega, hc.1, hc.2⟩
  · rw [if_pos c] at h; omega

/-- The sum up to which is insured. -/
def topOf (B ce : Int) : Int := if 0 < ce then (if ce < B then ce else B) else B
def partOf (top i : Int) : Int := if top - i < 0 then 0 else top - i
def capOf (p : Int) : Int := if 1125899906842624 < p then 1125899906842624 else p
/-- A step behind sums that are right, by a scheme that is right. -/
def stp (b i w f wr fr ce base : Int) : (Int × Int × Int × Int) × Int :=
  let B := b + base
  let p := partOf (topOf B ce) i
  let I := i + p
  let W := w + rnd (capOf p) wr
  let F := f + rnd (capOf p) fr
  if rgt B I W F then ((B, I, W, F), 0) else ((0, 0, 0, 0), 9)
/-- A step. -/
def sstep (b i w f : Int) (l : List UInt8) (wr fr ce base : Int) : (Int × Int × Int × Int) × Int :=
  if ¬ rgt b i w f then ((0, 0, 0, 0), 2) else if wrg l wr fr ce ≠ 0 then ((0, 0, 0, 0), wrg l wr fr ce) else if ¬ fit base then ((0, 0, 0, 0), 2) else stp b i w f wr fr ce base
/-- How much more may be insured. -/
def sroom (b i w f : Int) (l : List UInt8) (wr fr ce : Int) : Int :=
  if ¬ rgt b i w f ∨ wrg l wr fr ce ≠ 0 then 0 else partOf (if 0 < ce then ce else 1125899906842624) i
end Go.Proofs.Ytdmkjdlneadkcaa.S
