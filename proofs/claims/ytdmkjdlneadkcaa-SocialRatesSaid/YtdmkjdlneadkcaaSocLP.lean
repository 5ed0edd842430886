/- The plain law: a base told in two steps insures as much as told in one. -/
import Derived.Test.YtdmkjdlneadkcaaSocL
namespace Go.Proofs.Ytdmkjdlneadkcaa.S
open Go.Proofs.Ytdmkjdlneadkcaa.B

theorem sstep_rgt {b i w f : Int} {l : List UInt8} {wr fr ce base : Int} {B I W F k : Int} (h : sstep b i w f l wr fr ce base = ((B, I, W, F), k)) : rgt B I W F := by
  by_cases hk : k = 0
  · subst hk; exact (sstep_ok h).2.2.2.1
  · have e := sstep_err (b := b) (i := i) (w := w) (f := f) (l := l) (wr := wr) (fr := fr) (ce := ce) (base := base) (by rw [h]; exact hk)
    rw [h] at e
    simp only [Prod.mk.injEq] at e
    obtain ⟨rfl, rfl, rfl, rfl⟩ := e
    decide

theorem rnd_two (p q r : Int) : rnd p r + rnd q r - rnd (p + q) r ≤ 1 ∧ -1 ≤ rnd p r + rnd q r - rnd (p + q) r := by
  unfold rnd
  rw [Int.add_mul]
  generalize p * r = m
  generalize q * r = n
  omega

theorem parts_law {b i w f : Int} {l : List UInt8} {wr fr ce x y : Int} (hy : 0 ≤ y) {B I W F B2 I2 W2 F2 B3 I3 W3 F3 : Int}
    (h1 : sstep b i w f l wr fr ce x = ((B, I, W, F), 0)) (h2 : sstep B I W F l wr fr ce y = ((B2, I2, W2, F2), 0)) (h3 : sstep b i w f l wr fr ce (x + y) = ((B3, I3, W3, F3), 0)) :
    B2 = B3 ∧ I2 = I3 ∧ (W2 - W3 ≤ 1 ∧ -1 ≤ W2 - W3) ∧ (F2 - F3 ≤ 1 ∧ -1 ≤ F2 - F3) := by
  obtain ⟨⟨rb, ri, _, _⟩, hw, _, ⟨r1b, r1i, _, _⟩, e1, e2, e3, e4⟩ := sstep_ok h1
  obtain ⟨_, _, _, ⟨r2b, r2i, _, _⟩, g1, g2, g3, g4⟩ := sstep_ok h2
  obtain ⟨_, _, _, ⟨r3b, r3i, _, _⟩, k1, k2, k3, k4⟩ := sstep_ok h3
  obtain ⟨_, _, _, _, _, c0, c1⟩ := wrg_zero hw
  unfold fit at rb r1b r2b r3b
  unfold amt at ri r1i r2i r3i
  have hB : B2 = B3 := by omega
  generalize hp : partOf (topOf (b + x) ce) i = p at e2 e3 e4
  generalize hq : partOf (topOf (B + y) ce) I = q at g2 g3 g4
  generalize hs : partOf (topOf (b + (x + y)) ce) i = s at k2 k3 k4
  have key : s = p + q ∧ 0 ≤ p ∧ 0 ≤ q ∧ p + q ≤ 1125899906842624 := by
    have tt : ∀ Z c, topOf Z c = (if 0 < c then min Z c else Z) := by
      intro Z c; unfold topOf; split
      · split <;> omega
      · rfl
    have tp : ∀ t j, partOf t j = max 0 (t - j) := by intro t j; unfold partOf; split <;> omega
    rw [tp, tt] at hp hq hs
    by_cases z : 0 < ce
    · rw [if_pos z] at hp hq hs; omega
    · rw [if_neg z] at hp hq hs; omega
  obtain ⟨rfl, p0, q0, pq⟩ := key
  have cp : capOf p = p := by unfold capOf; split <;> omega
  have cq : capOf q = q := by unfold capOf; split <;> omega
  have cs : capOf (p + q) = p + q := by unfold capOf; split <;> omega
  rw [cp] at e3 e4
  rw [cq] at g3 g4
  rw [cs] at k3 k4
  have t1 := rnd_two p q wr
  have t2 := rnd_two p q fr
  refine ⟨hB, by omega, ⟨by omega, by omega⟩, by omega, by omega⟩
end Go.Proofs.Ytdmkjdlneadkcaa.S
