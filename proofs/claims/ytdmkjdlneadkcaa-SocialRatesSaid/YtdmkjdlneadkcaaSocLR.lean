/- The plain laws of the rates: 0, the whole, another; and what a year's rate says. -/
import Derived.Test.YtdmkjdlneadkcaaSocLC
namespace Go.Proofs.Ytdmkjdlneadkcaa.S
open Go.Proofs.Ytdmkjdlneadkcaa.B

theorem wrg_rate {l : List UInt8} {wr fr ce : Int} (h : wrg l wr fr ce = 0) (r : Int) (h0 : 0 ≤ r) (h1 : r ≤ 1000000) : wrg l r fr ce = 0 := by
  obtain ⟨a1, a2, a3, a4, a5, a6, a7⟩ := wrg_zero h
  unfold wrg
  rw [if_neg (show ¬ ¬ word l from fun hh => hh a1), if_neg]
  unfold amt
  omega
theorem sstep_mk {b i w f : Int} {l : List UInt8} {wr fr ce x W F : Int} (h1 : rgt b i w f) (h2 : wrg l wr fr ce = 0) (h3 : fit x)
    (hW : W = w + rnd (capOf (partOf (topOf (b + x) ce) i)) wr) (hF : F = f + rnd (capOf (partOf (topOf (b + x) ce) i)) fr)
    (h4 : rgt (b + x) (i + partOf (topOf (b + x) ce) i) W F) :
    sstep b i w f l wr fr ce x = ((b + x, i + partOf (topOf (b + x) ce) i, W, F), 0) := by
  subst hW hF
  unfold sstep
  rw [if_neg (show ¬ ¬ rgt b i w f from fun hh => hh h1), if_neg (show ¬ (wrg l wr fr ce ≠ 0) from fun hh => hh h2), if_neg (show ¬ ¬ fit x from fun hh => hh h3)]
  unfold stp
  dsimp only
  rw [if_pos h4]
theorem rnd_zero (p : Int) : rnd p 0 = 0 := by unfold rnd; rw [Int.mul_zero]; rfl
theorem rnd_one (p : Int) : rnd p 1000000 = p := by unfold rnd; omega
theorem rnd_le {p r : Int} (hp : 0 ≤ p) (h1 : r ≤ 1000000) : rnd p r ≤ p := by
  unfold rnd
  have h := Int.mul_le_mul_of_nonneg_left h1 hp
  generalize p * r = m at *
  omega
theorem rnd_near (p r : Int) : 2000000 * rnd p r - 2 * (p * r) ≤ 1000000 ∧ -1000000 ≤ 2000000 * rnd p r - 2 * (p * r) := by
  unfold rnd
  generalize p * r = m
  omega

/-- How near contributions are to what the year's rate says. -/
def near (n : Nat) (W I r : Int) : Prop := 2000000 * W - 2 * (I * r) ≤ 1000000 * (n : Int) ∧ -(1000000 * (n : Int)) ≤ 2000000 * W - 2 * (I * r)

theorem rates_law {b i w f d : Int} {l : List UInt8} {wr fr ce x ot : Int} {B I W F : Int} {n : Nat} (o0 : 0 ≤ ot) (o1 : ot ≤ 1000000) (d0 : 0 ≤ d) (d1 : d ≤ i) (hn : near n w i wr)
    (h : sstep b i w f l wr fr ce x = ((B, I, W, F), 0)) :
    sstep b i 0 f l 0 fr ce x = ((B, I, 0, F), 0) ∧ sstep b i i f l 1000000 fr ce x = ((B, I, I, F), 0) ∧ (∃ D, sstep b i d f l ot fr ce x = ((B, I, D, F), 0) ∧ 0 ≤ D ∧ D ≤ I) ∧ near (n + 1) W I wr ∧ 0 ≤ wr ∧ wr ≤ 1000000 ∧ rgt B I W F := by
  obtain ⟨hr, hw, hx, hr2, e1, e2, e3, e4⟩ := sstep_ok h
  obtain ⟨_, r0, r1, r2, _, c0, c1⟩ := wrg_zero hw
  obtain ⟨k1, k2, k3, k4⟩ := id hr
  obtain ⟨m1, m2, m3, m4⟩ := id hr2
  have p0 : 0 ≤ partOf (topOf (b + x) ce) i := part_le
  subst e1
  have cp : capOf (partOf (topOf (b + x) ce) i) = partOf (topOf (b + x) ce) i := by
    unfold amt at k2 m2
    unfold capOf; split <;> omega
  have hF := e4
  rw [cp] at e3 e4
  have A := sstep_mk (b := b) (i := i) (w := 0) (f := f) (l := l) (wr := 0) (fr := fr) (ce := ce) (x := x) (W := 0) (F := F) ⟨k1, k2, by decide, k4⟩ (wrg_rate hw 0 (by omega) (by omega)) hx (by rw [rnd_zero]; rfl) hF ⟨m1, by rw [← e2]; exact m2, by decide, m4⟩
  have Bq := sstep_mk (b := b) (i := i) (w := i) (f := f) (l := l) (wr := 1000000) (fr := fr) (ce := ce) (x := x) (W := I) (F := F) ⟨k1, k2, k2, k4⟩ (wrg_rate hw 1000000 (by omega) (by omega)) hx (by rw [rnd_one, cp]; exact e2) hF ⟨m1, by rw [← e2]; exact m2, m2, m4⟩
  have l1 := rnd_le p0 o1
  have l2 := rnd_pos p0 o0
  have D := sstep_mk (b := b) (i := i) (w := d) (f := f) (l := l) (wr := ot) (fr := fr) (ce := ce) (x := x) (W := d + rnd (partOf (topOf (b + x) ce) i) ot) (F := F) ⟨k1, k2, by unfold amt at k2 ⊢; omega, k4⟩ (wrg_rate hw ot o0 o1) hx (by rw [cp]) hF ⟨m1, by rw [← e2]; exact m2, by unfold amt at m2 ⊢; omega, m4⟩
  rw [← e2] at A Bq D
  refine ⟨A, Bq, ⟨_, D, by omega, by omega⟩, ?_, r0, r1, hr2⟩
  have hnr := rnd_near (partOf (topOf (b + x) ce) i) wr
  unfold near at hn ⊢
  rw [e2, e3, Int.add_mul]
  generalize partOf (topOf (b + x) ce) i * wr = m at *
  generalize i * wr = q at *
  generalize rnd (partOf (topOf (b + x) ce) i) wr = z at *
  omega

theorem off_law {n : Nat} {W I r : Int} (h : near (n + 1) W I r) (hI : amt I) (r0 : 0 ≤ r) (r1 : r ≤ 1000000) :
    W - I / 1000000 * r - I % 1000000 * r / 1000000 ≤ (n : Int) + 2 ∧ -((n : Int) + 2) ≤ W - I / 1000000 * r - I % 1000000 * r / 1000000 ∧
      (0 ≤ I / 1000000 * r ∧ I / 1000000 * r ≤ 1125899906842624) ∧ (0 ≤ I % 1000000 * r ∧ I % 1000000 * r ≤ 1000000000000) := by
  unfold near at h
  unfold amt at hI
  have e : I * r = 1000000 * (I / 1000000 * r) + I % 1000000 * r := by
    have h1 : I = 1000000 * (I / 1000000) + I % 1000000 := by omega
    have h2 : I * r = (1000000 * (I / 1000000) + I % 1000000) * r := by rw [← h1]
    rw [h2, Int.add_mul, Int.mul_assoc]
  have q0 : 0 ≤ I / 1000000 := by omega
  have t0 : 0 ≤ I % 1000000 := by omega
  have a1 := Int.mul_nonneg q0 r0
  have a2 := Int.mul_nonneg t0 r0
  have a3 := Int.mul_le_mul_of_nonneg_left r1 q0
  have a4 := Int.mul_le_mul_of_nonneg_left r1 t0
  rw [e] at h
  generalize I / 1000000 * r = u at *
  generalize I % 1000000 * r = v at *
  omega
end Go.Proofs.Ytdmkjdlneadkcaa.S
