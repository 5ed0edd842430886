/- The plain law of SocialApart: the same schemes in the other order; one scheme more. -/
import Derived.Test.YtdmkjdlneadkcaaSocXB
namespace Go.Proofs.Ytdmkjdlneadkcaa.S
open Go.RowKit Go.Proofs.Ytdmkjdlneadkcaa.B Go.Proofs.Ytdmkjdlneadkcaa.M Go.Proofs.Ytdmkjdlneadkcaa.W
set_option linter.unusedVariables false

def NN (base : Int) (S : Nat → Sch) (n : Nat) : Nat := if aerr g0 base S n = 0 then no g0 base S 0 n else 0
def FF (base : Int) (S : Nat → Sch) (n : Nat) : ByteArray → Option Sm := if aerr g0 base S n = 0 then fo g0 base S n else fun _ => none
theorem res_has {base : Int} {S : Nat → Sch} {n : Nat} {W : World} {e : Ending} {w' : World} (h : AllRes g0 0 base S n W e w') :
    ∃ ma v1 v2, e = .returned (.tuple #[.map ma, v1, v2, .int .i64 (aerr g0 base S n)]) ∧ Below W.heap.size W w' ∧ Has w' ma (NN base S n) (FF base S n) := by
  unfold AllRes at h
  unfold NN FF
  by_cases c : aerr g0 base S n = 0
  · rw [if_pos c] at h
    rw [if_pos c, if_pos c, c]
    obtain ⟨ma, v1, v2, h1, h2, h3, _⟩ := h
    exact ⟨ma, v1, v2, h1, h2, h3⟩
  · rw [if_neg c] at h
    rw [if_neg c, if_neg c]
    obtain ⟨ma, v1, v2, h1, h2, h3, _⟩ := h
    exact ⟨ma, v1, v2, h1, h2, h3⟩
/-- All is well: no code twice, each step right. -/
def well (base : Int) (S : Nat → Sch) (n : Nat) : Prop := (∀ i j, i < n → j < n → (S i).code = (S j).code → i = j) ∧ ∀ j, j < n → (stAt g0 base (S j)).2 = 0
theorem well_iff {base : Int} {S : Nat → Sch} {n : Nat} : aerr g0 base S n = 0 ↔ well base S n := by
  rw [aerr_zero]
  constructor
  · intro h
    refine ⟨fun i j hi hj e => ?_, fun j hj => (h j hj).2⟩
    rcases Nat.lt_trichotomy i j with c | c | c
    · exact absurd e ((h j hj).1 i c)
    · exact c
    · exact absurd e.symm ((h i hi).1 j c)
  · intro h k hk
    exact ⟨fun i hi e => by have := h.1 i k (by omega) hk e; omega, h.2 k hk⟩
theorem ff_at {base : Int} {S : Nat → Sch} {n : Nat} (h : well base S n) {i : Nat} (hi : i < n) : FF base S n (S i).code = some (stAt g0 base (S i)).1 := by
  have h0 := well_iff.2 h
  unfold FF
  rw [if_pos h0]
  exact fo_at n (fun k hk => ((aerr_zero n).1 h0 k hk).1) i hi
theorem nn_at {base : Int} {S : Nat → Sch} {n : Nat} (h : well base S n) : NN base S n = n := by
  have h0 := well_iff.2 h
  unfold NN
  rw [if_pos h0]
  exact no_all n (fun k hk => ((aerr_zero n).1 h0 k hk).1)
/-- The schemes turned round. -/
def back (S : Nat → Sch) (n : Nat) : Nat → Sch := fun j => S (n - 1 - j)
/-- .. and one more. -/
def plus (S : Nat → Sch) (n : Nat) (x : Sch) : Nat → Sch := fun j => if j < n then S j else x
theorem well_back {base : Int} {S : Nat → Sch} {n : Nat} : well base S n ↔ well base (back S n) n := by
  constructor
  · intro h
    exact ⟨fun i j hi hj e => by have := h.1 (n - 1 - i) (n - 1 - j) (by omega) (by omega) e; omega, fun j hj => h.2 (n - 1 - j) (by omega)⟩
  · intro h
    refine ⟨fun i j hi hj e => ?_, fun j hj => ?_⟩
    · have := h.1 (n - 1 - i) (n - 1 - j) (by omega) (by omega) (by unfold back; rw [show n - 1 - (n - 1 - i) = i by omega, show n - 1 - (n - 1 - j) = j by omega]; exact e)
      omega
    · have := h.2 (n - 1 - j) (by omega)
      unfold back at this
      rwa [show n - 1 - (n - 1 - j) = j by omega] at this
theorem apart_err (base : Int) (S : Nat → Sch) (n : Nat) : decide (aerr g0 base S n = 0) = decide (aerr g0 base (back S n) n = 0) := by
  by_cases c : well base S n
  · rw [decide_eq_true (well_iff.2 c), decide_eq_true (well_iff.2 (well_back.1 c))]
  · rw [decide_eq_false (fun h => c (well_iff.1 h)), decide_eq_false (fun h => c (well_back.2 (well_iff.1 h)))]
theorem apart_len (base : Int) (S : Nat → Sch) (n : Nat) : NN base (back S n) n = NN base S n := by
  by_cases c : well base S n
  · rw [nn_at c, nn_at (well_back.1 c)]
  · unfold NN; rw [if_neg (fun h => c (well_iff.1 h)), if_neg (fun h => c (well_back.2 (well_iff.1 h)))]
theorem apart_at (base : Int) (S : Nat → Sch) (n : Nat) (i : Nat) (hi : i < n) : FF base (back S n) n (S i).code = FF base S n (S i).code := by
  by_cases c : well base S n
  · rw [ff_at c hi]
    have h := ff_at (well_back.1 c) (i := n - 1 - i) (by omega)
    have e : back S n (n - 1 - i) = S i := by unfold back; rw [show n - 1 - (n - 1 - i) = i by omega]
    rwa [e] at h
  · unfold FF; rw [if_neg (fun h => c (well_iff.1 h)), if_neg (fun h => c (well_back.2 (well_iff.1 h)))]
theorem apart_more (base : Int) (S : Nat → Sch) (n : Nat) (x : Sch) (h : aerr g0 base (plus S n x) (n + 1) = 0) (i : Nat) (hi : i < n) : FF base (plus S n x) (n + 1) (S i).code = FF base S n (S i).code := by
  have c := well_iff.1 h
  have e : ∀ j, j < n → plus S n x j = S j := fun j hj => by unfold plus; rw [if_pos hj]
  have c' : well base S n := ⟨fun a b ha hb hh => c.1 a b (by omega) (by omega) (by rw [e a ha, e b hb]; exact hh), fun j hj => by have := c.2 j (by omega); rwa [e j hj] at this⟩
  rw [ff_at c' hi]
  have h2 := ff_at c (i := i) (by omega)
  rwa [e i hi] at h2
end Go.Proofs.Ytdmkjdlneadkcaa.S
