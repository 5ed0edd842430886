/- What social.All computes, in plain terms; its laws. -/
import Derived.Test.YtdmkjdlneadkcaaSocS
import Derived.Test.YtdmkjdlneadkcaaMap
namespace Go.Proofs.Ytdmkjdlneadkcaa.S
open Go.Proofs.Ytdmkjdlneadkcaa.B Go.Proofs.Ytdmkjdlneadkcaa.M
set_option linter.unusedVariables false

abbrev Sm := Int × Int × Int × Int
def sval (x : Sm) : Value := .agg #[.int .i64 x.1, .int .i64 x.2.1, .int .i64 x.2.2.1, .int .i64 x.2.2.2]
def sdat (x : Sm) : DataW Unit := .agg [.lit (.int .i64 x.1), .lit (.int .i64 x.2.1), .lit (.int .i64 x.2.2.1), .lit (.int .i64 x.2.2.2)]
def i64Of : Value → Option Int
  | .int .i64 a => some a
  | _ => none
theorem i64Of_inv {v : Value} {a : Int} (h : i64Of v = some a) : v = .int .i64 a := by
  unfold i64Of at h
  split at h
  · injection h with h; rw [h]
  · cases h
def sL : List Value → Option (DataW Unit × List MemPlace)
  | [a, b, c, d] => (i64Of a).bind fun a => (i64Of b).bind fun b => (i64Of c).bind fun c => (i64Of d).bind fun d => some (sdat (a, b, c, d), [])
  | _ => none
def sR : Value → Option (DataW Unit × List MemPlace)
  | .agg cs => sL cs.toList
  | _ => none
theorem reads_sum : Reads sval sdat sR where
  enc := fun x => rfl
  inv := fun v z h => by
    cases v with
    | agg cs =>
      simp only [sR] at h
      rcases cs with ⟨l⟩
      simp only at h
      unfold sL at h
      split at h
      · rename_i a b c d
        simp only [Option.bind_eq_some_iff] at h
        obtain ⟨a', ha, b', hb, c', hc, d', hd, hz⟩ := h
        obtain rfl := i64Of_inv ha
        obtain rfl := i64Of_inv hb
        obtain rfl := i64Of_inv hc
        obtain rfl := i64Of_inv hd
        injection hz with hz
        exact ⟨(a', b', c', d'), rfl, hz.symm⟩
      · cases h
    | _ => simp [sR] at h
  inj := fun x y h => by
    unfold sdat at h
    simp at h
    obtain ⟨h1, h2, h3, h4⟩ := h
    exact Prod.ext h1 (Prod.ext h2 (Prod.ext h3 h4))

/-- A scheme. -/
structure Sch where
  code : ByteArray
  wr : Int
  fr : Int
  ce : Int

def was (g : ByteArray → Option Sm) (x : Sch) : Sm := (g x.code).getD (0, 0, 0, 0)
def stAt (g : ByteArray → Option Sm) (base : Int) (x : Sch) : Sm × Int := sstep (was g x).1 (was g x).2.1 (was g x).2.2.1 (was g x).2.2.2 x.code.data.toList x.wr x.fr x.ce base
def fresh (S : Nat → Sch) (k : Nat) : Prop := ∀ i, i < k → (S i).code ≠ (S k).code
instance (S : Nat → Sch) (k : Nat) : Decidable (fresh S k) := by unfold fresh; infer_instance
/-- The sums behind k steps. -/
def fo (g : ByteArray → Option Sm) (base : Int) (S : Nat → Sch) : Nat → ByteArray → Option Sm
  | 0 => g
  | k + 1 => upd (fo g base S k) (S k).code (stAt g base (S k)).1
/-- The codes met. -/
def fm (S : Nat → Sch) : Nat → ByteArray → Option Bool
  | 0 => fun _ => none
  | k + 1 => upd (fm S k) (S k).code true
def no (g : ByteArray → Option Sm) (base : Int) (S : Nat → Sch) (n0 : Nat) : Nat → Nat
  | 0 => n0
  | k + 1 => more (fo g base S k) (S k).code (no g base S n0 k)
def nm (S : Nat → Sch) : Nat → Nat
  | 0 => 0
  | k + 1 => more (fm S k) (S k).code (nm S k)
/-- What is wrong with the first k schemes. -/
def aerr (g : ByteArray → Option Sm) (base : Int) (S : Nat → Sch) : Nat → Int
  | 0 => 0
  | k + 1 => if aerr g base S k ≠ 0 then aerr g base S k else if ¬ fresh S k then 7 else (stAt g base (S k)).2
/-- An item more, unless it is of nothing. -/
def putL (L : List (ByteArray × Int)) (s : ByteArray) (c : Int) : List (ByteArray × Int) := if c = 0 then L else L ++ [(s, c)]
def lw (g : ByteArray → Option Sm) (base : Int) (S : Nat → Sch) : Nat → List (ByteArray × Int)
  | 0 => []
  | k + 1 => putL (lw g base S k) (S k).code ((stAt g base (S k)).1.2.2.1 - (was g (S k)).2.2.1)
def lf (g : ByteArray → Option Sm) (base : Int) (S : Nat → Sch) : Nat → List (ByteArray × Int)
  | 0 => []
  | k + 1 => putL (lf g base S k) (S k).code ((stAt g base (S k)).1.2.2.2 - (was g (S k)).2.2.2)
theorem putL_len (L : List (ByteArray × Int)) (s : ByteArray) (c : Int) : (putL L s c).length ≤ L.length + 1 := by unfold putL; split <;> simp
theorem lw_len (g : ByteArray → Option Sm) (base : Int) (S : Nat → Sch) : ∀ k, (lw g base S k).length ≤ k
  | 0 => by simp [lw]
  | k + 1 => by have h1 := lw_len g base S k; have h2 := putL_len (lw g base S k) (S k).code ((stAt g base (S k)).1.2.2.1 - (was g (S k)).2.2.1); unfold lw; omega
theorem lf_len (g : ByteArray → Option Sm) (base : Int) (S : Nat → Sch) : ∀ k, (lf g base S k).length ≤ k
  | 0 => by simp [lf]
  | k + 1 => by have h1 := lf_len g base S k; have h2 := putL_len (lf g base S k) (S k).code ((stAt g base (S k)).1.2.2.2 - (was g (S k)).2.2.2); unfold lf; omega
theorem no_le (g : ByteArray → Option Sm) (base : Int) (S : Nat → Sch) (n0 : Nat) : ∀ k, no g base S n0 k ≤ n0 + k
  | 0 => Nat.le_refl _
  | k + 1 => by have := no_le g base S n0 k; unfold no more; split <;> omega
theorem nm_le (S : Nat → Sch) : ∀ k, nm S k ≤ k
  | 0 => Nat.le_refl _
  | k + 1 => by have := nm_le S k; unfold nm more; split <;> omega

variable {g : ByteArray → Option Sm} {base : Int} {S : Nat → Sch}

theorem fm_is (S : Nat → Sch) (t : ByteArray) : ∀ k, (fm S k t).getD false = decide (∃ i, i < k ∧ (S i).code = t)
  | 0 => by simp [fm]
  | k + 1 => by
    unfold fm upd
    by_cases h : t = (S k).code
    · rw [if_pos h]; exact (decide_eq_true ⟨k, by omega, h.symm⟩).symm
    · rw [if_neg h, fm_is S t k]
      congr 1
      apply propext
      constructor
      · rintro ⟨i, hi, e⟩; exact ⟨i, by omega, e⟩
      · rintro ⟨i, hi, e⟩
        rcases Nat.lt_or_ge i k with h1 | h1
        · exact ⟨i, h1, e⟩
        · obtain rfl : i = k := by omega
          exact absurd e.symm h
theorem fm_fresh {S : Nat → Sch} {k : Nat} (h : fresh S k) : (fm S k (S k).code).getD false = false := by
  rw [fm_is]; exact decide_eq_false (fun ⟨i, hi, e⟩ => h i hi e)
theorem fm_met {S : Nat → Sch} {k : Nat} (h : ¬ fresh S k) : (fm S k (S k).code).getD false = true := by
  rw [fm_is]
  refine decide_eq_true ?_
  by_cases c : ∃ i, i < k ∧ (S i).code = (S k).code
  · exact c
  · exact absurd (fun i hi e => c ⟨i, hi, e⟩) h
theorem aerr_stays {k : Nat} (h : aerr g base S k ≠ 0) : ∀ m, aerr g base S (k + m) = aerr g base S k
  | 0 => rfl
  | m + 1 => by
    have e := aerr_stays h m
    show (if aerr g base S (k + m) ≠ 0 then aerr g base S (k + m) else _) = _
    rw [if_pos (by rw [e]; exact h), e]
theorem aerr_late {k n : Nat} (h : aerr g base S k ≠ 0) (hk : k ≤ n) : aerr g base S n = aerr g base S k := by
  have := aerr_stays h (n - k)
  rwa [show k + (n - k) = n by omega] at this
theorem aerr_twice {k n : Nat} (h0 : aerr g base S k = 0) (h : ¬ fresh S k) (hk : k < n) : aerr g base S n = 7 := by
  have e : aerr g base S (k + 1) = 7 := by
    show (if aerr g base S k ≠ 0 then _ else _) = _
    rw [if_neg (by simpa using h0), if_pos h]
  rw [aerr_late (by rw [e]; omega) hk, e]
theorem aerr_step {k : Nat} (h0 : aerr g base S k = 0) (h : fresh S k) : aerr g base S (k + 1) = (stAt g base (S k)).2 := by
  show (if aerr g base S k ≠ 0 then _ else _) = _
  rw [if_neg (by simpa using h0), if_neg (by simpa using h)]
theorem aerr_bad {k n : Nat} (h0 : aerr g base S k = 0) (h : fresh S k) (he : (stAt g base (S k)).2 ≠ 0) (hk : k < n) : aerr g base S n = (stAt g base (S k)).2 := by
  have e := aerr_step h0 h
  rw [aerr_late (by rw [e]; exact he) hk, e]
theorem aerr_zero : ∀ n, aerr g base S n = 0 ↔ ∀ k, k < n → fresh S k ∧ (stAt g base (S k)).2 = 0
  | 0 => ⟨fun _ k h => absurd h (by omega), fun _ => rfl⟩
  | n + 1 => by
    constructor
    · intro h
      by_cases h0 : aerr g base S n = 0
      · by_cases hf : fresh S n
        · rw [aerr_step h0 hf] at h
          intro k hk
          rcases Nat.lt_or_ge k n with h1 | h1
          · exact (aerr_zero n).1 h0 k h1
          · obtain rfl : k = n := by omega
            exact ⟨hf, h⟩
        · rw [aerr_twice h0 hf (Nat.lt_succ_self n)] at h
          omega
      · rw [aerr_late h0 (Nat.le_succ n)] at h
        exact absurd h h0
    · intro h
      have h0 := (aerr_zero n).2 (fun k hk => h k (by omega))
      rw [aerr_step h0 (h n (by omega)).1]
      exact (h n (by omega)).2
/-- What is in force at the code of a scheme that came. -/
theorem fo_at : ∀ n, (∀ k, k < n → fresh S k) → ∀ i, i < n → fo g base S n (S i).code = some (stAt g base (S i)).1
  | 0, _, i, hi => absurd hi (by omega)
  | n + 1, h, i, hi => by
    unfold fo upd
    by_cases e : i = n
    · subst e; rw [if_pos rfl]
    · have hlt : i < n := by omega
      rw [if_neg (fun hh => h n (by omega) i hlt hh)]
      exact fo_at n (fun k hk => h k (by omega)) i hlt
/-- What isn't a scheme's stays. -/
theorem fo_else (t : ByteArray) : ∀ n, (∀ i, i < n → (S i).code ≠ t) → fo g base S n t = g t
  | 0, _ => rfl
  | n + 1, h => by
    unfold fo upd
    rw [if_neg (fun hh => h n (by omega) hh.symm)]
    exact fo_else t n (fun i hi => h i (by omega))
theorem no_all : ∀ n, (∀ k, k < n → fresh S k) → no (fun _ => none) base S 0 n = n
  | 0, _ => rfl
  | n + 1, h => by
    unfold no more
    rw [fo_else _ n (fun i hi => h n (by omega) i hi), if_neg (by simp), no_all n (fun k hk => h k (by omega))]
theorem sstep_ok {b i w f : Int} {l : List UInt8} {wr fr ce base : Int} (h : (sstep b i w f l wr fr ce base).2 = 0) :
    rgt b i w f ∧ wrg l wr fr ce = 0 ∧ rgt (sstep b i w f l wr fr ce base).1.1 (sstep b i w f l wr fr ce base).1.2.1 (sstep b i w f l wr fr ce base).1.2.2.1 (sstep b i w f l wr fr ce base).1.2.2.2 := by
  by_cases c1 : rgt b i w f
  · by_cases c2 : wrg l wr fr ce = 0
    · by_cases c3 : fit base
      · have e : sstep b i w f l wr fr ce base = stp b i w f wr fr ce base := by
          unfold sstep; rw [if_neg (by simpa using c1), if_neg (by simpa using c2), if_neg (by simpa using c3)]
        rw [e] at h ⊢
        refine ⟨c1, c2, ?_⟩
        unfold stp at h ⊢
        simp only at h ⊢
        split at h
        · rename_i hc; rw [if_pos hc]; exact hc
        · simp at h
      · unfold sstep at h; rw [if_neg (by simpa using c1), if_neg (by simpa using c2), if_pos c3] at h; simp at h
    · unfold sstep at h; rw [if_neg (by simpa using c1), if_pos c2] at h; exact absurd h c2
  · unfold sstep at h; rw [if_pos c1] at h; simp at h
end Go.Proofs.Ytdmkjdlneadkcaa.S
