/- Facts as the law tells them; what is chosen of them; which is in force. -/
import Derived.Test.YtbnjgbllenndaaaGreatDoorLstA
import Derived.Lib.Hide
namespace Go.Proofs.YtbnjgbllenndaaaGreatDoor.S
open Go.Proofs.YtbnjgbllenndaaaGreatDoor.M
set_option linter.unusedVariables false

/-- A fact: whose, of which kind, from when, until when, the number; no code, no text, no ID. -/
structure Fc where
  per : Int
  kind : Int
  fr : Int
  en : Int
  num : Int
def fcl (x : Fc) : List Value := [.int .u32 0, .int .u32 x.per, .int .i64 x.kind, .int .i64 x.fr, .int .i64 x.en, .string ⟨#[]⟩, .int .i64 x.num, .string ⟨#[]⟩]
def fv (x : Fc) : Value := .agg #[.int .u32 0, .int .u32 x.per, .int .i64 x.kind, .int .i64 x.fr, .int .i64 x.en, .string ⟨#[]⟩, .int .i64 x.num, .string ⟨#[]⟩]
def Fc.sal (x : Fc) : Prop := (1 ≤ x.per ∧ x.per ≤ 256) ∧ x.kind = 2 ∧ (0 ≤ x.fr ∧ x.fr ≤ 29999) ∧ (x.en = 0 ∨ (x.fr < x.en ∧ x.en ≤ 59998)) ∧ 0 ≤ x.num ∧ x.num ≤ 4294967295
/-- The fact that takes back the m'th. -/
def can (m : Nat) : Fc := ⟨0, 18, 0, 0, m⟩
/-- What is told. -/
structure Tt where
  p : Int
  c : Int
  f : Int
  d : Int
  i : Int
def Tt.ok (x : Tt) : Prop := (0 ≤ x.p ∧ x.p ≤ 255) ∧ (0 ≤ x.c ∧ x.c ≤ 4294967295) ∧ (0 ≤ x.f ∧ x.f ≤ 65535) ∧ (0 ≤ x.d ∧ x.d ≤ 65535) ∧ 0 ≤ x.i ∧ x.i ≤ 65535
def tcl (x : Tt) : List Value := [.int .u8 x.p, .int .u32 x.c, .int .u16 x.f, .int .u16 x.d, .int .u16 x.i]
def tend (x : Tt) : Int := if 0 < x.d % 30000 then x.f % 30000 + x.d % 30000 else 0
def tf (x : Tt) : Fc := ⟨x.p + 1, 2, x.f % 30000, tend x, x.c⟩
theorem tf_sal {x : Tt} (h : x.ok) : (tf x).sal := by
  obtain ⟨h1, h2, h3, h4, h5⟩ := h
  refine ⟨⟨by show 1 ≤ x.p + 1; omega, by show x.p + 1 ≤ 256; omega⟩, rfl, ⟨by show 0 ≤ x.f % 30000; omega, by show x.f % 30000 ≤ 29999; omega⟩, ?_, h2.1, h2.2⟩
  show tend x = 0 ∨ (x.f % 30000 < tend x ∧ tend x ≤ 59998)
  unfold tend
  split
  · right; omega
  · left; rfl
/-- Is a fact in force on a day? -/
def cov (x : Fc) (d : Int) : Prop := x.fr ≤ d ∧ (x.en = 0 ∨ d < x.en)
instance (x : Fc) (d : Int) : Decidable (cov x d) := by unfold cov; infer_instance
/-- The place of the last one in force; below 0: there is none. -/
def lastc (G : Nat → Fc) (d : Int) : Nat → Int
  | 0 => -1
  | i + 1 => if cov (G i) d then (i : Int) else lastc G d i
theorem lastc_bd (G : Nat → Fc) (d : Int) : ∀ n, -1 ≤ lastc G d n ∧ lastc G d n < n ∧ (lastc G d n < 0 → lastc G d n = -1)
  | 0 => by unfold lastc; omega
  | n + 1 => by
    have := lastc_bd G d n
    unfold lastc
    split <;> omega
/-- What is chosen of the first facts: those of a person's salary that aren't taken back; with their numbers. -/
def sel (F : Nat → Fc) (bk : Nat → Bool) (p : Int) : Nat → List (Nat × Fc)
  | 0 => []
  | m + 1 => if bk m = false ∧ (F m).per = p ∧ (F m).kind = 2 then sel F bk p m ++ [(m + 1, F m)] else sel F bk p m
theorem sel_succ (F : Nat → Fc) (bk : Nat → Bool) (p : Int) (m : Nat) : sel F bk p (m + 1) = if bk m = false ∧ (F m).per = p ∧ (F m).kind = 2 then sel F bk p m ++ [(m + 1, F m)] else sel F bk p m := rfl
theorem sel_len (F : Nat → Fc) (bk : Nat → Bool) (p : Int) : ∀ m, (sel F bk p m).length ≤ m
  | 0 => by simp [sel]
  | m + 1 => by have := sel_len F bk p m; unfold sel; split <;> simp <;> omega
/-- The numbers rise. -/
theorem sel_le (F : Nat → Fc) (bk : Nat → Bool) (p : Int) : ∀ m, ∀ x ∈ sel F bk p m, x.1 ≤ m
  | 0 => by simp [sel]
  | m + 1 => by
    intro x hx
    have ih := sel_le F bk p m
    unfold sel at hx
    split at hx
    · rcases List.mem_append.1 hx with h | h
      · have := ih x h; omega
      · rw [List.mem_singleton.1 h]; exact Nat.le_refl _
    · have := ih x hx; omega
theorem sel_up (F : Nat → Fc) (bk : Nat → Bool) (p : Int) : ∀ m, (sel F bk p m).Pairwise (fun x y => x.1 < y.1)
  | 0 => List.Pairwise.nil
  | m + 1 => by
    unfold sel
    split
    · refine List.pairwise_append.2 ⟨sel_up F bk p m, List.pairwise_singleton _ _, fun x hx y hy => ?_⟩
      rw [List.mem_singleton.1 hy]
      have := sel_le F bk p m x hx
      show x.1 < m + 1
      omega
    · exact sel_up F bk p m
theorem sel_congr {F G : Nat → Fc} {bk ck : Nat → Bool} (p : Int) : ∀ m, (∀ j, j < m → F j = G j ∧ bk j = ck j) → sel F bk p m = sel G ck p m
  | 0, _ => rfl
  | m + 1, h => by
    unfold sel
    rw [sel_congr p m (fun j hj => h j (by omega)), (h m (by omega)).1, (h m (by omega)).2]
/-- A list with one more in it, at place k, and the fact that takes it back. -/
def ins (L : Nat → Fc) (k n : Nat) (x c : Fc) : Nat → Fc := fun j => if j < k then L j else if j = k then x else if j ≤ n then L (j - 1) else c
theorem sel_taken (L : Nat → Fc) (k n : Nat) (x c : Fc) (p : Int) (hk : k ≤ n) (hc : c.kind ≠ 2) :
    (sel (ins L k n x c) (fun j => j == k) p (n + 2)).map (·.2) = (sel L (fun _ => false) p n).map (·.2) := by
  have h0 : ∀ m, m ≤ k → sel (ins L k n x c) (fun j => j == k) p m = sel L (fun _ => false) p m := fun m hm => sel_congr p m (fun j hj => by
    refine ⟨?_, ?_⟩
    · unfold ins; rw [if_pos (by omega)]
    · rw [beq_eq_false_iff_ne]; omega)
  have h1 : sel (ins L k n x c) (fun j => j == k) p (k + 1) = sel L (fun _ => false) p k := by
    rw [← h0 k (Nat.le_refl _)]
    rw [sel_succ, if_neg (by simp)]
  have h2 : ∀ m, k + m ≤ n → (sel (ins L k n x c) (fun j => j == k) p (k + 1 + m)).map (·.2) = (sel L (fun _ => false) p (k + m)).map (·.2) := fun m => by
    induction m with
    | zero => intro _; simp only [Nat.add_zero, h1]
    | succ m ih =>
      intro hm
      have ih := ih (by omega)
      have e1 : ins L k n x c (k + 1 + m) = L (k + m) := by
        unfold ins
        rw [if_neg (by omega), if_neg (by omega), if_pos (by omega), show k + 1 + m - 1 = k + m by omega]
      have e2 : ((k + 1 + m) == k) = false := by rw [beq_eq_false_iff_ne]; omega
      rw [show k + 1 + (m + 1) = (k + 1 + m) + 1 by omega, show k + (m + 1) = (k + m) + 1 by omega, sel_succ, sel_succ, e1, e2]
      by_cases hc : (L (k + m)).per = p ∧ (L (k + m)).kind = 2
      · rw [if_pos ⟨rfl, hc⟩, if_pos ⟨rfl, hc⟩, List.map_append, List.map_append, ih]; rfl
      · rw [if_neg (fun h => hc h.2), if_neg (fun h => hc h.2)]; exact ih
  have h3 := h2 (n - k) (by omega)
  rw [show k + 1 + (n - k) = n + 1 by omega, show k + (n - k) = n by omega] at h3
  rw [← h3]
  have e1 : ins L k n x c (n + 1) = c := by
    unfold ins
    rw [if_neg (by omega), if_neg (by omega), if_neg (by omega)]
  rw [sel_succ, if_neg (by rw [e1]; intro h; exact hc h.2.2)]
/-- Which places the facts take back. -/
def bkf (F : Nat → Fc) (n : Nat) : Nat → Nat → Bool
  | 0 => fun _ => false
  | q + 1 => fun j => if (F q).kind = 18 ∧ 1 ≤ (F q).num ∧ (F q).num ≤ n ∧ (F q).num = (j : Int) + 1 then true else bkf F n q j
theorem bkf_none {F : Nat → Fc} {n : Nat} : ∀ q, (∀ j, j < q → (F j).kind ≠ 18) → bkf F n q = fun _ => false
  | 0, _ => rfl
  | q + 1, h => by
    funext j
    unfold bkf
    rw [if_neg (fun e => h q (by omega) e.1), bkf_none q (fun j hj => h j (by omega))]
theorem bkf_one {F : Nat → Fc} {n k q : Nat} (h : ∀ j, j < q → (F j).kind ≠ 18) (hk : F q = can (k + 1)) (hkn : k < n) : bkf F n (q + 1) = fun j => j == k := by
  funext j
  unfold bkf
  rw [bkf_none q h, hk]
  show (if (18 : Int) = 18 ∧ (1 : Int) ≤ ((k + 1 : Nat) : Int) ∧ ((k + 1 : Nat) : Int) ≤ n ∧ ((k + 1 : Nat) : Int) = (j : Int) + 1 then true else false) = _
  by_cases e : j = k
  · rw [if_pos (by omega), e]; simp
  · rw [if_neg (by omega)]; exact (beq_eq_false_iff_ne.2 e).symm
end Go.Proofs.YtbnjgbllenndaaaGreatDoor.S
