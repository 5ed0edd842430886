/- The plain laws of the week's texts: a text read byte by byte, and by the document's definition; a week's text, read. -/
import Derived.Test.YtjpjeimpmfoldaaDoorWkL
import Derived.Test.YtjpjeimpmfoldaaDoorStr
namespace Go.Proofs.YtjpjeimpmfoldaaDoor.WP
open Go.Proofs.YtjpjeimpmfoldaaDoor.WL Go.Proofs.YtjpjeimpmfoldaaDoor.M

def upd (k : Nat → Int) (i : Nat) (v : Int) : Nat → Int := fun j => if j = i then v else k j
theorem upd_same (k : Nat → Int) (i : Nat) (v : Int) : upd k i v i = v := by simp [upd]
theorem upd_other (k : Nat → Int) (i j : Nat) (v : Int) (h : j ≠ i) : upd k i v j = k j := by simp [upd, h]
def zero : Nat → Int := fun _ => 0
/-- The lesser of two. -/
def mn (a b : Int) : Int := if b < a then b else a

/-- What the program reads: at which number it is, how many digits it has, its first one, the numbers. -/
def run : List UInt8 → Nat → Nat → UInt8 → (Nat → Int) → Option (Nat → Int)
  | [], p, dg, _, k => if p = 6 ∧ 0 < dg then some k else none
  | b :: r, p, dg, f, k =>
    if b.toNat = 32 ∧ 0 < dg ∧ p < 6 then run r (p + 1) 0 f k
    else if b.toNat < 48 ∨ 57 < b.toNat ∨ (0 < dg ∧ f.toNat = 48) then none
    else run r p (dg + 1) (if dg = 0 then b else f) (upd k p (mn (10 * k p + ((b.toNat : Int) - 48)) 1441))

/-- What comes of it. -/
def fin : Option (Nat → Int) → (Nat → Int) × Int
  | none => (zero, 3)
  | some k => if ok k then (k, 0) else (zero, 2)

/-- What the document's definition reads. -/
def rrun : List UInt8 → Nat → Nat → UInt8 → Bool → (Nat → Int) → (Nat → Int) × Int
  | [], p, dg, f, big, k => if dg = 0 ∨ (f.toNat = 48 ∧ 1 < dg) ∨ 6 < p then (zero, 3) else if p ≠ 6 then (zero, 3) else if big = true ∨ 1440 < k p then (zero, 2) else (k, 0)
  | b :: r, p, dg, f, big, k =>
    if b.toNat ≠ 32 then
      (if b.toNat < 48 ∨ 57 < b.toNat ∨ 6 < p then (zero, 3) else rrun r p (dg + 1) (if dg = 0 then b else f) big (upd k p (mn (10 * k p + ((b.toNat : Int) - 48)) 100000)))
    else if dg = 0 ∨ (f.toNat = 48 ∧ 1 < dg) ∨ 6 < p then (zero, 3) else rrun r (p + 1) 0 f (big || decide (1440 < k p)) k

theorem run_nil (p dg : Nat) (f : UInt8) (k : Nat → Int) : run [] p dg f k = if p = 6 ∧ 0 < dg then some k else none := rfl
theorem run_blank {b : UInt8} {r : List UInt8} {p dg : Nat} {f : UInt8} {k : Nat → Int} (h : b.toNat = 32 ∧ 0 < dg ∧ p < 6) : run (b :: r) p dg f k = run r (p + 1) 0 f k := by
  rw [run, if_pos h]
theorem run_stop {b : UInt8} {r : List UInt8} {p dg : Nat} {f : UInt8} {k : Nat → Int} (h : ¬ (b.toNat = 32 ∧ 0 < dg ∧ p < 6)) (h2 : b.toNat < 48 ∨ 57 < b.toNat ∨ (0 < dg ∧ f.toNat = 48)) : run (b :: r) p dg f k = none := by
  rw [run, if_neg h, if_pos h2]
theorem run_digit {b : UInt8} {r : List UInt8} {p dg : Nat} {f : UInt8} {k : Nat → Int} (h2 : ¬ (b.toNat < 48 ∨ 57 < b.toNat ∨ (0 < dg ∧ f.toNat = 48))) :
    run (b :: r) p dg f k = run r p (dg + 1) (if dg = 0 then b else f) (upd k p (mn (10 * k p + ((b.toNat : Int) - 48)) 1441)) := by
  have h : ¬ (b.toNat = 32 ∧ 0 < dg ∧ p < 6) := by omega
  rw [run, if_neg h, if_neg h2]

theorem rrun_nil (p dg : Nat) (f : UInt8) (big : Bool) (k : Nat → Int) : rrun [] p dg f big k = if dg = 0 ∨ (f.toNat = 48 ∧ 1 < dg) ∨ 6 < p then (zero, 3) else if p ≠ 6 then (zero, 3) else if big = true ∨ 1440 < k p then (zero, 2) else (k, 0) := rfl
theorem rrun_bad {b : UInt8} {r : List UInt8} {p dg : Nat} {f : UInt8} {big : Bool} {k : Nat → Int} (h : b.toNat ≠ 32) (h2 : b.toNat < 48 ∨ 57 < b.toNat ∨ 6 < p) : rrun (b :: r) p dg f big k = (zero, 3) := by
  rw [rrun, if_pos h, if_pos h2]
theorem rrun_digit {b : UInt8} {r : List UInt8} {p dg : Nat} {f : UInt8} {big : Bool} {k : Nat → Int} (h2 : ¬ (b.toNat < 48 ∨ 57 < b.toNat ∨ 6 < p)) :
    rrun (b :: r) p dg f big k = rrun r p (dg + 1) (if dg = 0 then b else f) big (upd k p (mn (10 * k p + ((b.toNat : Int) - 48)) 100000)) := by
  have h : b.toNat ≠ 32 := by omega
  rw [rrun, if_pos h, if_neg h2]
theorem rrun_end {b : UInt8} {r : List UInt8} {p dg : Nat} {f : UInt8} {big : Bool} {k : Nat → Int} (h : b.toNat = 32) (h2 : dg = 0 ∨ (f.toNat = 48 ∧ 1 < dg) ∨ 6 < p) : rrun (b :: r) p dg f big k = (zero, 3) := by
  have h' : ¬ b.toNat ≠ 32 := by omega
  rw [rrun, if_neg h', if_pos h2]
theorem rrun_blank {b : UInt8} {r : List UInt8} {p dg : Nat} {f : UInt8} {big : Bool} {k : Nat → Int} (h : b.toNat = 32) (h2 : ¬ (dg = 0 ∨ (f.toNat = 48 ∧ 1 < dg) ∨ 6 < p)) :
    rrun (b :: r) p dg f big k = rrun r (p + 1) 0 f (big || decide (1440 < k p)) k := by
  have h' : ¬ b.toNat ≠ 32 := by omega
  rw [rrun, if_neg h', if_neg h2]

theorem doom_p (l : List UInt8) : ∀ (p dg : Nat) (f : UInt8) (big : Bool) (k : Nat → Int), 6 < p → rrun l p dg f big k = (zero, 3) := by
  cases l with
  | nil => intro p dg f big k h; rw [rrun_nil, if_pos (.inr (.inr h))]
  | cons b r =>
    intro p dg f big k h
    by_cases c : b.toNat ≠ 32
    · exact rrun_bad c (.inr (.inr h))
    · exact rrun_end (by omega) (.inr (.inr h))
theorem doom_f (l : List UInt8) : ∀ (p dg : Nat) (f : UInt8) (big : Bool) (k : Nat → Int), f.toNat = 48 → 1 < dg → rrun l p dg f big k = (zero, 3) := by
  induction l with
  | nil => intro p dg f big k h1 h2; rw [rrun_nil, if_pos (.inr (.inl ⟨h1, h2⟩))]
  | cons b r ih =>
    intro p dg f big k h1 h2
    by_cases c : b.toNat ≠ 32
    · by_cases e : b.toNat < 48 ∨ 57 < b.toNat ∨ 6 < p
      · exact rrun_bad c e
      · rw [rrun_digit e, if_neg (by omega : ¬ dg = 0)]
        exact ih _ _ _ _ _ h1 (by omega)
    · exact rrun_end (by omega) (.inr (.inl ⟨h1, h2⟩))

/-- What ties the two. -/
structure Tied (p dg : Nat) (f : UInt8) (big : Bool) (k k' : Nat → Int) : Prop where
  hp : p ≤ 6
  hk : ∀ j, k j = mn (k' j) 1441
  hn : ∀ j, 0 ≤ k' j
  hz : ∀ j, p < j → k' j = 0
  hb : big = true ↔ ∃ j, j < p ∧ 1440 < k' j
  hf : ¬ (f.toNat = 48 ∧ 1 < dg)

theorem mn_le {a : Int} (h : a ≤ 1440) : mn a 1441 = a := by unfold mn; rw [if_neg (by omega)]
theorem mn_gt {a : Int} (h : 1440 < a) : mn a 1441 = 1441 := by unfold mn; split <;> omega
theorem mn_mn (a q : Int) (_h0 : 0 ≤ a) (h1 : 0 ≤ q) : mn (10 * mn a 1441 + q) 1441 = mn (mn (10 * a + q) 100000) 1441 := by
  unfold mn; repeat' split
  all_goals omega

theorem fin_some (k : Nat → Int) : fin (some k) = if ok k then (k, 0) else (zero, 2) := rfl
theorem ref_is_run (l : List UInt8) : ∀ (p dg : Nat) (f : UInt8) (big : Bool) (k k' : Nat → Int), Tied p dg f big k k' → rrun l p dg f big k' = fin (run l p dg f k) := by
  induction l with
  | nil =>
    intro p dg f big k k' h
    have hf := h.hf
    rw [rrun_nil, run_nil]
    by_cases c : p = 6 ∧ 0 < dg
    · rw [if_pos c, fin_some]
      obtain ⟨rfl, c2⟩ := c
      have n1 : ¬ (dg = 0 ∨ (f.toNat = 48 ∧ 1 < dg) ∨ 6 < 6) := by omega
      have n2 : ¬ (6 ≠ 6) := by omega
      rw [if_neg n1, if_neg n2]
      by_cases e : big = true ∨ 1440 < k' 6
      · rw [if_pos e]
        have : ∃ j, j < 7 ∧ 1440 < k' j := by
          rcases e with e | e
          · obtain ⟨j, h1, h2⟩ := h.hb.1 e; exact ⟨j, by omega, h2⟩
          · exact ⟨6, by omega, e⟩
        obtain ⟨j, h1, h2⟩ := this
        have hno : ¬ ok k := fun o => by
          have h3 := ok_at o j h1
          rw [h.hk, mn_gt h2] at h3
          omega
        rw [if_neg hno]
      · rw [if_neg e]
        have hall : ∀ j, k' j ≤ 1440 := fun j => by
          by_cases q : j < 6
          · by_cases z : 1440 < k' j
            · exact absurd (.inl (h.hb.2 ⟨j, q, z⟩)) e
            · omega
          · by_cases q6 : j = 6
            · subst q6
              by_cases z : 1440 < k' 6
              · exact absurd (.inr z) e
              · omega
            · rw [h.hz j (by omega)]; omega
        have hk : k = k' := funext fun j => by rw [h.hk, mn_le (hall j)]
        subst hk
        have o : ok k := by
          have := fun j => And.intro (h.hn j) (hall j)
          exact ⟨this 0, this 1, this 2, this 3, this 4, this 5, this 6⟩
        rw [if_pos o]
    · rw [if_neg c]
      show _ = (zero, 3)
      by_cases e : dg = 0 ∨ (f.toNat = 48 ∧ 1 < dg) ∨ 6 < p
      · rw [if_pos e]
      · have n2 : p ≠ 6 := by omega
        rw [if_neg e, if_pos n2]
  | cons b r ih =>
    intro p dg f big k k' h
    have hp := h.hp
    have hf := h.hf
    by_cases c : b.toNat = 32
    · by_cases e : 0 < dg ∧ p < 6
      · rw [rrun_blank c (by omega), run_blank ⟨c, e⟩]
        refine ih _ _ _ _ _ _ ⟨by omega, h.hk, h.hn, fun j hj => h.hz j (by omega), ?_, by omega⟩
        simp only [Bool.or_eq_true, decide_eq_true_eq, h.hb]
        constructor
        · rintro (⟨j, h1, h2⟩ | h2)
          · exact ⟨j, by omega, h2⟩
          · exact ⟨p, by omega, h2⟩
        · rintro ⟨j, h1, h2⟩
          by_cases q : j = p
          · subst q; exact .inr h2
          · exact .inl ⟨j, by omega, h2⟩
      · rw [run_stop (by omega) (by omega)]
        show _ = (zero, 3)
        by_cases e2 : dg = 0 ∨ (f.toNat = 48 ∧ 1 < dg) ∨ 6 < p
        · exact rrun_end c e2
        · rw [rrun_blank c e2]
          exact doom_p r _ _ _ _ _ (by omega)
    · by_cases e : b.toNat < 48 ∨ 57 < b.toNat
      · rw [rrun_bad c (by omega), run_stop (by omega) (by omega)]
        rfl
      · rw [rrun_digit (by omega)]
        by_cases e2 : 0 < dg ∧ f.toNat = 48
        · rw [run_stop (by omega) (.inr (.inr e2)), if_neg (by omega : ¬ dg = 0)]
          exact doom_f r _ _ _ _ _ e2.2 (by omega)
        · rw [run_digit (by omega)]
          refine ih _ _ _ _ _ _ ⟨hp, fun j => ?_, fun j => ?_, fun j hj => ?_, ?_, ?_⟩
          · by_cases q : j = p
            · subst q
              rw [upd_same, upd_same, h.hk, mn_mn _ _ (h.hn j) (by omega)]
            · rw [upd_other _ _ _ _ q, upd_other _ _ _ _ q]; exact h.hk j
          · by_cases q : j = p
            · subst q
              have := h.hn j
              rw [upd_same]; unfold mn; split <;> omega
            · rw [upd_other _ _ _ _ q]; exact h.hn j
          · rw [upd_other _ _ _ _ (by omega)]; exact h.hz j hj
          · rw [h.hb]
            constructor
            · rintro ⟨j, h1, h2⟩; exact ⟨j, h1, by rw [upd_other _ _ _ _ (by omega)]; exact h2⟩
            · rintro ⟨j, h1, h2⟩; exact ⟨j, h1, by rw [upd_other _ _ _ _ (by omega)] at h2; exact h2⟩
          · by_cases q : dg = 0
            · omega
            · rw [if_neg q]; omega
theorem parse_ref (l : List UInt8) : rrun l 0 0 0 false zero = fin (run l 0 0 0 zero) :=
  ref_is_run l 0 0 0 false zero zero ⟨by omega, fun _ => rfl, fun _ => by simp [zero], fun _ _ => rfl, by simp, by simp⟩

/-- A number in tens. -/
def numT (n : Nat) : List UInt8 := if n < 10 then [db n] else numT (n / 10) ++ [db ((n % 10 : Nat) : Int)]
theorem db_nat (q : Nat) (h : q ≤ 9) : (db (q : Int)).toNat = 48 + q := by
  unfold db
  rcases (by omega : q = 0 ∨ q = 1 ∨ q = 2 ∨ q = 3 ∨ q = 4 ∨ q = 5 ∨ q = 6 ∨ q = 7 ∨ q = 8 ∨ q = 9) with rfl | rfl | rfl | rfl | rfl | rfl | rfl | rfl | rfl | rfl <;> decide
theorem upd_upd (k : Nat → Int) (i : Nat) (u v : Int) : upd (upd k i u) i v = upd k i v := by
  funext j; unfold upd; split <;> rfl

/-- A number's digits, read. -/
theorem run_num (n : Nat) : ∀ (r : List UInt8) (p : Nat) (f : UInt8) (k : Nat → Int), 0 < n → n ≤ 1440 → k p = 0 →
    ∃ dg g, 0 < dg ∧ g.toNat ≠ 48 ∧ run (numT n ++ r) p 0 f k = run r p dg g (upd k p n) := by
  induction n using Nat.strongRecOn with
  | ind n ih =>
    intro r p f k h0 h1 hk
    rw [numT]
    by_cases c : n < 10
    · rw [if_pos c]
      have hd := db_nat n (by omega)
      refine ⟨1, db n, by omega, by omega, ?_⟩
      show run (db n :: r) p 0 f k = _
      rw [run_digit (by omega), if_pos rfl, hd, hk]
      have : mn (10 * 0 + (((48 + n : Nat) : Int) - 48)) 1441 = n := by unfold mn; split <;> omega
      rw [this]
    · rw [if_neg c, List.append_assoc]
      obtain ⟨dg, g, hdg, hg, e⟩ := ih (n / 10) (by omega) ([db ((n % 10 : Nat) : Int)] ++ r) p f k (by omega) (by omega) hk
      rw [e]
      have hd := db_nat (n % 10) (by omega)
      refine ⟨dg + 1, g, by omega, hg, ?_⟩
      show run (db ((n % 10 : Nat) : Int) :: r) p dg g (upd k p ((n / 10 : Nat) : Int)) = _
      rw [run_digit (by omega), if_neg (by omega), hd, upd_same, upd_upd]
      have : mn (10 * ((n / 10 : Nat) : Int) + (((48 + n % 10 : Nat) : Int) - 48)) 1441 = n := by unfold mn; split <;> omega
      rw [this]
theorem run_num' (n : Nat) (r : List UInt8) (p : Nat) (f : UInt8) (k : Nat → Int) (h1 : n ≤ 1440) (hk : k p = 0) :
    ∃ dg g, 0 < dg ∧ run (numT n ++ r) p 0 f k = run r p dg g (upd k p n) := by
  by_cases h0 : 0 < n
  · obtain ⟨dg, g, h, _, e⟩ := run_num n r p f k h0 h1 hk
    exact ⟨dg, g, h, e⟩
  · obtain rfl : n = 0 := by omega
    refine ⟨1, db 0, by omega, ?_⟩
    rw [numT, if_pos (by omega)]
    have hd := db_nat 0 (by omega)
    show run (db ((0 : Nat) : Int) :: r) p 0 f k = _
    rw [run_digit (by omega), if_pos rfl, hd, hk]
    rfl

/-- A week's text, from the number behind the first one on. -/
def tailT (k : Nat → Int) : Nat → Nat → List UInt8
  | _, 0 => []
  | i, m + 1 => [32] ++ numT (k i).toNat ++ tailT k (i + 1) m
def weekT (k : Nat → Int) : List UInt8 := numT (k 0).toNat ++ tailT k 1 6

theorem run_tail {k : Nat → Int} (o : ok k) : ∀ (m i dg : Nat) (g : UInt8) (q : Nat → Int), i + m = 6 → 0 < dg → (∀ j, i < j → q j = 0) → (∀ j, j ≤ i → q j = k j) →
    ∃ q', run (tailT k (i + 1) m) i dg g q = some q' ∧ ∀ j, j < 7 → q' j = k j
  | 0, i, dg, g, q, h, hd, _, hq => ⟨q, by rw [tailT, run_nil, if_pos ⟨by omega, hd⟩], fun j hj => hq j (by omega)⟩
  | m + 1, i, dg, g, q, h, hd, hz, hq => by
    have hb := ok_at o (i + 1) (by omega)
    rw [tailT, List.append_assoc]
    show ∃ q', run (32 :: (numT (k (i + 1)).toNat ++ tailT k (i + 1 + 1) m)) i dg g q = some q' ∧ _
    rw [run_blank ⟨by decide, hd, by omega⟩]
    obtain ⟨dg', g', hd', e⟩ := run_num' (k (i + 1)).toNat (tailT k (i + 1 + 1) m) (i + 1) g q (by omega) (hz _ (by omega))
    rw [e]
    refine run_tail o m (i + 1) dg' g' _ (by omega) hd' (fun j hj => ?_) (fun j hj => ?_)
    · rw [upd_other _ _ _ _ (by omega)]; exact hz j (by omega)
    · by_cases c : j = i + 1
      · subst c; rw [upd_same]; omega
      · rw [upd_other _ _ _ _ c]; exact hq j (by omega)
theorem run_week {k : Nat → Int} (o : ok k) : ∃ q, run (weekT k) 0 0 0 zero = some q ∧ ∀ j, j < 7 → q j = k j := by
  have hb := ok_at o 0 (by omega)
  obtain ⟨dg, g, hd, e⟩ := run_num' (k 0).toNat (tailT k 1 6) 0 0 zero (by omega) rfl
  unfold weekT
  rw [e]
  refine run_tail o 6 0 dg g _ (by omega) hd (fun j hj => ?_) (fun j hj => ?_)
  · rw [upd_other _ _ _ _ (by omega)]; rfl
  · obtain rfl : j = 0 := by omega
    rw [upd_same]; omega
theorem ok_congr {k q : Nat → Int} (h : ∀ j, j < 7 → q j = k j) : ok q ↔ ok k := by
  unfold ok
  rw [h 0 (by omega), h 1 (by omega), h 2 (by omega), h 3 (by omega), h 4 (by omega), h 5 (by omega), h 6 (by omega)]
end Go.Proofs.YtjpjeimpmfoldaaDoor.WP
