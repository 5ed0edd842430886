/- The walk of civil's Parse. -/
import Derived.Test.YtncekfogdpkgmaaDoorCivT
namespace Go.Proofs.YtncekfogdpkgmaaDoor.W
open Go.RowKit Go.Proofs.YtncekfogdpkgmaaDoor.M

/-- What Parse answers: the day, the error's number. -/
def prs (l : List UInt8) : Int × Int :=
  if l.length ≠ 10 ∨ l.getD 4 0 ≠ 45 ∨ l.getD 7 0 ≠ 45 then (0, 3)
  else if numB (l.take 4) = true ∧ numB ((l.drop 5).take 2) = true ∧ numB (l.drop 8) = true then
    if numI (l.drop 8) < 1 ∨ Cal.MD (numI (l.take 4)) (numI ((l.drop 5).take 2)) < numI (l.drop 8) then (0, 15)
    else (Cal.day (numI (l.take 4)) (numI ((l.drop 5).take 2)) (numI (l.drop 8)), 0)
  else (0, 3)

theorem getD_str (s : ByteArray) (i : Nat) (h : i < s.size) : s.data.toList.getD i 0 = s[i] := by
  have h' : i < s.data.toList.length := by simpa using h
  rw [List.getD_eq_getElem?_getD, List.getElem?_eq_getElem h']
  simp [ByteArray.getElem_eq_getElem_data]
theorem extract_list (s : ByteArray) (i j : Nat) : (s.extract i j).data.toList = (s.data.toList.drop i).take (j - i) := by
  simp [ByteArray.data_extract, Array.toList_extract, List.extract_eq_take_drop]
theorem u8_ne (b : UInt8) (n : Nat) (c : UInt8) (hc : c.toNat = n) : (((b.toNat : Int) != (n : Int)) = true ↔ b ≠ c) := by
  subst hc
  rw [bne_iff_ne]
  constructor
  · intro h e; subst e; exact h rfl
  · intro h e; exact h (UInt8.toNat_inj.1 (by omega))

def parseGoal (s : ByteArray) (w : World) (e : Ending) (w' : World) : Prop := e = .returned (.tuple #[.int .i64 (prs s.data.toList).1, .int .i64 (prs s.data.toList).2]) ∧ Below w.heap.size w w'

theorem parse_form (s : ByteArray) (w : World) (_hs : s.size ≤ 300) (h : s.data.toList.length ≠ 10 ∨ s.data.toList.getD 4 0 ≠ 45 ∨ s.data.toList.getD 7 0 ≠ 45) :
    Calls Tryd.prog 25 #[.string s] w fun e w' => e = .returned (.tuple #[.int .i64 0, .int .i64 3]) ∧ w = w' := by
  by_cases h10 : s.size = 10
  · have g4 := getD_str s 4 (by omega)
    have g7 := getD_str s 7 (by omega)
    rw [g4, g7] at h
    by_cases c4 : s[4] = 45
    · have c7 : s[7] ≠ 45 := by
        rcases h with h | h | h
        · exfalso; apply h; simpa using h10
        · exact absurd c4 h
        · exact h
      have e4 : ((s[4].toNat : Int) != 45) = false := by rw [c4]; rfl
      have e7 : ((s[7].toNat : Int) != 45) = true := (u8_ne s[7] 45 45 rfl).2 c7
      clear h g4 g7 c4 c7
      go_enter Tryd.func25, Tryd.ntmps25
      go_wp2_with fail
      go_ret2
      exact ⟨rfl, rfl⟩
    · have e4 : ((s[4].toNat : Int) != 45) = true := (u8_ne s[4] 45 45 rfl).2 c4
      clear h g4 g7 c4
      go_enter Tryd.func25, Tryd.ntmps25
      go_wp2_with fail
      go_ret2
      exact ⟨rfl, rfl⟩
  · have e10 : ((s.size : Int) == 10) = false := beq_eq_false_iff_ne.2 (by omega)
    have e10' : ((s.size : Int) != 10) = true := by rw [bne_iff_ne]; omega
    clear h
    go_enter Tryd.func25, Tryd.ntmps25
    go_wp2_with fail
    go_ret2
    exact ⟨rfl, rfl⟩

theorem num_bd (l : List UInt8) : ∀ n : Int, 0 ≤ n → ∀ v, num l n = some v → 0 ≤ v ∧ v < (n + 1) * ((10 ^ l.length : Nat) : Int) := by
  induction l with
  | nil => intro n h0 v h; simp [num] at h; simp; omega
  | cons b r ih =>
    intro n h0 v h
    unfold num at h
    by_cases c : (b.toNat : Int) < 48 ∨ 57 < (b.toNat : Int)
    · rw [if_pos c] at h; cases h
    · rw [if_neg c] at h
      obtain ⟨a1, a2⟩ := ih _ (by omega) v h
      refine ⟨a1, ?_⟩
      have hp : (0 : Int) ≤ ((10 ^ r.length : Nat) : Int) := Int.natCast_nonneg _
      have h1 : (10 * n + ((b.toNat : Int) - 48) + 1) * ((10 ^ r.length : Nat) : Int) ≤ ((n + 1) * 10) * ((10 ^ r.length : Nat) : Int) := Int.mul_le_mul_of_nonneg_right (by omega) hp
      have h2 : ((10 ^ (b :: r).length : Nat) : Int) = 10 * ((10 ^ r.length : Nat) : Int) := by rw [List.length_cons, Nat.pow_succ]; omega
      rw [h2, ← Int.mul_assoc]
      omega
theorem numI_bd (l : List UInt8) (h : l.length ≤ 10) : 0 ≤ numI l ∧ numI l ≤ 10000000000 := by
  unfold numI
  cases hn : num l 0 with
  | none => simp
  | some v =>
    have h1 := num_bd l 0 (by omega) v hn
    have h2 := pow10 l.length h
    simp only [Option.getD_some]
    omega

theorem parse_rest (s : ByteArray) (w : World) (ht : Tab w) (h10 : s.size = 10) (c4 : s[4] = 45) (c7 : s[7] = 45) :
    Calls Tryd.prog 25 #[.string s] w fun e w' => e = .returned (.tuple #[.int .i64 (prs s.data.toList).1, .int .i64 (prs s.data.toList).2]) ∧ Below w.heap.size w w' := by
  have l10 : s.data.toList.length = 10 := by simpa using h10
  have g4 := getD_str s 4 (by omega)
  have g7 := getD_str s 7 (by omega)
  have hp : prs s.data.toList = (if numB (s.data.toList.take 4) = true ∧ numB ((s.data.toList.drop 5).take 2) = true ∧ numB (s.data.toList.drop 8) = true then
    if numI (s.data.toList.drop 8) < 1 ∨ Cal.MD (numI (s.data.toList.take 4)) (numI ((s.data.toList.drop 5).take 2)) < numI (s.data.toList.drop 8) then (0, 15)
    else (Cal.day (numI (s.data.toList.take 4)) (numI ((s.data.toList.drop 5).take 2)) (numI (s.data.toList.drop 8)), 0)
    else (0, 3)) := by
    unfold prs
    rw [if_neg (by rw [l10, g4, g7, c4, c7]; simp)]
  have x1 : (s.extract 0 4).data.toList = s.data.toList.take 4 := by rw [extract_list]; simp
  have x2 : (s.extract 5 7).data.toList = (s.data.toList.drop 5).take 2 := extract_list s 5 7
  have x3 : (s.extract 8 10).data.toList = s.data.toList.drop 8 := by
    rw [extract_list, List.take_of_length_le]; simp; omega
  have H1 := Lib.hid (fun W => number_any (s.extract 0 4) W (by simp; omega))
  have H2 := Lib.hid (fun W => number_any (s.extract 5 7) W (by simp; omega))
  have H3 := Lib.hid (fun W => number_any (s.extract 8 10) W (by simp; omega))
  rw [x1] at H1
  rw [x2] at H2
  rw [x3] at H3
  have b1 := numI_bd (s.data.toList.take 4) (by simp; omega)
  have b2 := numI_bd ((s.data.toList.drop 5).take 2) (by simp; omega)
  have b3 := numI_bd (s.data.toList.drop 8) (by simp; omega)
  have e4 : ((s[4].toNat : Int) != 45) = false := by rw [c4]; rfl
  have e7 : ((s[7].toNat : Int) != 45) = false := by rw [c7]; rfl
  rw [hp]
  clear hp x1 x2 x3 g4 g7 c4 c7 l10
  generalize numI (s.data.toList.take 4) = y at *
  generalize numI ((s.data.toList.drop 5).take 2) = m at *
  generalize numI (s.data.toList.drop 8) = k at *
  generalize numB (s.data.toList.take 4) = p at *
  generalize numB ((s.data.toList.drop 5).take 2) = q at *
  generalize numB (s.data.toList.drop 8) = r at *
  by_cases hall : p = true ∧ q = true ∧ r = true
  · rw [if_pos hall]
    obtain ⟨rfl, rfl, rfl⟩ := hall
    by_cases hv : k < 1 ∨ Cal.MD y m < k
    · rw [if_pos hv]
      have Hof := Lib.hid (fun W (h : Tab W) => of_no y m k W h (by omega) (by omega) hv)
      clear hv
      go_enter Tryd.func25, Tryd.ntmps25
      go_wp2_with fail
      refine (H1.out _).mono ?_
      rintro e w1 ⟨rfl, hb1⟩
      go_wp2_with fail
      refine (H2.out _).mono ?_
      rintro e w2 ⟨rfl, hb2⟩
      go_wp2_with fail
      refine (H3.out _).mono ?_
      rintro e w3 ⟨rfl, hb3⟩
      go_wp2_with fail
      refine (Hof.out _ (((ht.step hb1).step hb2).step hb3)).mono ?_
      rintro e w4 ⟨rfl, hb4⟩
      go_wp2_with fail
      go_ret2
      exact ⟨rfl, bstep (bstep (bstep hb1 hb2) hb3) hb4⟩
    · rw [if_neg hv]
      have hV : Cal.Valid y m k := by
        unfold Cal.MD at hv
        by_cases g : 1900 ≤ y ∧ y ≤ 2199 ∧ 1 ≤ m ∧ m ≤ 12
        · rw [if_pos g] at hv; exact ⟨g.1, g.2.1, g.2.2.1, g.2.2.2, by omega, by omega⟩
        · rw [if_neg g] at hv; omega
      have Hof := Lib.hid (fun W (h : Tab W) => of_yes y m k W h hV)
      clear hv hV
      go_enter Tryd.func25, Tryd.ntmps25
      go_wp2_with fail
      refine (H1.out _).mono ?_
      rintro e w1 ⟨rfl, hb1⟩
      go_wp2_with fail
      refine (H2.out _).mono ?_
      rintro e w2 ⟨rfl, hb2⟩
      go_wp2_with fail
      refine (H3.out _).mono ?_
      rintro e w3 ⟨rfl, hb3⟩
      go_wp2_with fail
      refine (Hof.out _ (((ht.step hb1).step hb2).step hb3)).mono ?_
      rintro e w4 ⟨rfl, hb4⟩
      go_wp2_with fail
      go_ret2
      exact ⟨rfl, bstep (bstep (bstep hb1 hb2) hb3) hb4⟩
  · rw [if_neg hall]
    have Hall := Lib.hid hall
    clear hall
    cases p <;> cases q <;> cases r
    all_goals first
      | exact absurd ⟨rfl, rfl, rfl⟩ Hall.out
      | (clear Hall
         go_enter Tryd.func25, Tryd.ntmps25
         go_wp2_with fail
         refine (H1.out _).mono ?_
         rintro e w1 ⟨rfl, hb1⟩
         go_wp2_with fail
         refine (H2.out _).mono ?_
         rintro e w2 ⟨rfl, hb2⟩
         go_wp2_with fail
         refine (H3.out _).mono ?_
         rintro e w3 ⟨rfl, hb3⟩
         go_wp2_with fail
         go_ret2
         exact ⟨rfl, bstep (bstep hb1 hb2) hb3⟩)

theorem parse_any (s : ByteArray) (w : World) (ht : Tab w) (hs : s.size ≤ 300) :
    Calls Tryd.prog 25 #[.string s] w fun e w' => e = .returned (.tuple #[.int .i64 (prs s.data.toList).1, .int .i64 (prs s.data.toList).2]) ∧ Below w.heap.size w w' := by
  by_cases h : s.data.toList.length ≠ 10 ∨ s.data.toList.getD 4 0 ≠ 45 ∨ s.data.toList.getD 7 0 ≠ 45
  · have hp : prs s.data.toList = (0, 3) := by unfold prs; rw [if_pos h]
    rw [hp]
    exact (parse_form s w hs h).mono fun e w' hh => ⟨hh.1, hh.2 ▸ Below.refl _ _⟩
  · have h10 : s.size = 10 := by
      by_cases g : s.size = 10
      · exact g
      · exfalso; apply h; left; simpa using g
    have g4 := getD_str s 4 (by omega)
    have g7 := getD_str s 7 (by omega)
    rw [g4, g7] at h
    exact parse_rest s w ht h10 (by by_cases g : s[4] = 45; exact g; exact absurd (.inr (.inl g)) h) (by by_cases g : s[7] = 45; exact g; exact absurd (.inr (.inr g)) h)
end Go.Proofs.YtncekfogdpkgmaaDoor.W
