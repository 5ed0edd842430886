/- The walk of the reference's Parse. -/
import Derived.Test.YtncekfogdpkgmaaDoorCivS
import Derived.Test.YtncekfogdpkgmaaDoorCivP
import Derived.RegionTactic
namespace Go.Proofs.YtncekfogdpkgmaaDoor.W
open Go.RowKit Go.Proofs.YtncekfogdpkgmaaDoor.M

/-- The three numbers of a text, read byte by byte. -/
def Three (wr : World) (B : Nat) (a0 a1 a2 : Int) : Prop :=
  wr.cell? ⟨B, 0, none⟩ = some (.int .i64 a0) ∧ wr.cell? ⟨B, 1, none⟩ = some (.int .i64 a1) ∧ wr.cell? ⟨B, 2, none⟩ = some (.int .i64 a2) ∧ wr.frozen? ⟨B, 0, none⟩ = false ∧ wr.frozen? ⟨B, 1, none⟩ = false ∧ wr.frozen? ⟨B, 2, none⟩ = false ∧ B < wr.heap.size

theorem Three.drew {wr : World} {B : Nat} {a0 a1 a2 : Int} (h : Three wr B a0 a1 a2) : Three wr.drew B a0 a1 a2 := h
theorem three_set0 {wr : World} {B : Nat} {a0 a1 a2 : Int} (h : Three wr B a0 a1 a2) (v : Int) : Three (wr.setCell ⟨B, 0, none⟩ (.int .i64 v)) B v a1 a2 := by
  obtain ⟨h0, h1, h2, f0, f1, f2, hz⟩ := h
  exact ⟨World.cell?_setCell_same _ _ _ h0, (World.cell?_setCell_other _ _ _ _ (by simp)).trans h1, (World.cell?_setCell_other _ _ _ _ (by simp)).trans h2, by simpa using f0, by simpa using f1, by simpa using f2, by simpa using hz⟩
theorem three_set1 {wr : World} {B : Nat} {a0 a1 a2 : Int} (h : Three wr B a0 a1 a2) (v : Int) : Three (wr.setCell ⟨B, 1, none⟩ (.int .i64 v)) B a0 v a2 := by
  obtain ⟨h0, h1, h2, f0, f1, f2, hz⟩ := h
  exact ⟨(World.cell?_setCell_other _ _ _ _ (by simp)).trans h0, World.cell?_setCell_same _ _ _ h1, (World.cell?_setCell_other _ _ _ _ (by simp)).trans h2, by simpa using f0, by simpa using f1, by simpa using f2, by simpa using hz⟩
theorem three_set2 {wr : World} {B : Nat} {a0 a1 a2 : Int} (h : Three wr B a0 a1 a2) (v : Int) : Three (wr.setCell ⟨B, 2, none⟩ (.int .i64 v)) B a0 a1 v := by
  obtain ⟨h0, h1, h2, f0, f1, f2, hz⟩ := h
  exact ⟨(World.cell?_setCell_other _ _ _ _ (by simp)).trans h0, (World.cell?_setCell_other _ _ _ _ (by simp)).trans h1, World.cell?_setCell_same _ _ _ h2, by simpa using f0, by simpa using f1, by simpa using f2, by simpa using hz⟩

theorem num_next (l : List UInt8) (j : Nat) (a : Int) (h : j < l.length) : num (l.drop j) a = if ((l.getD j 0).toNat : Int) < 48 ∨ 57 < ((l.getD j 0).toNat : Int) then none else num (l.drop (j + 1)) (10 * a + (((l.getD j 0).toNat : Int) - 48)) := by
  rw [drop_cons8 l j h, num]

theorem rparse_form (s : ByteArray) (w : World) (_hs : s.size ≤ 300) (h : s.data.toList.length ≠ 10 ∨ s.data.toList.getD 4 0 ≠ 45 ∨ s.data.toList.getD 7 0 ≠ 45) :
    Calls Tryd.prog 27 #[.string s] w fun e w' => e = .returned (.tuple #[.int .i64 0, .int .i64 3]) ∧ w = w' := by
  by_cases h10 : s.size = 10
  · have g4 := getD_str s 4 (by omega)
    have g7 := getD_str s 7 (by omega)
    rw [g4, g7] at h
    by_cases c4 : s[4] = 45
    · have c7 : s[7] ≠ 45 := by
        rcases h with h | h | h
        · exfalso; apply h; simpa using h10
        · exact absurd c4 h
        · exact h
      have e4 : ((s[4].toNat : Int) != 45) = false := by rw [c4]; rfl
      have e7 : ((s[7].toNat : Int) != 45) = true := (u8_ne s[7] 45 45 rfl).2 c7
      clear h g4 g7 c4 c7
      go_enter Tryd.func27, Tryd.ntmps27
      go_wp2_with fail
      go_ret2
      exact ⟨rfl, rfl⟩
    · have e4 : ((s[4].toNat : Int) != 45) = true := (u8_ne s[4] 45 45 rfl).2 c4
      clear h g4 g7 c4
      go_enter Tryd.func27, Tryd.ntmps27
      go_wp2_with fail
      go_ret2
      exact ⟨rfl, rfl⟩
  · have e10 : ((s.size : Int) == 10) = false := beq_eq_false_iff_ne.2 (by omega)
    have e10' : ((s.size : Int) != 10) = true := by rw [bne_iff_ne]; omega
    clear h
    go_enter Tryd.func27, Tryd.ntmps27
    go_wp2_with fail
    go_ret2
    exact ⟨rfl, rfl⟩

set_option maxRecDepth 100000 in
set_option maxHeartbeats 2000000 in
theorem rparse_rest (s : ByteArray) (w : World) (h10 : s.size = 10) (c4 : s[4] = 45) (c7 : s[7] = 45) :
    Calls Tryd.prog 27 #[.string s] w fun e w' => e = .returned (.tuple #[.int .i64 (prs s.data.toList).1, .int .i64 (prs s.data.toList).2]) ∧ Below w.heap.size w w' := by
  have l10 : s.data.toList.length = 10 := by simpa using h10
  have hg : ∀ i (h : i < s.size), s.data.toList.getD i 0 = s[i] := fun i h => getD_str s i h
  have g4 := hg 4 (by omega)
  have g7 := hg 7 (by omega)
  have hp : Hid (prs s.data.toList = (if numB (s.data.toList.take 4) = true ∧ numB ((s.data.toList.drop 5).take 2) = true ∧ numB (s.data.toList.drop 8) = true then
    if numI (s.data.toList.drop 8) < 1 ∨ Cal.MD (numI (s.data.toList.take 4)) (numI ((s.data.toList.drop 5).take 2)) < numI (s.data.toList.drop 8) then (0, 15)
    else (Cal.day (numI (s.data.toList.take 4)) (numI ((s.data.toList.drop 5).take 2)) (numI (s.data.toList.drop 8)), 0)
    else (0, 3))) := by
    show _ = _
    unfold prs
    rw [if_neg (by rw [l10, g4, g7, c4, c7]; simp)]
  have e4 : ((s[4].toNat : Int) != 45) = false := by rw [c4]; rfl
  have e7 : ((s[7].toNat : Int) != 45) = false := by rw [c7]; rfl
  have k1 : (s.data.toList.take 4).length = 4 := by simp; omega
  have k2 : ((s.data.toList.drop 5).take 2).length = 2 := by simp; omega
  have k3 : (s.data.toList.drop 8).length = 2 := by simp; omega
  have x1 : ∀ i, i < 4 → (s.data.toList.take 4).getD i 0 = s.data.toList.getD i 0 := fun i h => by
    rw [List.getD_eq_getElem?_getD, List.getElem?_take, if_pos h, List.getD_eq_getElem?_getD]
  have x2 : ∀ i, i < 2 → ((s.data.toList.drop 5).take 2).getD i 0 = s.data.toList.getD (5 + i) 0 := fun i h => by
    rw [List.getD_eq_getElem?_getD, List.getElem?_take, if_pos h, List.getElem?_drop, List.getD_eq_getElem?_getD]
  have x3 : ∀ i, (s.data.toList.drop 8).getD i 0 = s.data.toList.getD (8 + i) 0 := fun i => by
    rw [List.getD_eq_getElem?_getD, List.getElem?_drop, List.getD_eq_getElem?_getD]
  clear g4 g7 c4 c7 l10
  generalize s.data.toList.take 4 = L1 at *
  generalize (s.data.toList.drop 5).take 2 = L2 at *
  generalize s.data.toList.drop 8 = L3 at *
  have X1 := Lib.hid x1; clear x1
  have X2 := Lib.hid x2; clear x2
  have X3 := Lib.hid x3; clear x3
  have HG := Lib.hid hg; clear hg
  have K1 := Lib.hid k1; clear k1
  have K2 := Lib.hid k2; clear k2
  have K3 := Lib.hid k3; clear k3
  go_enter Tryd.func27, Tryd.ntmps27
  go_wp2_with fail
  go_loopw [5] (fun t wr => ∃ (i : Nat) (a0 a1 a2 : Int), i ≤ 10 ∧ t = .int .i64 i ∧ Three wr w.heap.size a0 a1 a2 ∧ 0 ≤ a0 ∧ a0 < ((10 ^ i : Nat) : Int) ∧ 0 ≤ a1 ∧ a1 < ((10 ^ i : Nat) : Int) ∧ 0 ≤ a2 ∧ a2 < ((10 ^ i : Nat) : Int) ∧
      Hid (num L1 0 = num (L1.drop i) a0) ∧ Hid (num L2 0 = num (L2.drop (i - 5)) a1) ∧ Hid (num L3 0 = num (L3.drop (i - 8)) a2) ∧ Below w.heap.size w wr)
    (fun t _ => 10 - (intOf t).toNat)
  case atStart =>
    exact ⟨0, 0, 0, 0, by omega, rfl, ⟨by simp, by simp, by simp, World.frozen?_alloc_at _ _ _ _ rfl, World.frozen?_alloc_at _ _ _ _ rfl, World.frozen?_alloc_at _ _ _ _ rfl, by simp⟩, by omega, by decide, by omega, by decide, by omega, by decide, rfl, rfl, rfl, balloc (Below.refl _ _) _⟩
  case round =>
    obtain ⟨i, a0, a1, a2, hi, rfl, h3, p0, q0, p1, q1, p2, q2, n1, n2, n3, hbel⟩ := hrel
    have h3' := h3
    obtain ⟨hc0, hc1, hc2, hf0, hf1, hf2, hsz⟩ := h3'
    have P10 := pow10 i hi
    have PS : Hid (((10 ^ (i + 1) : Nat) : Int) = 10 * ((10 ^ i : Nat) : Int)) := by show _ = _; rw [Nat.pow_succ]; omega
    by_cases c : i < 10
    · by_cases c4 : i = 4
      · subst c4
        have m1 : Hid (num L1 0 = num (L1.drop 5) a0) := by
          have h := n1.out
          rw [List.drop_of_length_le (by rw [K1.out]; omega)] at h
          show _ = _
          rw [List.drop_of_length_le (by rw [K1.out]; omega)]
          exact h
        have m2 : Hid (num L2 0 = num (L2.drop (5 - 5)) a1) := by
          have h := n2.out
          exact h
        have pw := PS.out
        go_wp2_with fail
        go_roundw
        case rel => exact ⟨5, a0, a1, a2, by omega, rfl, h3, p0, by omega, p1, by omega, p2, by omega, m1, m2, n3, hbel⟩
        case measure => simp [intOf]
      by_cases c7 : i = 7
      · subst c7
        have m1 : Hid (num L1 0 = num (L1.drop 8) a0) := by
          have h := n1.out
          rw [List.drop_of_length_le (by rw [K1.out]; omega)] at h
          show _ = _
          rw [List.drop_of_length_le (by rw [K1.out]; omega)]
          exact h
        have m2 : Hid (num L2 0 = num (L2.drop (8 - 5)) a1) := by
          have h := n2.out
          rw [List.drop_of_length_le (by rw [K2.out]; omega)] at h
          show _ = _
          rw [List.drop_of_length_le (by rw [K2.out]; omega)]
          exact h
        have pw := PS.out
        go_wp2_with fail
        go_roundw
        case rel => exact ⟨8, a0, a1, a2, by omega, rfl, h3, p0, by omega, p1, by omega, p2, by omega, m1, m2, n3, hbel⟩
        case measure => simp [intOf]
      by_cases g1 : i < 4
      · have hlj : i < L1.length := by rw [K1.out]; omega
        have hnx := num_next L1 i a0 hlj
        rw [X1.out i (by omega), HG.out i (by omega)] at hnx
        have hnn := n1.out
        rw [hnx] at hnn
        clear hnx
        have his : i < s.size := by omega
        have t4 : ((i : Int) == 4) = false := beq_eq_false_iff_ne.2 (by omega)
        have t7 : ((i : Int) == 7) = false := beq_eq_false_iff_ne.2 (by omega)
        obtain ⟨b, hbe⟩ : ∃ b, s[i] = b := ⟨_, rfl⟩
        rw [hbe] at hnn
        have b256 : (b.toNat : Int) < 256 := by have := b.toNat_lt; omega
        by_cases d1 : (b.toNat : Int) < 48 ∨ 57 < (b.toNat : Int)
        · rw [if_pos d1] at hnn
          have hfin : prs s.data.toList = (0, 3) := by
            rw [hp.out, if_neg]
            rintro ⟨z1, z2, z3⟩
            simp only [numB] at z1 z2 z3
            rw [hnn] at z1
            cases z1
          have HF := Lib.hid hfin
          clear hnn hfin
          by_cases d2 : (b.toNat : Int) < 48
          · clear d1
            go_wp2_with fail
            go_ret2
            rw [HF.out]
            exact ⟨rfl, hbel⟩
          · have d3 : 57 < (b.toNat : Int) := by omega
            clear d1
            go_wp2_with fail
            go_ret2
            rw [HF.out]
            exact ⟨rfl, hbel⟩
        · rw [if_neg d1] at hnn
          have HNN := Lib.hid hnn
          clear hnn
          have d2 : 48 ≤ (b.toNat : Int) := by omega
          have d3 : (b.toNat : Int) ≤ 57 := by omega
          clear d1
          have m1 : Hid (num L1 0 = num (L1.drop (i + 1)) (10 * a0 + ((b.toNat : Int) - 48))) := by
            have h := HNN.out
            exact h
          have m2 : Hid (num L2 0 = num (L2.drop (i + 1 - 5)) a1) := by
            have h := n2.out
            rw [show i - 5 = i + 1 - 5 from by omega] at h
            exact h
          have m3 : Hid (num L3 0 = num (L3.drop (i + 1 - 8)) a2) := by
            have h := n3.out
            rw [show i - 8 = i + 1 - 8 from by omega] at h
            exact h
          have PW := PS.out
          go_wp2_with fail
          go_region
          all_goals
            go_wp2_with fail
            go_roundw
            case rel => exact ⟨i + 1, _, a1, a2, by omega, by go_num, (three_set0 h3.drew _), by omega, by omega, by omega, by omega, by omega, by omega, m1, m2, m3, bset hbel.drew (Nat.le_refl _) _⟩
            case measure => simp [intOf]; omega
      by_cases g2 : i < 7
      · have hlj : (i - 5) < L2.length := by rw [K2.out]; omega
        have hnx := num_next L2 (i - 5) a1 hlj
        rw [X2.out (i - 5) (by omega), show 5 + (i - 5) = i from by omega, HG.out i (by omega)] at hnx
        have hnn := n2.out
        rw [hnx] at hnn
        clear hnx
        have his : i < s.size := by omega
        have t4 : ((i : Int) == 4) = false := beq_eq_false_iff_ne.2 (by omega)
        have t7 : ((i : Int) == 7) = false := beq_eq_false_iff_ne.2 (by omega)
        obtain ⟨b, hbe⟩ : ∃ b, s[i] = b := ⟨_, rfl⟩
        rw [hbe] at hnn
        have b256 : (b.toNat : Int) < 256 := by have := b.toNat_lt; omega
        by_cases d1 : (b.toNat : Int) < 48 ∨ 57 < (b.toNat : Int)
        · rw [if_pos d1] at hnn
          have hfin : prs s.data.toList = (0, 3) := by
            rw [hp.out, if_neg]
            rintro ⟨z1, z2, z3⟩
            simp only [numB] at z1 z2 z3
            rw [hnn] at z2
            cases z2
          have HF := Lib.hid hfin
          clear hnn hfin
          by_cases d2 : (b.toNat : Int) < 48
          · clear d1
            go_wp2_with fail
            go_ret2
            rw [HF.out]
            exact ⟨rfl, hbel⟩
          · have d3 : 57 < (b.toNat : Int) := by omega
            clear d1
            go_wp2_with fail
            go_ret2
            rw [HF.out]
            exact ⟨rfl, hbel⟩
        · rw [if_neg d1] at hnn
          have HNN := Lib.hid hnn
          clear hnn
          have d2 : 48 ≤ (b.toNat : Int) := by omega
          have d3 : (b.toNat : Int) ≤ 57 := by omega
          clear d1
          have m1 : Hid (num L1 0 = num (L1.drop (i + 1)) a0) := by
            have h := n1.out
            rw [List.drop_of_length_le (by rw [K1.out]; omega)] at h
            show _ = _
            rw [List.drop_of_length_le (by rw [K1.out]; omega)]
            exact h
          have m2 : Hid (num L2 0 = num (L2.drop (i + 1 - 5)) (10 * a1 + ((b.toNat : Int) - 48))) := by
            have h := HNN.out
            rw [show i - 5 + 1 = i + 1 - 5 from by omega] at h
            exact h
          have m3 : Hid (num L3 0 = num (L3.drop (i + 1 - 8)) a2) := by
            have h := n3.out
            rw [show i - 8 = i + 1 - 8 from by omega] at h
            exact h
          have PW := PS.out
          go_wp2_with fail
          go_region
          all_goals
            go_wp2_with fail
            go_roundw
            case rel => exact ⟨i + 1, a0, _, a2, by omega, by go_num, (three_set1 h3.drew _), by omega, by omega, by omega, by omega, by omega, by omega, m1, m2, m3, bset hbel.drew (Nat.le_refl _) _⟩
            case measure => simp [intOf]; omega
      · have hlj : (i - 8) < L3.length := by rw [K3.out]; omega
        have hnx := num_next L3 (i - 8) a2 hlj
        rw [X3.out (i - 8), show 8 + (i - 8) = i from by omega, HG.out i (by omega)] at hnx
        have hnn := n3.out
        rw [hnx] at hnn
        clear hnx
        have his : i < s.size := by omega
        have t4 : ((i : Int) == 4) = false := beq_eq_false_iff_ne.2 (by omega)
        have t7 : ((i : Int) == 7) = false := beq_eq_false_iff_ne.2 (by omega)
        obtain ⟨b, hbe⟩ : ∃ b, s[i] = b := ⟨_, rfl⟩
        rw [hbe] at hnn
        have b256 : (b.toNat : Int) < 256 := by have := b.toNat_lt; omega
        by_cases d1 : (b.toNat : Int) < 48 ∨ 57 < (b.toNat : Int)
        · rw [if_pos d1] at hnn
          have hfin : prs s.data.toList = (0, 3) := by
            rw [hp.out, if_neg]
            rintro ⟨z1, z2, z3⟩
            simp only [numB] at z1 z2 z3
            rw [hnn] at z3
            cases z3
          have HF := Lib.hid hfin
          clear hnn hfin
          by_cases d2 : (b.toNat : Int) < 48
          · clear d1
            go_wp2_with fail
            go_ret2
            rw [HF.out]
            exact ⟨rfl, hbel⟩
          · have d3 : 57 < (b.toNat : Int) := by omega
            clear d1
            go_wp2_with fail
            go_ret2
            rw [HF.out]
            exact ⟨rfl, hbel⟩
        · rw [if_neg d1] at hnn
          have HNN := Lib.hid hnn
          clear hnn
          have d2 : 48 ≤ (b.toNat : Int) := by omega
          have d3 : (b.toNat : Int) ≤ 57 := by omega
          clear d1
          have m1 : Hid (num L1 0 = num (L1.drop (i + 1)) a0) := by
            have h := n1.out
            rw [List.drop_of_length_le (by rw [K1.out]; omega)] at h
            show _ = _
            rw [List.drop_of_length_le (by rw [K1.out]; omega)]
            exact h
          have m2 : Hid (num L2 0 = num (L2.drop (i + 1 - 5)) a1) := by
            have h := n2.out
            rw [List.drop_of_length_le (by rw [K2.out]; omega)] at h
            show _ = _
            rw [List.drop_of_length_le (by rw [K2.out]; omega)]
            exact h
          have m3 : Hid (num L3 0 = num (L3.drop (i + 1 - 8)) (10 * a2 + ((b.toNat : Int) - 48))) := by
            have h := HNN.out
            rw [show i - 8 + 1 = i + 1 - 8 from by omega] at h
            exact h
          have PW := PS.out
          go_wp2_with fail
          go_region
          all_goals
            go_wp2_with fail
            go_roundw
            case rel => exact ⟨i + 1, a0, a1, _, by omega, by go_num, (three_set2 h3.drew _), by omega, by omega, by omega, by omega, by omega, by omega, m1, m2, m3, bset hbel.drew (Nat.le_refl _) _⟩
            case measure => simp [intOf]; omega
    · obtain rfl : i = 10 := by omega
      have v1 : num L1 0 = some a0 := by
        have h := n1.out
        rw [List.drop_of_length_le (by rw [K1.out]; omega)] at h
        exact h
      have v2 : num L2 0 = some a1 := by
        have h := n2.out
        rw [List.drop_of_length_le (by rw [K2.out]; omega)] at h
        exact h
      have v3 : num L3 0 = some a2 := by
        have h := n3.out
        rw [List.drop_of_length_le (by rw [K3.out]; omega)] at h
        exact h
      have hfin : Hid (prs s.data.toList = if a2 < 1 ∨ Cal.MD a0 a1 < a2 then (0, 15) else (Cal.day a0 a1 a2, 0)) := by
        show _ = _
        rw [hp.out]
        simp only [numB, numI, v1, v2, v3, Option.isSome_some, Option.getD_some]
        rw [if_pos (by simp)]
      clear v1 v2 v3 n1 n2 n3
      by_cases hv : a2 < 1 ∨ Cal.MD a0 a1 < a2
      · have hf2 : Hid (prs s.data.toList = (0, 15)) := by have h := hfin.out; rw [if_pos hv] at h; exact h
        have Hof := Lib.hid (fun W => rof_no a0 a1 a2 W (by omega) (by omega) hv)
        clear hv hfin
        go_wp2_with fail
        refine (Hof.out _).mono ?_
        rintro e w2 ⟨rfl, hb2⟩
        go_wp2_with fail
        go_ret2
        rw [hf2.out]
        exact ⟨rfl, bstep hbel hb2⟩
      · have hf2 : Hid (prs s.data.toList = (Cal.day a0 a1 a2, 0)) := by have h := hfin.out; rw [if_neg hv] at h; exact h
        have hV : Cal.Valid a0 a1 a2 := by
          unfold Cal.MD at hv
          by_cases g : 1900 ≤ a0 ∧ a0 ≤ 2199 ∧ 1 ≤ a1 ∧ a1 ≤ 12
          · rw [if_pos g] at hv; exact ⟨g.1, g.2.1, g.2.2.1, g.2.2.2, by omega, by omega⟩
          · rw [if_neg g] at hv; omega
        have Hof := Lib.hid (fun W => rof_yes a0 a1 a2 W hV)
        clear hv hfin hV
        go_wp2_with fail
        refine (Hof.out _).mono ?_
        rintro e w2 ⟨rfl, hb2⟩
        go_wp2_with fail
        go_ret2
        rw [hf2.out]
        exact ⟨rfl, bstep hbel hb2⟩

theorem rparse_any (s : ByteArray) (w : World) (hs : s.size ≤ 300) :
    Calls Tryd.prog 27 #[.string s] w fun e w' => e = .returned (.tuple #[.int .i64 (prs s.data.toList).1, .int .i64 (prs s.data.toList).2]) ∧ Below w.heap.size w w' := by
  by_cases h : s.data.toList.length ≠ 10 ∨ s.data.toList.getD 4 0 ≠ 45 ∨ s.data.toList.getD 7 0 ≠ 45
  · have hp : prs s.data.toList = (0, 3) := by unfold prs; rw [if_pos h]
    rw [hp]
    exact (rparse_form s w hs h).mono fun e w' hh => ⟨hh.1, hh.2 ▸ Below.refl _ _⟩
  · have h10 : s.size = 10 := by
      by_cases g : s.size = 10
      · exact g
      · exfalso; apply h; left; simpa using g
    have g4 := getD_str s 4 (by omega)
    have g7 := getD_str s 7 (by omega)
    rw [g4, g7] at h
    exact rparse_rest s w h10 (by by_cases g : s[4] = 45; exact g; exact absurd (.inr (.inl g)) h) (by by_cases g : s[7] = 45; exact g; exact absurd (.inr (.inr g)) h)
end Go.Proofs.YtncekfogdpkgmaaDoor.W
