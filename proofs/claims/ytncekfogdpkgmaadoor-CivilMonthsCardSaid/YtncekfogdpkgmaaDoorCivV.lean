/- The walk of the reference's Add. -/
import Derived.Test.YtncekfogdpkgmaaDoorCivS
import Derived.Test.YtncekfogdpkgmaaDoorCivU
namespace Go.Proofs.YtncekfogdpkgmaaDoor.W
open Go.RowKit Go.Proofs.YtncekfogdpkgmaaDoor.M

/-- The cells of a date in a variable, and that it may be written. -/
def DateAt (wr : World) (B : Nat) (Y M k : Int) : Prop :=
  wr.cell? ⟨B, 0, none⟩ = some (.int .i64 Y) ∧ wr.cell? ⟨B, 1, none⟩ = some (.int .i64 M) ∧ wr.cell? ⟨B, 2, none⟩ = some (.int .i64 k) ∧ wr.frozen? ⟨B, 0, none⟩ = false ∧ wr.frozen? ⟨B, 1, none⟩ = false ∧ wr.frozen? ⟨B, 2, none⟩ = false ∧ B < wr.heap.size
theorem dateAt_new (w : World) (Y M k : Int) (T : TypeId) : DateAt (w.alloc (.cells #[.int .i64 Y, .int .i64 M, .int .i64 k] T)) w.heap.size Y M k :=
  ⟨by simp, by simp, by simp, World.frozen?_alloc_at _ _ _ _ rfl, World.frozen?_alloc_at _ _ _ _ rfl, World.frozen?_alloc_at _ _ _ _ rfl, by simp⟩
theorem DateAt.month {wr : World} {B : Nat} {Y M k : Int} (h : DateAt wr B Y M k) (M' : Int) : DateAt (wr.setCell ⟨B, 1, none⟩ (.int .i64 M')) B Y M' k := by
  obtain ⟨h0, h1, h2, f0, f1, f2, hz⟩ := h
  exact ⟨(World.cell?_setCell_other _ _ _ _ (by simp)).trans h0, World.cell?_setCell_same _ _ _ h1, (World.cell?_setCell_other _ _ _ _ (by simp)).trans h2, by simpa using f0, by simpa using f1, by simpa using f2, by simpa using hz⟩
theorem DateAt.year {wr : World} {B : Nat} {Y M k : Int} (h : DateAt wr B Y M k) (Y' : Int) : DateAt (wr.setCell ⟨B, 0, none⟩ (.int .i64 Y')) B Y' M k := by
  obtain ⟨h0, h1, h2, f0, f1, f2, hz⟩ := h
  exact ⟨World.cell?_setCell_same _ _ _ h0, (World.cell?_setCell_other _ _ _ _ (by simp)).trans h1, (World.cell?_setCell_other _ _ _ _ (by simp)).trans h2, by simpa using f0, by simpa using f1, by simpa using f2, by simpa using hz⟩

theorem addm_low (y m k n Y M : Int) (h : 12 * Y + M + 0 = 12 * y + m + n) (M1 : M ≤ 12) (c : Y < 1900) : addm y m k n = -25567 := by
  unfold addm; simp only; rw [if_pos (by omega)]
theorem addm_high (y m k n Y M : Int) (h : 12 * Y + M + 0 = 12 * y + m + n) (M0 : 1 ≤ M) (c : 2199 < Y) : addm y m k n = 84005 := by
  unfold addm; simp only; rw [if_neg (by omega), if_pos (by omega)]
theorem addm_mid (y m k n Y M : Int) (h : 12 * Y + M + 0 = 12 * y + m + n) (M0 : 1 ≤ M) (M1 : M ≤ 12) (c0 : 1900 ≤ Y) (c1 : Y ≤ 2199) : addm y m k n = Cal.day Y M (if Cal.len Y M < k then Cal.len Y M else k) := by
  unfold addm; simp only; rw [if_neg (by omega), if_neg (by omega)]
  rw [show 1900 + (12 * (y - 1900) + m - 1 + n) / 12 = Y from by omega, show (12 * (y - 1900) + m - 1 + n) % 12 + 1 = M from by omega]

set_option maxHeartbeats 2000000 in
theorem radd_mid (d n y m k : Int) (w : World) (hv : Cal.Valid y m k) (hd : Cal.day y m k = d) (n0 : -4000 ≤ n) (n1 : n ≤ 4000) :
    Calls Tryd.prog 24 #[.int .i64 d, .int .i64 n] w fun e w' => e = .returned (.int .i64 (addm y m k n)) ∧ Below w.heap.size w w' := by
  have hto := Lib.hid (rto d y m k w hv hd)
  obtain ⟨y0, y1, m0, m1, k0, k1⟩ := hv
  have HD := Lib.hid hd
  clear hd
  go_enter Tryd.func24, Tryd.ntmps24
  go_wp2_with fail
  refine hto.out.mono ?_
  clear hto
  rintro e w1 ⟨rfl, hb1⟩
  go_wp2_with fail
  go_loopw [1] (fun s wr => ∃ (a Y M : Int), s = .int .i64 a ∧ -4000 ≤ a ∧ a ≤ 4000 ∧ Hid (12 * Y + M + a = 12 * y + m + n) ∧ 1 ≤ M ∧ M ≤ 12 ∧ DateAt wr w1.heap.size Y M k ∧ Below w1.heap.size w1 wr)
    (fun s _ => (intOf s).toNat)
  case atStart => exact ⟨n, y, m, rfl, by omega, by omega, rfl, m0, m1, dateAt_new _ _ _ _ _, balloc (Below.refl _ _) _⟩
  case round =>
    obtain ⟨a, Y, M, rfl, a0, a1, HE, M0, M1, hdt, hbel⟩ := hrel
    have Y0 : 1200 ≤ Y := by have := HE.out; omega
    have Y1 : Y ≤ 3000 := by have := HE.out; omega
    have hdt' := hdt
    obtain ⟨hc0, hc1, hc2, hf0, hf1, hf2, hsz⟩ := hdt'
    by_cases c : 0 < a
    · by_cases c13 : M = 12
      · subst c13
        have HE' : Hid (12 * (Y + 1) + 1 + (a - 1) = 12 * y + m + n) := by have := HE.out; show _ = _; omega
        go_wp2_with fail
        go_roundw
        case rel => exact ⟨a - 1, Y + 1, 1, rfl, by omega, by omega, HE', by omega, by omega, ((hdt.month _).year _).month _, bset (bset (bset hbel (Nat.le_refl _) _) (Nat.le_refl _) _) (Nat.le_refl _) _⟩
        case measure => simp [intOf]; omega
      · have e13 : (M + 1 == 13) = false := beq_eq_false_iff_ne.2 (by omega)
        have HE' : Hid (12 * Y + (M + 1) + (a - 1) = 12 * y + m + n) := by have := HE.out; show _ = _; omega
        go_wp2_with fail
        go_roundw
        case rel => exact ⟨a - 1, Y, M + 1, rfl, by omega, by omega, HE', by omega, by omega, hdt.month _, bset hbel (Nat.le_refl _) _⟩
        case measure => simp [intOf]; omega
    · go_wp2_with fail
      go_loopw [1] (fun s wr => ∃ (a Y M : Int), s = .int .i64 a ∧ -4000 ≤ a ∧ a ≤ 0 ∧ Hid (12 * Y + M + a = 12 * y + m + n) ∧ 1 ≤ M ∧ M ≤ 12 ∧ DateAt wr w1.heap.size Y M k ∧ Below w1.heap.size w1 wr)
        (fun s _ => (-(intOf s)).toNat)
      case atStart => exact ⟨a, Y, M, rfl, by omega, by omega, HE, M0, M1, hdt, hbel⟩
      case round =>
        clear hdt hc0 hc1 hc2 hf0 hf1 hf2 hsz hbel HE M0 M1 Y0 Y1 a0 a1 c
        obtain ⟨a, Y, M, rfl, a0, a1, HE, M0, M1, hdt, hbel⟩ := hrel
        have Y0 : 1200 ≤ Y := by have := HE.out; omega
        have Y1 : Y ≤ 3000 := by have := HE.out; omega
        have hdt' := hdt
        obtain ⟨hc0, hc1, hc2, hf0, hf1, hf2, hsz⟩ := hdt'
        by_cases c : a < 0
        · by_cases c13 : M = 1
          · subst c13
            have HE' : Hid (12 * (Y - 1) + 12 + (a + 1) = 12 * y + m + n) := by have := HE.out; show _ = _; omega
            go_wp2_with fail
            go_roundw
            case rel => exact ⟨a + 1, Y - 1, 12, rfl, by omega, by omega, HE', by omega, by omega, ((hdt.month _).year _).month _, bset (bset (bset hbel (Nat.le_refl _) _) (Nat.le_refl _) _) (Nat.le_refl _) _⟩
            case measure => simp [intOf]; omega
          · have e13 : (M - 1 == 0) = false := beq_eq_false_iff_ne.2 (by omega)
            have HE' : Hid (12 * Y + (M - 1) + (a + 1) = 12 * y + m + n) := by have := HE.out; show _ = _; omega
            go_wp2_with fail
            go_roundw
            case rel => exact ⟨a + 1, Y, M - 1, rfl, by omega, by omega, HE', by omega, by omega, hdt.month _, bset hbel (Nat.le_refl _) _⟩
            case measure => simp [intOf]; omega
        obtain rfl : a = 0 := by omega
        by_cases g1 : Y < 1900
        · have hr := Lib.hid (addm_low y m k n Y M HE.out M1 g1)
          go_wp2_with fail
          go_ret
          exact ⟨ret_int hr.out.symm, hb1.trans (hbel.mono hb1.size)⟩
        by_cases g2 : 2199 < Y
        · have hr := Lib.hid (addm_high y m k n Y M HE.out M0 g2)
          go_wp2_with fail
          go_ret
          exact ⟨ret_int hr.out.symm, hb1.trans (hbel.mono hb1.size)⟩
        have hlb := Cal.len_bd Y M
        obtain ⟨K, hK⟩ : ∃ K, (if Cal.len Y M < k then Cal.len Y M else k) = K := ⟨_, rfl⟩
        have hr : Hid (addm y m k n = Cal.day Y M K) := by
          have h := addm_mid y m k n Y M HE.out M0 M1 (by omega) (by omega)
          rw [hK] at h; exact h
        have hV : Cal.Valid Y M K := ⟨by omega, by omega, M0, M1, by rw [← hK]; split <;> omega, by rw [← hK]; split <;> omega⟩
        go_wp2_with fail
        clear hdt HE HD a0 a1 c y0 y1 m0 m1 k0 k1 n0 n1 Y0 Y1
        have HBEL := Lib.hid hbel; clear hbel
        have HB1 := Lib.hid hb1; clear hb1
        go_region_with (go_at_call 15; refine (rmonth_len _ _ _ (by omega) (by omega) M0 M1).mono ?_; rintro e w2 ⟨rfl, hb2⟩; have e0 := bc (below_drew' hb2) hsz hc0; have e1 := bc (below_drew' hb2) hsz hc1; have e2 := bc (below_drew' hb2) hsz hc2; have e3 := bf (below_drew' hb2) hsz hf0; have e4 := bf (below_drew' hb2) hsz hf1; have e5 := bf (below_drew' hb2) hsz hf2)
        all_goals
          go_wp2_with (go_at_call 13; refine (rof_yes _ _ _ _ hV).mono ?_; rintro e w3 ⟨rfl, hb3⟩)
          go_ret
          exact ⟨ret_int hr.out.symm, bstep (bset (bstep (bstep HB1.out HBEL.out) (below_drew' hb2)) HB1.out.size _) hb3⟩

theorem radd (d n y m k : Int) (w : World) (hv : Cal.Valid y m k) (hd : Cal.day y m k = d) (_hn : -9223372036854775808 ≤ n ∧ n ≤ 9223372036854775807) :
    Calls Tryd.prog 24 #[.int .i64 d, .int .i64 n] w fun e w' => e = .returned (.int .i64 (addm y m k n)) ∧ Below w.heap.size w w' := by
  by_cases g0 : -4000 ≤ n ∧ n ≤ 4000
  · exact radd_mid d n y m k w hv hd g0.1 g0.2
  have hto := Lib.hid (rto d y m k w hv hd)
  obtain ⟨y0, y1, m0, m1, k0, k1⟩ := hv
  have HD := Lib.hid hd
  clear hd
  by_cases g1 : 4000 < n
  · have hr : addm y m k n = 84005 := by unfold addm; simp only; rw [if_neg (by omega), if_pos (by omega)]
    rw [hr]; clear hr g0
    go_enter Tryd.func24, Tryd.ntmps24
    go_wp2_with fail
    refine hto.out.mono ?_
    rintro e w1 ⟨rfl, hb1⟩
    go_wp2_with fail
    go_ret
    exact ⟨rfl, balloc hb1 _⟩
  · have g2 : n < -4000 := by omega
    have hr : addm y m k n = -25567 := by unfold addm; simp only; rw [if_pos (by omega)]
    rw [hr]; clear hr g0
    go_enter Tryd.func24, Tryd.ntmps24
    go_wp2_with fail
    refine hto.out.mono ?_
    rintro e w1 ⟨rfl, hb1⟩
    go_wp2_with fail
    go_ret
    exact ⟨rfl, balloc hb1 _⟩
end Go.Proofs.YtncekfogdpkgmaaDoor.W
