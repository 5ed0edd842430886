/- Which fact is in force on a day: its place, its value. -/
import Derived.Test.YtbnjgbllenndaaaGreatDoorTkL
import Derived.BigQuiet
namespace Go.Proofs.YtbnjgbllenndaaaGreatDoor.W
open Go.RowKit Go.Proofs.YtbnjgbllenndaaaGreatDoor.M Go.Proofs.YtbnjgbllenndaaaGreatDoor.S
set_option linter.unusedVariables false

theorem lst_known {xs : List (Nat × Fc)} {W : World} {a : Option Addr} (hl : Lst 9 W a xs.length (fun j => kcl (xs.getD j (0, can 0)))) {q : Nat} (hq : q < xs.length) : ∃ b o, a = some ⟨b, o, none⟩ ∧ b < W.heap.size ∧ W.cell? ⟨b, o + q * 9, none⟩ = some (.int .i64 ((xs.getD q (0, can 0)).1 : Int)) ∧ W.cell? ⟨b, o + q * 9 + 1, none⟩ = some (.int .u32 0) ∧ W.cell? ⟨b, o + q * 9 + 2, none⟩ = some (.int .u32 (xs.getD q (0, can 0)).2.per) ∧ W.cell? ⟨b, o + q * 9 + 3, none⟩ = some (.int .i64 (xs.getD q (0, can 0)).2.kind) ∧ W.cell? ⟨b, o + q * 9 + 4, none⟩ = some (.int .i64 (xs.getD q (0, can 0)).2.fr) ∧ W.cell? ⟨b, o + q * 9 + 5, none⟩ = some (.int .i64 (xs.getD q (0, can 0)).2.en) ∧ W.cell? ⟨b, o + q * 9 + 6, none⟩ = some (.string ⟨#[]⟩) ∧ W.cell? ⟨b, o + q * 9 + 7, none⟩ = some (.int .i64 (xs.getD q (0, can 0)).2.num) ∧ W.cell? ⟨b, o + q * 9 + 8, none⟩ = some (.string ⟨#[]⟩) := by
  obtain ⟨b, o, rfl, hlt, hc⟩ := hl.at_ hq
  exact ⟨b, o, rfl, hlt, hc 0 _ rfl, hc 1 _ rfl, hc 2 _ rfl, hc 3 _ rfl, hc 4 _ rfl, hc 5 _ rfl, hc 6 _ rfl, hc 7 _ rfl, hc 8 _ rfl⟩
/-- The last one in force of a list. -/
def lasts (xs : List (Nat × Fc)) (d : Int) (n : Nat) : Int := lastc (fun j => (xs.getD j (0, can 0)).2) d n
theorem lasts_next (xs : List (Nat × Fc)) (d : Int) (q : Nat) : lasts xs d (q + 1) = if cov (xs.getD q (0, can 0)).2 d then (q : Int) else lasts xs d q := rfl
theorem rise {xs : List (Nat × Fc)} (h : xs.Pairwise (fun x y => x.1 < y.1)) {p q : Nat} (hpq : p < q) (hq : q < xs.length) : (xs.getD p (0, can 0)).1 < (xs.getD q (0, can 0)).1 := by
  have h1 := List.pairwise_iff_getElem.1 h p q (by omega) hq hpq
  rw [List.getD_eq_getElem?_getD, List.getD_eq_getElem?_getD, List.getElem?_eq_getElem hq, List.getElem?_eq_getElem (show p < xs.length by omega)]
  exact h1

set_option maxRecDepth 100000 in
set_option maxHeartbeats 4000000 in
theorem placed_is (xs : List (Nat × Fc)) (hx : xs.length ≤ 100) (hup : xs.Pairwise (fun x y => x.1 < y.1)) (a : Option Addr) (cap : Nat) (d : Int) (W : World) (hl : Lst 9 W a xs.length (fun j => kcl (xs.getD j (0, can 0)))) :
    Calls Tryz.prog 19 #[.agg #[.slice a xs.length cap], .int .i64 d] W fun e w' => e = .returned (.int .i64 (lasts xs d xs.length)) ∧ Below W.heap.size W w' := by
  have hB0 := balloc (Below.refl W.heap.size W) (.cells #[.slice a xs.length cap] 44)
  have x0 : (W.alloc (.cells #[.slice a xs.length cap] 44)).cell? ⟨W.heap.size, 0, none⟩ = some (.slice a xs.length cap) := by simp
  have xl : W.heap.size < (W.alloc (.cells #[.slice a xs.length cap] 44)).heap.size := by simp
  have HL := Lib.hid hl
  have HRI := Lib.hid (fun p q hpq hq => rise hup (p := p) (q := q) hpq hq)
  have HK := Lib.hid (fun (w : World) (h : Lst 9 w a xs.length (fun j => kcl (xs.getD j (0, can 0)))) q hq => lst_known h (q := q) hq)
  have HBD := Lib.hid (fun q => lastc_bd (fun j => (xs.getD j (0, can 0)).2) d q)
  have HNX := Lib.hid (fun q => lasts_next xs d q)
  obtain ⟨n, hn⟩ : ∃ n, xs.length = n := ⟨_, rfl⟩
  have HN := Lib.hid hn
  rw [hn] at hx hB0 x0 xl HL HRI HK ⊢
  clear hn hl hup
  go_enter Tryz.func19, Tryz.ntmps19
  go_wp2_with fail
  generalize W.alloc (.cells #[.slice a n cap] 44) = X at *
  have HX := Lib.hid (And.intro x0 (And.intro xl hB0))
  clear x0 xl hB0
  go_loopw [5, 11] (fun s5 s11 wx => ∃ q : Nat, q ≤ n ∧ s11 = .int .i64 q ∧ s5 = .int .i64 (lasts xs d q) ∧ Hid (Below X.heap.size X wx)) (fun _ s11 _ => n - (intOf s11).toNat)
  case atStart => exact ⟨0, Nat.zero_le _, rfl, rfl, Below.refl _ _⟩
  case round =>
    obtain ⟨q, hq, rfl, rfl, hbw⟩ := hrel
    have hWw : Hid (Below W.heap.size W wr) := bstep HX.out.2.2 hbw.out
    have hb3 := HBD.out q
    change -1 ≤ lasts xs d q ∧ lasts xs d q < (q : Int) ∧ (lasts xs d q < 0 → lasts xs d q = -1) at hb3
    have hnx := HNX.out q
    obtain ⟨at', hat⟩ : ∃ z, lasts xs d q = z := ⟨_, rfl⟩
    have HAT := Lib.hid hat
    rw [hat] at hb3 hnx ⊢
    clear hat
    by_cases cq : q < n
    · have cq' : (q : Int) < (n : Int) := by omega
      have wq : IntKind.i64.wrap ((q : Int) + 1) = (q : Int) + 1 := IntWalk.i64_in _ (by omega)
      obtain ⟨b, o, rfl, hlt, d0, d1, d2, d3, d4, d5, d6, d7, d8⟩ := HK.out wr (HL.out.step hWw.out) q cq
      have hri := fun p hp => HRI.out p q hp cq
      obtain ⟨x, hxe⟩ : ∃ x, xs.getD q (0, can 0) = x := ⟨_, rfl⟩
      rw [hxe] at d0 d2 d3 d4 d5 d7 hnx
      simp only [hxe] at hri
      clear hxe
      obtain ⟨N, per, kind, fr, en, num⟩ := x
      simp only at d0 d2 d3 d4 d5 d7 hnx hri
      have hA0 := balloc (Below.refl wr.heap.size wr) (.cells #[.int .i64 (N : Int), .int .u32 0, .int .u32 per, .int .i64 kind, .int .i64 fr, .int .i64 en, .string ⟨#[]⟩, .int .i64 num, .string ⟨#[]⟩] 58)
      have v0 : (wr.alloc (.cells #[.int .i64 (N : Int), .int .u32 0, .int .u32 per, .int .i64 kind, .int .i64 fr, .int .i64 en, .string ⟨#[]⟩, .int .i64 num, .string ⟨#[]⟩] 58)).cell? ⟨wr.heap.size, 0, none⟩ = some (.int .i64 (N : Int)) := by simp
      have v4 : (wr.alloc (.cells #[.int .i64 (N : Int), .int .u32 0, .int .u32 per, .int .i64 kind, .int .i64 fr, .int .i64 en, .string ⟨#[]⟩, .int .i64 num, .string ⟨#[]⟩] 58)).cell? ⟨wr.heap.size, 4, none⟩ = some (.int .i64 fr) := by simp
      have v5 : (wr.alloc (.cells #[.int .i64 (N : Int), .int .u32 0, .int .u32 per, .int .i64 kind, .int .i64 fr, .int .i64 en, .string ⟨#[]⟩, .int .i64 num, .string ⟨#[]⟩] 58)).cell? ⟨wr.heap.size, 5, none⟩ = some (.int .i64 en) := by simp
      have vx := bc hA0 (Nat.lt_of_lt_of_le HX.out.2.1 hbw.out.size) (bc hbw.out HX.out.2.1 HX.out.1)
      have hz := Lib.hid (balloc hbw.out (.cells #[.int .i64 (N : Int), .int .u32 0, .int .u32 per, .int .i64 kind, .int .i64 fr, .int .i64 en, .string ⟨#[]⟩, .int .i64 num, .string ⟨#[]⟩] 58))
      have HV := Lib.hid (And.intro v0 (And.intro v4 (And.intro v5 vx)))
      have HLV := Lib.hid ((HL.out.step hWw.out).step hA0)
      clear v0 v4 v5 vx hA0
      have hcv : cov ⟨per, kind, fr, en, num⟩ d ↔ (fr ≤ d ∧ (en = 0 ∨ d < en)) := Iff.rfl
      go_upto_region 5 with fail
      clear d0 d1 d2 d3 d4 d5 d6 d7 d8
      generalize wr.alloc (.cells #[.int .i64 (N : Int), .int .u32 0, .int .u32 per, .int .i64 kind, .int .i64 fr, .int .i64 en, .string ⟨#[]⟩, .int .i64 num, .string ⟨#[]⟩] 58) = V at *
      obtain ⟨P, hP⟩ : ∃ m, wr.heap.size = m := ⟨_, rfl⟩
      rw [hP] at HV ⊢
      clear hP
      by_cases c1 : fr ≤ d
      · have e1 : decide (fr ≤ d) = true := decide_eq_true c1
        by_cases hcc : en = 0 ∨ d < en
        · rw [if_pos (hcv.2 ⟨c1, hcc⟩)] at hnx
          have HNE := Lib.hid hnx
          clear hnx hcv
          have hcase : (at' < 0) ∨ ∃ p : Nat, at' = (p : Int) ∧ p < q := by
            rcases Int.lt_or_le at' 0 with h | h
            · exact .inl h
            · exact .inr ⟨at'.toNat, by omega, by omega⟩
          rcases hcase with h1 | ⟨p, rfl, hpq⟩
          · have e3 : decide (at' < 0) = true := decide_eq_true h1
            clear h1 hb3 hri
            by_cases h0 : en = 0
            · subst h0
              clear hcc c1
              obtain ⟨v0, v4, v5, vx⟩ := HV.out
              go_quiet (fail)
              have hzq := Lib.hid (below_drewN hz.out nq)
              clear v0 v4 v5 vx
              go_wp2_with fail
              go_roundw
              case rel => exact ⟨q + 1, by omega, by go_num, by rw [HNE.out], hzq.out⟩
              case measure => simp [intOf]; omega
            · have e2 : (en == 0) = false := by rw [beq_eq_false_iff_ne]; exact h0
              have e4 : decide (d < en) = true := decide_eq_true (by rcases hcc with h | h; · exact absurd h h0
                                                                     · exact h)
              clear hcc c1 h0
              obtain ⟨v0, v4, v5, vx⟩ := HV.out
              go_quiet (fail)
              have hzq := Lib.hid (below_drewN hz.out nq)
              clear v0 v4 v5 vx
              go_wp2_with fail
              go_roundw
              case rel => exact ⟨q + 1, by omega, by go_num, by rw [HNE.out], hzq.out⟩
              case measure => simp [intOf]; omega
          · have e3 : decide ((p : Int) < 0) = false := decide_eq_false (by omega)
            have hpn : (p : Int) < (n : Int) := by omega
            have hNp := hri p hpq
            obtain ⟨b', o', heq, _, k0, _⟩ := HK.out V HLV.out p (by omega)
            injection heq with heq
            injection heq with hb1 ho1
            subst hb1 ho1
            obtain ⟨M, hM⟩ : ∃ M, (xs.getD p (0, can 0)).1 = M := ⟨_, rfl⟩
            rw [hM] at hNp k0
            have e5 : decide (M < N) = true := decide_eq_true hNp
            clear hM hNp hri hb3 hpq
            by_cases h0 : en = 0
            · subst h0
              clear hcc c1
              obtain ⟨v0, v4, v5, vx⟩ := HV.out
              go_quiet (fail)
              have hzq := Lib.hid (below_drewN hz.out nq)
              clear v0 v4 v5 vx
              go_wp2_with fail
              go_roundw
              case rel => exact ⟨q + 1, by omega, by go_num, by rw [HNE.out], hzq.out⟩
              case measure => simp [intOf]; omega
            · have e2 : (en == 0) = false := by rw [beq_eq_false_iff_ne]; exact h0
              have e4 : decide (d < en) = true := decide_eq_true (by rcases hcc with h | h; · exact absurd h h0
                                                                     · exact h)
              clear hcc c1 h0
              obtain ⟨v0, v4, v5, vx⟩ := HV.out
              go_quiet (fail)
              have hzq := Lib.hid (below_drewN hz.out nq)
              clear v0 v4 v5 vx
              go_wp2_with fail
              go_roundw
              case rel => exact ⟨q + 1, by omega, by go_num, by rw [HNE.out], hzq.out⟩
              case measure => simp [intOf]; omega
        · rw [if_neg (fun h => hcc (hcv.1 h).2)] at hnx
          have HNE := Lib.hid hnx
          have h0 : ¬ en = 0 := fun h => hcc (.inl h)
          have h1 : ¬ d < en := fun h => hcc (.inr h)
          have e2 : (en == 0) = false := by rw [beq_eq_false_iff_ne]; exact h0
          have e4 : decide (d < en) = false := decide_eq_false h1
          clear hnx hcv hcc c1 h0 h1 hb3 hri
          obtain ⟨v0, v4, v5, vx⟩ := HV.out
          go_quiet (fail)
          have hzq := Lib.hid (below_drewN hz.out nq)
          clear v0 v4 v5 vx
          go_wp2_with fail
          go_roundw
          case rel => exact ⟨q + 1, by omega, by go_num, by rw [HNE.out], hzq.out⟩
          case measure => simp [intOf]; omega
      · have e1 : decide (fr ≤ d) = false := decide_eq_false c1
        rw [if_neg (fun h => c1 (hcv.1 h).1)] at hnx
        have HNE := Lib.hid hnx
        clear hnx hcv c1 hb3 hri
        obtain ⟨v0, v4, v5, vx⟩ := HV.out
        go_quiet (fail)
        have hzq := Lib.hid (below_drewN hz.out nq)
        clear v0 v4 v5 vx
        go_wp2_with fail
        go_roundw
        case rel => exact ⟨q + 1, by omega, by go_num, by rw [HNE.out], hzq.out⟩
        case measure => simp [intOf]; omega
    · obtain rfl : q = n := by omega
      have cq' : ¬ (q : Int) < (q : Int) := by omega
      clear hnx hb3
      go_wp2_with fail
      go_ret
      exact ⟨ret_int HAT.out.symm, hWw.out⟩
end Go.Proofs.YtbnjgbllenndaaaGreatDoor.W
