/- The walks of the laws of debt that speak of sums. -/
import Derived.Test.YtbcdbheipfhoiaaLaws
namespace Go.Proofs.Ytbcdbheipfhoiaa.W
open Go.RowKit Go.Proofs.Ytbcdbheipfhoiaa.M

theorem stl_pos (o d : Int) (h0 : 0 ≤ o) (h1 : o ≤ 1125899906842624) (h2 : -1125899906842624 ≤ d) (h3 : d ≤ 1125899906842624) (h : o ≤ d) : stl o d = (0, d - o, 0) := by
  unfold stl; rw [if_neg (by omega), if_neg (by omega), if_pos (by omega)]
theorem stl_neg (o d : Int) (h0 : 0 ≤ o) (h1 : o ≤ 1125899906842624) (h2 : -1125899906842624 ≤ d) (h3 : d ≤ 1125899906842624) (h : d < o) (h5 : o - d ≤ 1125899906842624) : stl o d = (o - d, 0, 0) := by
  unfold stl; rw [if_neg (by omega), if_neg (by omega), if_neg (by omega), if_neg (by omega)]
  congr 1; omega

theorem rises (o d m : Int) (w : World) (_ho : -9223372036854775808 ≤ o ∧ o ≤ 9223372036854775807) (_hd : -9223372036854775808 ≤ d ∧ d ≤ 9223372036854775807) (_hm : -9223372036854775808 ≤ m ∧ m ≤ 9223372036854775807) :
    Calls Try.prog 3 #[.int .i64 o, .int .i64 d, .int .i64 m] w fun e w' => e = .returned (.bool true) ∧ Below w.heap.size w w' := by
  by_cases g : o < 0
  · go_enter Try.func3, Try.ntmps3
    go_wp2_with fail
    refine (awake_any _).mono ?_
    rintro e w3 ⟨rfl, hb3⟩
    go_wp2
    go_ret
    exact ⟨rfl, hb3⟩
  have g0 : ¬ (o < 0) := g
  clear g
  by_cases g : 1099511627776 < o
  · go_enter Try.func3, Try.ntmps3
    go_wp2_with fail
    refine (awake_any _).mono ?_
    rintro e w3 ⟨rfl, hb3⟩
    go_wp2
    go_ret
    exact ⟨rfl, hb3⟩
  have g1 : ¬ (1099511627776 < o) := g
  clear g
  by_cases g : 1099511627776 < d
  · go_enter Try.func3, Try.ntmps3
    go_wp2_with fail
    refine (awake_any _).mono ?_
    rintro e w3 ⟨rfl, hb3⟩
    go_wp2
    go_ret
    exact ⟨rfl, hb3⟩
  have g2 : ¬ (1099511627776 < d) := g
  clear g
  by_cases g : d < -1099511627776
  · go_enter Try.func3, Try.ntmps3
    go_wp2_with fail
    refine (awake_any _).mono ?_
    rintro e w3 ⟨rfl, hb3⟩
    go_wp2
    go_ret
    exact ⟨rfl, hb3⟩
  have g3 : ¬ (d < -1099511627776) := g
  clear g
  by_cases g : m < 0
  · go_enter Try.func3, Try.ntmps3
    go_wp2_with fail
    refine (awake_any _).mono ?_
    rintro e w3 ⟨rfl, hb3⟩
    go_wp2
    go_ret
    exact ⟨rfl, hb3⟩
  have g4 : ¬ (m < 0) := g
  clear g
  by_cases g : 1099511627776 < m
  · go_enter Try.func3, Try.ntmps3
    go_wp2_with fail
    refine (awake_any _).mono ?_
    rintro e w3 ⟨rfl, hb3⟩
    go_wp2
    go_ret
    exact ⟨rfl, hb3⟩
  have g5 : ¬ (1099511627776 < m) := g
  clear g
  by_cases c1 : o ≤ d
  · have H1 := Lib.hid (stl_pos o d (by omega) (by omega) (by omega) (by omega) c1)
    have H2 := Lib.hid (stl_pos o (d + m) (by omega) (by omega) (by omega) (by omega) (by omega))
    go_enter Try.func3, Try.ntmps3
    go_wp2_with fail
    refine (settle_to o d 0 (d - o) 0 _ (by omega) (by omega) H1.out).mono ?_
    rintro e w1 ⟨rfl, hb1⟩
    obtain ⟨hc1, hf1⟩ := bcell hb1
    have hz1 : w.heap.size < w1.heap.size := by have := hb1.size; simp at this; omega
    go_wp2_with fail
    refine (settle_to o (d + m) 0 (d + m - o) 0 _ (by omega) (by omega) H2.out).mono ?_
    rintro e w2 ⟨rfl, hb2⟩
    obtain ⟨hc2, hf2⟩ := bcell hb2
    have hz2 : w1.heap.size < w2.heap.size := by have := hb2.size; simp at this; omega
    go_wp2_with fail
    refine (awake_any _).mono ?_
    rintro e w3 ⟨rfl, hb3⟩
    obtain ⟨hc3, hf3⟩ := bcell hb3
    go_wp2
    go_ret
    exact ⟨ret_true (beq_iff_eq.2 (by omega)), bstep (balloc (bstep (balloc (bstep (balloc (Below.refl _ _) _) hb1) _) hb2) _) hb3⟩
  by_cases c2 : o ≤ d + m
  · have H1 := Lib.hid (stl_neg o d (by omega) (by omega) (by omega) (by omega) (by omega) (by omega))
    have H2 := Lib.hid (stl_pos o (d + m) (by omega) (by omega) (by omega) (by omega) (by omega))
    go_enter Try.func3, Try.ntmps3
    go_wp2_with fail
    refine (settle_to o d (o - d) 0 0 _ (by omega) (by omega) H1.out).mono ?_
    rintro e w1 ⟨rfl, hb1⟩
    obtain ⟨hc1, hf1⟩ := bcell hb1
    have hz1 : w.heap.size < w1.heap.size := by have := hb1.size; simp at this; omega
    go_wp2_with fail
    refine (settle_to o (d + m) 0 (d + m - o) 0 _ (by omega) (by omega) H2.out).mono ?_
    rintro e w2 ⟨rfl, hb2⟩
    obtain ⟨hc2, hf2⟩ := bcell hb2
    have hz2 : w1.heap.size < w2.heap.size := by have := hb2.size; simp at this; omega
    go_wp2_with fail
    refine (awake_any _).mono ?_
    rintro e w3 ⟨rfl, hb3⟩
    obtain ⟨hc3, hf3⟩ := bcell hb3
    go_wp2
    go_ret
    exact ⟨ret_true (beq_iff_eq.2 (by omega)), bstep (balloc (bstep (balloc (bstep (balloc (Below.refl _ _) _) hb1) _) hb2) _) hb3⟩
  · have H1 := Lib.hid (stl_neg o d (by omega) (by omega) (by omega) (by omega) (by omega) (by omega))
    have H2 := Lib.hid (stl_neg o (d + m) (by omega) (by omega) (by omega) (by omega) (by omega) (by omega))
    go_enter Try.func3, Try.ntmps3
    go_wp2_with fail
    refine (settle_to o d (o - d) 0 0 _ (by omega) (by omega) H1.out).mono ?_
    rintro e w1 ⟨rfl, hb1⟩
    obtain ⟨hc1, hf1⟩ := bcell hb1
    have hz1 : w.heap.size < w1.heap.size := by have := hb1.size; simp at this; omega
    go_wp2_with fail
    refine (settle_to o (d + m) (o - (d + m)) 0 0 _ (by omega) (by omega) H2.out).mono ?_
    rintro e w2 ⟨rfl, hb2⟩
    obtain ⟨hc2, hf2⟩ := bcell hb2
    have hz2 : w1.heap.size < w2.heap.size := by have := hb2.size; simp at this; omega
    go_wp2_with fail
    refine (awake_any _).mono ?_
    rintro e w3 ⟨rfl, hb3⟩
    obtain ⟨hc3, hf3⟩ := bcell hb3
    go_wp2
    go_ret
    exact ⟨ret_true (beq_iff_eq.2 (by omega)), bstep (balloc (bstep (balloc (bstep (balloc (Below.refl _ _) _) hb1) _) hb2) _) hb3⟩

theorem months (o a b : Int) (w : World) (_ho : -9223372036854775808 ≤ o ∧ o ≤ 9223372036854775807) (_hd : -9223372036854775808 ≤ a ∧ a ≤ 9223372036854775807) (_hm : -9223372036854775808 ≤ b ∧ b ≤ 9223372036854775807) :
    Calls Try.prog 7 #[.int .i64 o, .int .i64 a, .int .i64 b] w fun e w' => e = .returned (.bool true) ∧ Below w.heap.size w w' := by
  by_cases g : o < 0
  · go_enter Try.func7, Try.ntmps7
    go_wp2_with fail
    refine (awake_any _).mono ?_
    rintro e w3 ⟨rfl, hb3⟩
    go_wp2
    go_ret
    exact ⟨rfl, hb3⟩
  have g0 : ¬ (o < 0) := g
  clear g
  by_cases g : 1099511627776 < o
  · go_enter Try.func7, Try.ntmps7
    go_wp2_with fail
    refine (awake_any _).mono ?_
    rintro e w3 ⟨rfl, hb3⟩
    go_wp2
    go_ret
    exact ⟨rfl, hb3⟩
  have g1 : ¬ (1099511627776 < o) := g
  clear g
  by_cases g : 1099511627776 < a
  · go_enter Try.func7, Try.ntmps7
    go_wp2_with fail
    refine (awake_any _).mono ?_
    rintro e w3 ⟨rfl, hb3⟩
    go_wp2
    go_ret
    exact ⟨rfl, hb3⟩
  have g2 : ¬ (1099511627776 < a) := g
  clear g
  by_cases g : a < -1099511627776
  · go_enter Try.func7, Try.ntmps7
    go_wp2_with fail
    refine (awake_any _).mono ?_
    rintro e w3 ⟨rfl, hb3⟩
    go_wp2
    go_ret
    exact ⟨rfl, hb3⟩
  have g3 : ¬ (a < -1099511627776) := g
  clear g
  by_cases g : 1099511627776 < b
  · go_enter Try.func7, Try.ntmps7
    go_wp2_with fail
    refine (awake_any _).mono ?_
    rintro e w3 ⟨rfl, hb3⟩
    go_wp2
    go_ret
    exact ⟨rfl, hb3⟩
  have g4 : ¬ (1099511627776 < b) := g
  clear g
  by_cases g : b < -1099511627776
  · go_enter Try.func7, Try.ntmps7
    go_wp2_with fail
    refine (awake_any _).mono ?_
    rintro e w3 ⟨rfl, hb3⟩
    go_wp2
    go_ret
    exact ⟨rfl, hb3⟩
  have g5 : ¬ (b < -1099511627776) := g
  clear g
  obtain ⟨x, p, h1, e1, x0, x1, p0, p1⟩ : ∃ x p, stl o a = (x, p, 0) ∧ p - x = a - o ∧ 0 ≤ x ∧ x ≤ 2199023255552 ∧ 0 ≤ p ∧ p ≤ 2199023255552 := by
    by_cases c : o ≤ a
    · exact ⟨_, _, stl_pos o a (by omega) (by omega) (by omega) (by omega) c, by omega, by omega, by omega, by omega, by omega⟩
    · exact ⟨_, _, stl_neg o a (by omega) (by omega) (by omega) (by omega) (by omega) (by omega), by omega, by omega, by omega, by omega, by omega⟩
  obtain ⟨y, q, h2, e2, y0, y1, q0, q1⟩ : ∃ y q, stl x b = (y, q, 0) ∧ q - y = b - x ∧ 0 ≤ y ∧ y ≤ 4398046511104 ∧ 0 ≤ q ∧ q ≤ 4398046511104 := by
    by_cases c : x ≤ b
    · exact ⟨_, _, stl_pos x b (by omega) (by omega) (by omega) (by omega) c, by omega, by omega, by omega, by omega, by omega⟩
    · exact ⟨_, _, stl_neg x b (by omega) (by omega) (by omega) (by omega) (by omega) (by omega), by omega, by omega, by omega, by omega, by omega⟩
  obtain ⟨z, r, h3, e3, z0, z1, r0, r1⟩ : ∃ z r, stl o (a + b) = (z, r, 0) ∧ r - z = a + b - o ∧ 0 ≤ z ∧ z ≤ 4398046511104 ∧ 0 ≤ r ∧ r ≤ 4398046511104 := by
    by_cases c : o ≤ a + b
    · exact ⟨_, _, stl_pos o (a + b) (by omega) (by omega) (by omega) (by omega) c, by omega, by omega, by omega, by omega, by omega⟩
    · exact ⟨_, _, stl_neg o (a + b) (by omega) (by omega) (by omega) (by omega) (by omega) (by omega), by omega, by omega, by omega, by omega, by omega⟩
  have h4 : stl o 0 = (o, 0, 0) := by
    by_cases c : o = 0
    · subst c; decide
    · have h := stl_neg o 0 (by omega) (by omega) (by omega) (by omega) (by omega) (by omega)
      simpa using h
  have H1 := Lib.hid h1; clear h1
  have H2 := Lib.hid h2; clear h2
  have H3 := Lib.hid h3; clear h3
  have H4 := Lib.hid h4; clear h4
  have E : Hid (p + q - y = r - z) := by show p + q - y = r - z; omega
  clear e1 e2 e3
  go_enter Try.func7, Try.ntmps7
  go_wp2_with fail
  refine (settle_to o a x p 0 _ (by omega) (by omega) H1.out).mono ?_
  rintro e w1 ⟨rfl, hb1⟩
  obtain ⟨hc1, hf1⟩ := bcell hb1
  have hz1 : w.heap.size < w1.heap.size := by have := hb1.size; simp at this; omega
  go_wp2_with fail
  refine (settle_to x b y q 0 _ (by omega) (by omega) H2.out).mono ?_
  rintro e w2 ⟨rfl, hb2⟩
  obtain ⟨hc2, hf2⟩ := bcell hb2
  have hz2 : w1.heap.size < w2.heap.size := by have := hb2.size; simp at this; omega
  have hz2' : w.heap.size < w2.heap.size := by omega
  go_wp2_with fail
  refine (settle_to o (a + b) z r 0 _ (by omega) (by omega) H3.out).mono ?_
  rintro e w3 ⟨rfl, hb3⟩
  obtain ⟨hc3, hf3⟩ := bcell hb3
  have hz3 : w2.heap.size < w3.heap.size := by have := hb3.size; simp at this; omega
  have hz3' : w1.heap.size < w3.heap.size := by omega
  have hz3'' : w.heap.size < w3.heap.size := by omega
  go_wp2_with fail
  refine (settle_to o 0 o 0 0 _ (by omega) (by omega) H4.out).mono ?_
  rintro e w4 ⟨rfl, hb4⟩
  obtain ⟨hc4, hf4⟩ := bcell hb4
  have hz4 : w3.heap.size < w4.heap.size := by have := hb4.size; simp at this; omega
  have hz4a : w2.heap.size < w4.heap.size := by omega
  have hz4b : w1.heap.size < w4.heap.size := by omega
  have hz4c : w.heap.size < w4.heap.size := by omega
  go_wp2_with fail
  refine (awake_any _).mono ?_
  rintro e w5 ⟨rfl, hb5⟩
  obtain ⟨hc5, hf5⟩ := bcell hb5
  have hz5 : w4.heap.size < w5.heap.size := by have := hb5.size; simp at this; omega
  have E1 : (p + q - y == r - z) = true := beq_iff_eq.2 E.out
  go_wp2
  go_ret
  exact ⟨rfl, bstep (balloc (bstep (balloc (bstep (balloc (bstep (balloc (bstep (balloc (Below.refl _ _) _) hb1) _) hb2) _) hb3) _) hb4) _) hb5⟩

theorem chn_ok (xs : List Int) : ∀ (o : Int) (acc : List Int), 0 ≤ o → o ≤ 1125899906842624 → (∃ o' ps, chn xs o acc = (o', ps, 0)) ∨ chn xs o acc = (0, [], 9) := by
  induction xs with
  | nil => intro o acc _ _; exact .inl ⟨o, acc, rfl⟩
  | cons d r ih =>
    intro o acc h0 h1
    unfold chn
    rcases stl_cases o d h0 h1 with ⟨o', p, hs, hp⟩ | hs
    · rw [hs, if_pos rfl]; exact ih _ _ hp.1 hp.2.1
    · rw [hs, if_neg (by show ¬ ((9 : Int) = 0); decide)]; exact .inr rfl

theorem chn_step (d : Int) (r : List Int) (o : Int) (acc : List Int) (h0 : 0 ≤ o) (h1 : o ≤ 1125899906842624) (o2 : Int) (ps : List Int) (h : chn (d :: r) o acc = (o2, ps, 0)) :
    ∃ o' p, stl o d = (o', p, 0) ∧ chn r o' (acc ++ [p]) = (o2, ps, 0) ∧ 0 ≤ o' ∧ o' ≤ 1125899906842624 ∧ 0 ≤ p ∧ p ≤ 1125899906842624 ∧ p - o' = d - o ∧ (p = 0 ∨ o' = 0) ∧ -1125899906842624 ≤ d ∧ d ≤ 1125899906842624 := by
  unfold chn at h
  by_cases c : (stl o d).2.2 = 0
  · rw [if_pos c] at h
    unfold stl at c h ⊢
    rw [if_neg (by omega)] at c h ⊢
    by_cases c3 : d < -1125899906842624 ∨ 1125899906842624 < d
    · rw [if_pos c3] at c; exact absurd c (by show ¬ ((9 : Int) = 0); decide)
    rw [if_neg c3] at c h ⊢
    by_cases c5 : 0 ≤ d - o
    · rw [if_pos c5] at h ⊢
      exact ⟨_, _, rfl, h, by omega, by omega, by omega, by omega, by omega, .inr rfl, by omega, by omega⟩
    rw [if_neg c5] at c h ⊢
    by_cases c6 : 1125899906842624 < -(d - o)
    · rw [if_pos c6] at c; exact absurd c (by show ¬ ((9 : Int) = 0); decide)
    · rw [if_neg c6] at h ⊢
      exact ⟨_, _, rfl, h, by omega, by omega, by omega, by omega, by omega, .inl rfl, by omega, by omega⟩
  · rw [if_neg c] at h
    injection h with _ h
    injection h with _ h
    exact absurd h c

theorem sums (a : Option Addr) (n cap : Nat) (xs : List Int) (w : World) (hx : Ints .i64 w a n cap xs) (hb : ∀ x ∈ xs, -9223372036854775808 ≤ x ∧ x ≤ 9223372036854775807) :
    Calls Try.prog 6 #[.slice a n cap] w fun e w' => e = .returned (.bool true) ∧ Below w.heap.size w w' := by
  by_cases hbig : 100 < n
  · have hbig' : (100 : Int) < (n : Int) := by omega
    go_enter Try.func6, Try.ntmps6
    go_wp2_with fail
    refine (awake_any _).mono ?_
    rintro e w3 ⟨rfl, hb3⟩
    go_wp2
    go_ret
    exact ⟨rfl, hb3⟩
  have hbig' : ¬ (100 : Int) < (n : Int) := by omega
  have hl := hx.len
  have hch : chain xs = chn xs 0 [] := by unfold chain; rw [if_neg (by omega)]
  have hl' := Lib.hid hl; clear hl
  rcases chn_ok xs 0 [] (by omega) (by omega) with ⟨o2, ps, hok⟩ | hbad
  · have hr : chain xs = (o2, ps, 0) := hch.trans hok
    clear hch
    have Hok := Lib.hid hok; clear hok
    go_enter Try.func6, Try.ntmps6
    go_wp2_with fail
    refine (chain_any _ _ _ _ _ hx hb).mono ?_
    rw [hr]
    rintro e w1 ⟨a1, cap1, rfl, hI1, hb1⟩
    clear hr
    have hx1 := (hx.next hb1 (Nat.le_refl _))
    clear hx
    go_wp2_with fail
    go_loopw [7, 8, 37] (fun s7 s8 i wr => ∃ (k : Nat) (o su al : Int) (acc : List Int), k ≤ n ∧ i = .int .i64 k ∧ s7 = .int .i64 su ∧ s8 = .int .i64 al ∧ 0 ≤ o ∧ o ≤ 1125899906842624 ∧ Hid (chn (xs.drop k) o acc = (o2, ps, 0)) ∧ Hid (su - o = al) ∧
        0 ≤ su ∧ su ≤ k * 1125899906842624 ∧ -(k * 1125899906842624) ≤ al ∧ al ≤ k * 1125899906842624 ∧
        wr.cell? ⟨w1.heap.size + 1, 0, none⟩ = some (.int .i64 o) ∧ wr.frozen? ⟨w1.heap.size + 1, 0, none⟩ = false ∧ w1.heap.size + 1 < wr.heap.size ∧ Below w1.heap.size w1 wr)
      (fun _ _ i _ => n - (intOf i).toNat)
    case atStart =>
      refine ⟨0, 0, 0, 0, [], Nat.zero_le _, rfl, rfl, rfl, by omega, by omega, Hok, rfl, by omega, by omega, by omega, by omega, ?_, ?_, by simp, balloc (balloc (Below.refl _ _) _) _⟩
      · rw [World.cell?_alloc_at _ _ _ _ (by simp)]; rfl
      · exact World.frozen?_alloc_at _ _ _ _ (by simp)
    case round =>
      obtain ⟨k, o, su, al, acc, hk, rfl, rfl, rfl, ho0, ho1, hch, hsum, su0, su1, al0, al1, hc1, hf1, hsz, hbel⟩ := hrel
      by_cases hlt : k < n
      · obtain ⟨b, off, rfl, hbl, hcell⟩ := hx1.at_ hlt
        have hcr : wr.cell? ⟨b, off + k, none⟩ = some (.int .i64 (xs.getD k 0)) := bc hbel hbl hcell
        have hch1 := hch.out
        rw [drop_cons xs k (by rw [hl'.out]; exact hlt)] at hch1
        obtain ⟨o', p, hs, hch2, o0, o1, p0, p1, hpo, hz, d0, d1⟩ := chn_step _ _ _ _ ho0 ho1 _ _ hch1
        clear hch1 hch hcell
        have Hch2 := Lib.hid hch2; clear hch2
        generalize xs.getD k 0 = d at *
        have H := Lib.hid hs; clear hs
        have HS : Hid (su + p - o' = al + d) := by have := hsum.out; show su + p - o' = al + d; omega
        clear hpo
        have HZ := Lib.hid hz
        clear hz
        have b1 : su + p ≤ ((k + 1 : Nat) : Int) * 1125899906842624 := by omega
        have b2 : -(((k + 1 : Nat) : Int) * 1125899906842624) ≤ al + d := by omega
        have b3 : al + d ≤ ((k + 1 : Nat) : Int) * 1125899906842624 := by omega
        have b1' : su + p ≤ 1125899906842624000 := by omega
        have b2' : -1125899906842624000 ≤ al + d := by omega
        have b3' : al + d ≤ 1125899906842624000 := by omega
        have E1 : (su + p - o' != al + d) = false := bne_eq_false_iff_eq.2 HS.out
        rcases HZ.out with rfl | rfl
        all_goals
          go_wp2_with (go_at_call 10; refine (settle_to o d _ _ 0 _ (by omega) (by omega) H.out).mono ?_; rintro e w2 ⟨rfl, hb2⟩; obtain ⟨hc2, hf2⟩ := bcell hb2; have hz2 : w1.heap.size + 1 < w2.heap.size := Nat.lt_of_lt_of_le hsz hb2.size)
          all_goals
            go_roundw
            case rel =>
              refine ⟨k + 1, _, _, _, _, by omega, by go_num, rfl, rfl, by omega, by omega, Hch2, (by have := HS.out; show _ = _; omega), by omega, by omega, by omega, by omega, ?_, ?_, ?_, ?_⟩
              · rw [World.cell?_alloc_past _ _ _ (by simpa using hz2)]
                exact World.cell?_setCell_same _ _ _ (bc hb2 hsz hc1)
              · rw [World.frozen?_alloc_past _ _ _ (by simpa using hz2), World.frozen?_setCell]
                exact bf hb2 hsz hf1
              · simp; omega
              · exact balloc (bset (bstep hbel hb2) (Nat.le_succ _) _) _
            case measure => simp [intOf]; omega
      · go_wp2_with fail
        refine (awake_any _).mono ?_
        rintro e w2 ⟨rfl, hb2⟩
        go_wp2
        go_ret
        exact ⟨rfl, bstep (bstep hb1 hbel) hb2⟩
  · have hr : chain xs = (0, [], 9) := hch.trans hbad
    clear hch hbad
    go_enter Try.func6, Try.ntmps6
    go_wp2_with fail
    refine (chain_any _ _ _ _ _ hx hb).mono ?_
    rw [hr]
    rintro e w1 ⟨a1, cap1, rfl, hI1, hb1⟩
    clear hr
    go_wp2_with fail
    refine (awake_any _).mono ?_
    rintro e w2 ⟨rfl, hb2⟩
    go_wp2
    go_ret
    exact ⟨rfl, bstep (balloc hb1 _) hb2⟩

end Go.Proofs.Ytbcdbheipfhoiaa.W
