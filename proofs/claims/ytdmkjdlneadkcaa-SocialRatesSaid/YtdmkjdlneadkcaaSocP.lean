/- The walk of SocialParts. -/
import Derived.Test.YtdmkjdlneadkcaaSocD
import Derived.Test.YtdmkjdlneadkcaaSocLP
namespace Go.Proofs.Ytdmkjdlneadkcaa.W
open Go.RowKit Go.Proofs.Ytdmkjdlneadkcaa.M Go.Proofs.Ytdmkjdlneadkcaa.B Go.Proofs.Ytdmkjdlneadkcaa.S
set_option linter.unusedVariables false

theorem i64_rgt {b i w f : Int} (h : rgt b i w f) : I64 b ∧ I64 i ∧ I64 w ∧ I64 f := by
  obtain ⟨h1, h2, h3, h4⟩ := h
  unfold fit at h1
  unfold amt at h2 h3 h4
  exact ⟨⟨by omega, by omega⟩, ⟨by omega, by omega⟩, ⟨by omega, by omega⟩, ⟨by omega, by omega⟩⟩

set_option maxHeartbeats 2000000 in
theorem socialParts (b i w f : Int) (s : ByteArray) (wr fr ce x y : Int) (W : World) (hb : I64 b) (hi : I64 i) (hw : I64 w) (hf : I64 f) (hs : s.size ≤ 9223372036854775807) (h0 : I64 wr) (h1 : I64 fr) (h2 : I64 ce) (hx : I64 x) (hy : I64 y) :
    Calls Try.prog 7 #[.agg #[.int .i64 b, .int .i64 i, .int .i64 w, .int .i64 f], .agg #[.string s, .int .i64 wr, .int .i64 fr, .int .i64 ce], .int .i64 x, .int .i64 y] W fun e w' => e = .returned (.bool true) ∧ Below W.heap.size W w' := by
  have hb0 : Below W.heap.size W ((W.alloc (.cells #[.int .i64 b, .int .i64 i, .int .i64 w, .int .i64 f] 24)).alloc (.cells #[.string s, .int .i64 wr, .int .i64 fr, .int .i64 ce] 27)) := balloc (balloc (Below.refl _ _) _) _

  by_cases big : 300 < s.size
  · have big' : (300 : Int) < (s.size : Int) := by omega
    go_enter Try.func7, Try.ntmps7
    go_wp2_with fail
    refine (awake_any _).mono ?_
    rintro e w1 ⟨rfl, hb1⟩
    obtain ⟨hc, hff⟩ := bcell hb1
    go_wp2_with fail
    go_ret
    exact ⟨rfl, bstep hb0 hb1⟩
  have big' : ¬ (300 : Int) < (s.size : Int) := by omega
  by_cases ax : x < 0
  · go_enter Try.func7, Try.ntmps7
    go_wp2_with fail
    refine (awake_any _).mono ?_
    rintro e w1 ⟨rfl, hb1⟩
    obtain ⟨hc, hff⟩ := bcell hb1
    go_wp2_with fail
    go_ret
    exact ⟨rfl, bstep hb0 hb1⟩
  by_cases ay : y < 0
  · go_enter Try.func7, Try.ntmps7
    go_wp2_with fail
    refine (awake_any _).mono ?_
    rintro e w1 ⟨rfl, hb1⟩
    obtain ⟨hc, hff⟩ := bcell hb1
    go_wp2_with fail
    go_ret
    exact ⟨rfl, bstep hb0 hb1⟩
  by_cases tx : 1099511627776 < x
  · go_enter Try.func7, Try.ntmps7
    go_wp2_with fail
    refine (awake_any _).mono ?_
    rintro e w1 ⟨rfl, hb1⟩
    obtain ⟨hc, hff⟩ := bcell hb1
    go_wp2_with fail
    go_ret
    exact ⟨rfl, bstep hb0 hb1⟩
  by_cases ty : 1099511627776 < y
  · go_enter Try.func7, Try.ntmps7
    go_wp2_with fail
    refine (awake_any _).mono ?_
    rintro e w1 ⟨rfl, hb1⟩
    obtain ⟨hc, hff⟩ := bcell hb1
    go_wp2_with fail
    go_ret
    exact ⟨rfl, bstep hb0 hb1⟩
  obtain ⟨q, hq⟩ : ∃ q, sstep b i w f s.data.toList wr fr ce x = q := ⟨_, rfl⟩
  obtain ⟨⟨B, I, Wk, F⟩, k⟩ := q
  obtain ⟨B0, I0, W0, F0⟩ := i64_rgt (sstep_rgt hq)
  obtain ⟨q2, hq2⟩ : ∃ q, sstep B I Wk F s.data.toList wr fr ce y = q := ⟨_, rfl⟩
  obtain ⟨⟨B2, I2, Wk2, F2⟩, k2⟩ := q2
  obtain ⟨q3, hq3⟩ : ∃ q, sstep b i w f s.data.toList wr fr ce (x + y) = q := ⟨_, rfl⟩
  obtain ⟨⟨B3, I3, Wk3, F3⟩, k3⟩ := q3
  have hxy : I64 (x + y) := ⟨by omega, by omega⟩
  have hS := Lib.hid (fun W => step_to b i w f s wr fr ce x W hs hb hi hw hf h0 h1 h2 hx B I Wk F k hq)
  have hS2 := Lib.hid (fun W => step_to B I Wk F s wr fr ce y W hs B0 I0 W0 F0 h0 h1 h2 hy B2 I2 Wk2 F2 k2 hq2)
  have hS3 := Lib.hid (fun W => step_to b i w f s wr fr ce (x + y) W hs hb hi hw hf h0 h1 h2 hxy B3 I3 Wk3 F3 k3 hq3)
  have r2 := sstep_rgt hq2
  have r3 := sstep_rgt hq3
  have HQ : k = 0 → k2 = 0 → k3 = 0 → B2 = B3 ∧ I2 = I3 ∧ (Wk2 - Wk3 ≤ 1 ∧ -1 ≤ Wk2 - Wk3) ∧ (F2 - F3 ≤ 1 ∧ -1 ≤ F2 - F3) := by
    intro z1 z2 z3
    subst z1 z2 z3
    exact parts_law (by omega) hq hq2 hq3
  clear hq hq2 hq3 hb hi hw hf h0 h1 h2 hs big B0 I0 W0 F0
  by_cases z1 : ¬ k = 0
  · have kb : (k != 0) = true := by simp [z1]
    clear z1 HQ r2 r3
    go_enter Try.func7, Try.ntmps7
    go_wp2_with fail
    refine (awake_any _).mono ?_
    rintro e w1 ⟨rfl, hb1⟩
    obtain ⟨hc, hff⟩ := bcell hb1
    go_wp2_with fail
    refine (hS.out _).mono ?_
    rintro e w2 ⟨rfl, hb2⟩
    have h12 := bstep hb1 hb2
    clear hc hff
    obtain ⟨hc, hff⟩ := bcell h12
    have q0 : W.heap.size < w2.heap.size := by have := h12.size; simp at this; omega
    have q1 : W.heap.size + 1 < w2.heap.size := by have := h12.size; simp at this; omega
    go_wp2_with fail
    refine (hS2.out _).mono ?_
    rintro e w3 ⟨rfl, hb3⟩
    have hx2 := bstep (balloc (Below.refl _ _) _) hb3
    have q2 : W.heap.size < w3.heap.size := by have := hb3.size; simp at this; omega
    have q3 : W.heap.size + 1 < w3.heap.size := by have := hb3.size; simp at this; omega
    have h13 := bstep h12 hx2
    clear hc hff
    obtain ⟨hc, hff⟩ := bcell h13
    go_wp2_with fail
    refine (hS3.out _).mono ?_
    rintro e w4 ⟨rfl, hb4⟩
    have h14 := bstep h13 (bstep (balloc (Below.refl _ _) _) hb4)
    clear hc hff
    obtain ⟨hc, hff⟩ := bcell hb4
    have q4 : w3.heap.size < w4.heap.size := by have := hb4.size; simp at this; omega
    go_wp2_with fail
    go_ret
    exact ⟨rfl, bstep hb0 (bstep h14 (balloc (Below.refl _ _) _))⟩
  have z1 : k = 0 := Decidable.not_not.mp z1
  have kb : (k != 0) = false := by simp [z1]
  by_cases z2 : ¬ k2 = 0
  · have kb2 : (k2 != 0) = true := by simp [z2]
    clear z1 z2 HQ r2 r3
    go_enter Try.func7, Try.ntmps7
    go_wp2_with fail
    refine (awake_any _).mono ?_
    rintro e w1 ⟨rfl, hb1⟩
    obtain ⟨hc, hff⟩ := bcell hb1
    go_wp2_with fail
    refine (hS.out _).mono ?_
    rintro e w2 ⟨rfl, hb2⟩
    have h12 := bstep hb1 hb2
    clear hc hff
    obtain ⟨hc, hff⟩ := bcell h12
    have q0 : W.heap.size < w2.heap.size := by have := h12.size; simp at this; omega
    have q1 : W.heap.size + 1 < w2.heap.size := by have := h12.size; simp at this; omega
    go_wp2_with fail
    refine (hS2.out _).mono ?_
    rintro e w3 ⟨rfl, hb3⟩
    have hx2 := bstep (balloc (Below.refl _ _) _) hb3
    have q2 : W.heap.size < w3.heap.size := by have := hb3.size; simp at this; omega
    have q3 : W.heap.size + 1 < w3.heap.size := by have := hb3.size; simp at this; omega
    have h13 := bstep h12 hx2
    clear hc hff
    obtain ⟨hc, hff⟩ := bcell h13
    go_wp2_with fail
    refine (hS3.out _).mono ?_
    rintro e w4 ⟨rfl, hb4⟩
    have h14 := bstep h13 (bstep (balloc (Below.refl _ _) _) hb4)
    clear hc hff
    obtain ⟨hc, hff⟩ := bcell hb4
    have q4 : w3.heap.size < w4.heap.size := by have := hb4.size; simp at this; omega
    go_wp2_with fail
    go_ret
    exact ⟨rfl, bstep hb0 (bstep h14 (balloc (Below.refl _ _) _))⟩
  have z2 : k2 = 0 := Decidable.not_not.mp z2
  have kb2 : (k2 != 0) = false := by simp [z2]
  by_cases z3 : ¬ k3 = 0
  · have kb3 : (k3 != 0) = true := by simp [z3]
    clear z1 z2 z3 HQ r2 r3
    go_enter Try.func7, Try.ntmps7
    go_wp2_with fail
    refine (awake_any _).mono ?_
    rintro e w1 ⟨rfl, hb1⟩
    obtain ⟨hc, hff⟩ := bcell hb1
    go_wp2_with fail
    refine (hS.out _).mono ?_
    rintro e w2 ⟨rfl, hb2⟩
    have h12 := bstep hb1 hb2
    clear hc hff
    obtain ⟨hc, hff⟩ := bcell h12
    have q0 : W.heap.size < w2.heap.size := by have := h12.size; simp at this; omega
    have q1 : W.heap.size + 1 < w2.heap.size := by have := h12.size; simp at this; omega
    go_wp2_with fail
    refine (hS2.out _).mono ?_
    rintro e w3 ⟨rfl, hb3⟩
    have hx2 := bstep (balloc (Below.refl _ _) _) hb3
    have q2 : W.heap.size < w3.heap.size := by have := hb3.size; simp at this; omega
    have q3 : W.heap.size + 1 < w3.heap.size := by have := hb3.size; simp at this; omega
    have h13 := bstep h12 hx2
    clear hc hff
    obtain ⟨hc, hff⟩ := bcell h13
    go_wp2_with fail
    refine (hS3.out _).mono ?_
    rintro e w4 ⟨rfl, hb4⟩
    have h14 := bstep h13 (bstep (balloc (Below.refl _ _) _) hb4)
    clear hc hff
    obtain ⟨hc, hff⟩ := bcell hb4
    have q4 : w3.heap.size < w4.heap.size := by have := hb4.size; simp at this; omega
    go_wp2_with fail
    go_ret
    exact ⟨rfl, bstep hb0 (bstep h14 (balloc (Below.refl _ _) _))⟩
  have z3 : k3 = 0 := Decidable.not_not.mp z3
  have kb3 : (k3 != 0) = false := by simp [z3]
  obtain ⟨rfl, rfl, ⟨d0, d1⟩, ⟨d2, d3⟩⟩ := HQ z1 z2 z3
  clear HQ z1 z2 z3
  obtain ⟨r20, ⟨r21, r22⟩, ⟨r23, r24⟩, ⟨r25, r26⟩⟩ := r2
  obtain ⟨r30, _, ⟨r33, r34⟩, ⟨r35, r36⟩⟩ := r3
  go_enter Try.func7, Try.ntmps7
  go_wp2_with fail
  refine (awake_any _).mono ?_
  rintro e w1 ⟨rfl, hb1⟩
  obtain ⟨hc, hff⟩ := bcell hb1
  go_wp2_with fail
  refine (hS.out _).mono ?_
  rintro e w2 ⟨rfl, hb2⟩
  have h12 := bstep hb1 hb2
  clear hc hff
  obtain ⟨hc, hff⟩ := bcell h12
  have q0 : W.heap.size < w2.heap.size := by have := h12.size; simp at this; omega
  have q1 : W.heap.size + 1 < w2.heap.size := by have := h12.size; simp at this; omega
  go_wp2_with fail
  refine (hS2.out _).mono ?_
  rintro e w3 ⟨rfl, hb3⟩
  have hx2 := bstep (balloc (Below.refl _ _) _) hb3
  have q2 : W.heap.size < w3.heap.size := by have := hb3.size; simp at this; omega
  have q3 : W.heap.size + 1 < w3.heap.size := by have := hb3.size; simp at this; omega
  have h13 := bstep h12 hx2
  clear hc hff
  obtain ⟨hc, hff⟩ := bcell h13
  go_wp2_with fail
  refine (hS3.out _).mono ?_
  rintro e w4 ⟨rfl, hb4⟩
  have h14 := bstep h13 (bstep (balloc (Below.refl _ _) _) hb4)
  clear hc hff
  obtain ⟨hc, hff⟩ := bcell hb4
  have q4 : w3.heap.size < w4.heap.size := by have := hb4.size; simp at this; omega
  go_wp2_with fail
  have SY : SumAt w4 w3.heap.size B2 I2 Wk2 F2 := SumAt.new hb4
  have SZ := SumAt.new (Below.refl (w4.alloc (.cells #[.int .i64 B2, .int .i64 I2, .int .i64 Wk3, .int .i64 F3] 24)).heap.size (w4.alloc (.cells #[.int .i64 B2, .int .i64 I2, .int .i64 Wk3, .int .i64 F3] 24)))
  have SY2 := SY.alloc (.cells #[.int .i64 B2, .int .i64 I2, .int .i64 Wk3, .int .i64 F3] 24)
  have hbc := bstep hb0 (bstep h14 (balloc (Below.refl _ _) (.cells #[.int .i64 B2, .int .i64 I2, .int .i64 Wk3, .int .i64 F3] 24)))
  clear SY hc hff q0 q1 q2 q3 q4 hb0 hb1 hb2 hb3 hb4 h12 h13 h14 hx2
  generalize w4.alloc (.cells #[.int .i64 B2, .int .i64 I2, .int .i64 Wk3, .int .i64 F3] 24) = wc at *
  generalize w4.heap.size = gz at *
  generalize w3.heap.size = gy at *
  obtain ⟨y0, y1, y2, y3, y4⟩ := SY2
  obtain ⟨t0, t1, t2, t3, t4⟩ := SZ
  go_region_held3 (fun w' => Below wc.heap.size wc w' ∧ ∀ b o, b < wc.heap.size → w'.cell? ⟨b, o, none⟩ = wc.cell? ⟨b, o, none⟩)
    (exact ⟨(Below.refl _ _).drew, fun _ _ _ => rfl⟩)
    (fail)
  go_wp2
  go_ret
  exact ⟨rfl, hbc.drew⟩
end Go.Proofs.Ytdmkjdlneadkcaa.W
