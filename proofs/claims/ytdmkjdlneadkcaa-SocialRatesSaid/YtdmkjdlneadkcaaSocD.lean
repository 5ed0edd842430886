/- The walk of SocialRoom. -/
import Derived.Test.YtdmkjdlneadkcaaSocC
import Derived.Test.YtdmkjdlneadkcaaSocL
namespace Go.Proofs.Ytdmkjdlneadkcaa.W
open Go.RowKit Go.Proofs.Ytdmkjdlneadkcaa.M Go.Proofs.Ytdmkjdlneadkcaa.B Go.Proofs.Ytdmkjdlneadkcaa.S
set_option linter.unusedVariables false

theorem step_to (b i w f : Int) (s : ByteArray) (wr fr ce base : Int) (W : World) (hs : s.size ≤ 9223372036854775807) (hb : I64 b) (hi : I64 i) (hw : I64 w) (hf : I64 f) (h0 : I64 wr) (h1 : I64 fr) (h2 : I64 ce) (h3 : I64 base) (B I Wk F k : Int) (hq : Hid (sstep b i w f s.data.toList wr fr ce base = ((B, I, Wk, F), k))) :
    Calls Try.prog 11 #[.agg #[.int .i64 b, .int .i64 i, .int .i64 w, .int .i64 f], .agg #[.string s, .int .i64 wr, .int .i64 fr, .int .i64 ce], .int .i64 base] W fun e w' => e = .returned (.tuple #[.agg #[.int .i64 B, .int .i64 I, .int .i64 Wk, .int .i64 F], .int .i64 k]) ∧ Below W.heap.size W w' := by
  have h := step_any b i w f s wr fr ce base W hs hb hi hw hf h0 h1 h2 h3
  rw [hq.out] at h
  exact h

set_option maxHeartbeats 2000000 in
theorem socialRoom (b i w f : Int) (s : ByteArray) (wr fr ce base : Int) (W : World) (hb : I64 b) (hi : I64 i) (hw : I64 w) (hf : I64 f) (hs : s.size ≤ 9223372036854775807) (h0 : I64 wr) (h1 : I64 fr) (h2 : I64 ce) (h3 : I64 base) :
    Calls Try.prog 4 #[.agg #[.int .i64 b, .int .i64 i, .int .i64 w, .int .i64 f], .agg #[.string s, .int .i64 wr, .int .i64 fr, .int .i64 ce], .int .i64 base] W fun e w' => e = .returned (.bool true) ∧ Below W.heap.size W w' := by
  have hb0 : Below W.heap.size W ((W.alloc (.cells #[.int .i64 b, .int .i64 i, .int .i64 w, .int .i64 f] 24)).alloc (.cells #[.string s, .int .i64 wr, .int .i64 fr, .int .i64 ce] 27)) := balloc (balloc (Below.refl _ _) _) _
  by_cases big : 300 < s.size
  · have big' : (300 : Int) < (s.size : Int) := by omega
    go_enter Try.func4, Try.ntmps4
    go_wp2_with fail
    refine (awake_any _).mono ?_
    rintro e w1 ⟨rfl, hb1⟩
    obtain ⟨hc, hff⟩ := bcell hb1
    go_wp2_with fail
    go_ret
    exact ⟨rfl, bstep hb0 hb1⟩
  have big' : ¬ (300 : Int) < (s.size : Int) := by omega
  obtain ⟨v, hv⟩ : ∃ v, sroom b i w f s.data.toList wr fr ce = v := ⟨_, rfl⟩
  have v0 : 0 ≤ v := by rw [← hv]; exact sroom_nonneg _ _ _ _ _ _ _ _
  have hR := Lib.hid (fun W => room_any b i w f s wr fr ce W hs hb hi hw hf h0 h1 h2 v hv)
  obtain ⟨q, hq⟩ : ∃ q, sstep b i w f s.data.toList wr fr ce base = q := ⟨_, rfl⟩
  obtain ⟨⟨B, I, Wk, F⟩, k⟩ := q
  have hS := Lib.hid (fun W => step_to b i w f s wr fr ce base W hs hb hi hw hf h0 h1 h2 h3 B I Wk F k hq)
  by_cases k0 : k = 0
  · subst k0
    obtain ⟨l1, l2, l3, l4⟩ := room_law hq
    have hk := sstep_ok hq
    have g1 := hk.1
    have g4 := hk.2.2.2.1
    clear hk
    obtain ⟨_, ⟨i0, i1⟩, _, _⟩ := g1
    obtain ⟨⟨B0, B1⟩, ⟨I0, I1⟩, ⟨W0, W1⟩, ⟨F0, F1⟩⟩ := g4
    rw [hv] at l2 l3
    have vb : v ≤ 1125899906842624 := by
      rw [← hv]; unfold sroom; split
      · omega
      · rename_i hn
        have hwz : wrg s.data.toList wr fr ce = 0 := by
          by_cases z : wrg s.data.toList wr fr ce = 0
          · exact z
          · exact absurd (.inr z) hn
        obtain ⟨_, _, _, _, _, c0, c1⟩ := wrg_zero hwz
        unfold partOf; split <;> split <;> omega
    have hR2 := Lib.hid (fun W => room_any B I Wk F s wr fr ce W hs ⟨by omega, by omega⟩ ⟨by omega, by omega⟩ ⟨by omega, by omega⟩ ⟨by omega, by omega⟩ h0 h1 h2 (v - (I - i)) l3)
    have L4 := Lib.hid l4
    have L3 := Lib.hid l3
    have HV := Lib.hid hv
    have HQ := Lib.hid hq
    have big2 := Lib.hid big
    obtain ⟨ce0, ce1⟩ := h2
    clear hv hq l3 l4 big hb hi hw hf h0 h1 h3 hs
    have n1 : ¬ I - i < 0 := by omega
    have n2 : ¬ v < I - i := by omega
    by_cases z0 : ce = 0
    · have e0 : (ce == 0) = true := beq_iff_eq.2 z0
      have Z0 := Lib.hid z0
      clear z0
      go_enter Try.func4, Try.ntmps4
      go_wp2_with fail
      refine (awake_any _).mono ?_
      rintro e w1 ⟨rfl, hb1⟩
      obtain ⟨hc, hff⟩ := bcell hb1
      go_wp2_with fail
      refine (hR.out _).mono ?_
      rintro e w2 ⟨rfl, hb2⟩
      have h12 := bstep hb1 hb2
      clear hc hff
      obtain ⟨hc, hff⟩ := bcell h12
      go_wp2_with fail
      refine (hS.out _).mono ?_
      rintro e w3 ⟨rfl, hb3⟩
      have h13 := bstep h12 hb3
      clear hc hff
      obtain ⟨hc, hff⟩ := bcell h13
      have q0 : W.heap.size < w3.heap.size := by have := h13.size; simp at this; omega
      have q1 : W.heap.size + 1 < w3.heap.size := by have := h13.size; simp at this; omega
      go_wp2_with fail
      refine (hR2.out _).mono ?_
      rintro e w4 ⟨rfl, hb4⟩
      obtain ⟨hc4, hf4⟩ := bcell hb4
      have q4 : W.heap.size + 1 < w4.heap.size := by have := hb4.size; simp at this; omega
      go_wp2_with fail
      go_ret
      exact ⟨rfl, bstep hb0 (bstep h13 (bstep (balloc (Below.refl _ _) _) hb4))⟩
    · have e0 : (ce == 0) = false := beq_eq_false_iff_ne.2 z0
      by_cases lt : B < ce
      · go_enter Try.func4, Try.ntmps4
        go_wp2_with fail
        refine (awake_any _).mono ?_
        rintro e w1 ⟨rfl, hb1⟩
        obtain ⟨hc, hff⟩ := bcell hb1
        go_wp2_with fail
        refine (hR.out _).mono ?_
        rintro e w2 ⟨rfl, hb2⟩
        have h12 := bstep hb1 hb2
        clear hc hff
        obtain ⟨hc, hff⟩ := bcell h12
        go_wp2_with fail
        refine (hS.out _).mono ?_
        rintro e w3 ⟨rfl, hb3⟩
        have h13 := bstep h12 hb3
        clear hc hff
        obtain ⟨hc, hff⟩ := bcell h13
        have q0 : W.heap.size < w3.heap.size := by have := h13.size; simp at this; omega
        have q1 : W.heap.size + 1 < w3.heap.size := by have := h13.size; simp at this; omega
        go_wp2_with fail
        refine (hR2.out _).mono ?_
        rintro e w4 ⟨rfl, hb4⟩
        obtain ⟨hc4, hf4⟩ := bcell hb4
        have q4 : W.heap.size + 1 < w4.heap.size := by have := hb4.size; simp at this; omega
        go_wp2_with fail
        go_ret
        exact ⟨rfl, bstep hb0 (bstep h13 (bstep (balloc (Below.refl _ _) _) hb4))⟩
      · have v1 : v - (I - i) = 0 := by
          have h4 := L4.out
          have h3 := L3.out
          rw [h3] at h4
          rcases h4 with h4 | h4 | h4
          · exact absurd h4 z0
          · exact absurd h4 lt
          · exact h4
        go_enter Try.func4, Try.ntmps4
        go_wp2_with fail
        refine (awake_any _).mono ?_
        rintro e w1 ⟨rfl, hb1⟩
        obtain ⟨hc, hff⟩ := bcell hb1
        go_wp2_with fail
        refine (hR.out _).mono ?_
        rintro e w2 ⟨rfl, hb2⟩
        have h12 := bstep hb1 hb2
        clear hc hff
        obtain ⟨hc, hff⟩ := bcell h12
        go_wp2_with fail
        refine (hS.out _).mono ?_
        rintro e w3 ⟨rfl, hb3⟩
        have h13 := bstep h12 hb3
        clear hc hff
        obtain ⟨hc, hff⟩ := bcell h13
        have q0 : W.heap.size < w3.heap.size := by have := h13.size; simp at this; omega
        have q1 : W.heap.size + 1 < w3.heap.size := by have := h13.size; simp at this; omega
        go_wp2_with fail
        refine (hR2.out _).mono ?_
        rintro e w4 ⟨rfl, hb4⟩
        obtain ⟨hc4, hf4⟩ := bcell hb4
        have q4 : W.heap.size + 1 < w4.heap.size := by have := hb4.size; simp at this; omega
        go_wp2_with fail
        refine (hR2.out _).mono ?_
        rintro e w5 ⟨rfl, hb5⟩
        go_wp2_with fail
        go_ret
        exact ⟨ret_bool (by simp), bstep hb0 (bstep h13 (bstep (bstep (balloc (Below.refl _ _) _) hb4) hb5))⟩
  · have kb : (k != 0) = true := by simp [k0]
    clear k0 hq hv hb hi hw hf h0 h1 h2 h3 hs big
    go_enter Try.func4, Try.ntmps4
    go_wp2_with fail
    refine (awake_any _).mono ?_
    rintro e w1 ⟨rfl, hb1⟩
    obtain ⟨hc, hff⟩ := bcell hb1
    go_wp2_with fail
    refine (hR.out _).mono ?_
    rintro e w2 ⟨rfl, hb2⟩
    have h12 := bstep hb1 hb2
    clear hc hff
    obtain ⟨hc, hff⟩ := bcell h12
    go_wp2_with fail
    refine (hS.out _).mono ?_
    rintro e w3 ⟨rfl, hb3⟩
    go_wp2_with fail
    go_ret
    exact ⟨ret_bool (by simp), bstep hb0 (bstep (bstep h12 hb3) (balloc (Below.refl _ _) _))⟩
end Go.Proofs.Ytdmkjdlneadkcaa.W
