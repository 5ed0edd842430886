/- The walks of the document's answer for social: sums and schemes that are right, the room. -/
import Derived.Test.YtdmkjdlneadkcaaSocT
namespace Go.Proofs.Ytdmkjdlneadkcaa.W
open Go.RowKit Go.Proofs.Ytdmkjdlneadkcaa.M Go.Proofs.Ytdmkjdlneadkcaa.B Go.Proofs.Ytdmkjdlneadkcaa.S
set_option linter.unusedVariables false

theorem rright_is (b i w f : Int) (bb : Bool) (hb : Hid (decide (rgt b i w f) = bb)) (W : World) :
    Calls Try.prog 25 #[.agg #[.int .i64 b, .int .i64 i, .int .i64 w, .int .i64 f]] W fun e w' => e = .returned (.bool bb) ∧ Below W.heap.size W w' := by
  have hall : Hid (bb = (decide (fit b) && (decide (amt i) && (decide (amt w) && decide (amt f))))) := by
    show _ = _
    rw [← hb.out]
    apply Bool.eq_iff_iff.2
    simp only [decide_eq_true_eq, Bool.and_eq_true]
    exact Iff.rfl
  obtain ⟨b1, h1⟩ : ∃ b1, decide (fit b) = b1 := ⟨_, rfl⟩
  obtain ⟨b2, h2⟩ : ∃ b1, decide (amt i) = b1 := ⟨_, rfl⟩
  obtain ⟨b3, h3⟩ : ∃ b1, decide (amt w) = b1 := ⟨_, rfl⟩
  obtain ⟨b4, h4⟩ : ∃ b1, decide (amt f) = b1 := ⟨_, rfl⟩
  have r1 := Lib.hid fun W => ref_fits b b1 h1 W
  have r2 := Lib.hid fun W => rfits_is i b2 h2 W
  have r3 := Lib.hid fun W => rfits_is w b3 h3 W
  have r4 := Lib.hid fun W => rfits_is f b4 h4 W
  have hall2 : Hid (bb = (b1 && (b2 && (b3 && b4)))) := by show _ = _; rw [hall.out, h1, h2, h3, h4]
  clear hall hb h1 h2 h3 h4
  rcases b1 with _ | _
  case false =>
    go_enter Try.func25, Try.ntmps25
    go_wp2_with (go_at_call 27; refine (r1.out _).mono ?_; rintro e w1 ⟨rfl, rfl⟩)
    go_ret
    exact ⟨by rw [hall2.out]; rfl, balloc (Below.refl _ _) _⟩
  case true =>
    rcases b2 with _ | _
    case false =>
      go_enter Try.func25, Try.ntmps25
      go_wp2_with (first | (go_at_call 27; refine (r1.out _).mono ?_; rintro e w1 ⟨rfl, rfl⟩) | (go_at_call_of 35 (Value.int IntKind.i64 i); refine (r2.out _).mono ?_; rintro e w1 ⟨rfl, rfl⟩))
      go_ret
      exact ⟨by rw [hall2.out]; rfl, balloc (Below.refl _ _) _⟩
    case true =>
      rcases b3 with _ | _
      case false =>
        go_enter Try.func25, Try.ntmps25
        go_wp2_with (first | (go_at_call 27; refine (r1.out _).mono ?_; rintro e w1 ⟨rfl, rfl⟩) | (go_at_call_of 35 (Value.int IntKind.i64 i); refine (r2.out _).mono ?_; rintro e w1 ⟨rfl, rfl⟩) | (go_at_call_of 35 (Value.int IntKind.i64 w); refine (r3.out _).mono ?_; rintro e w1 ⟨rfl, rfl⟩))
        go_ret
        exact ⟨by rw [hall2.out]; rfl, balloc (Below.refl _ _) _⟩
      case true =>
        go_enter Try.func25, Try.ntmps25
        go_wp2_with (first | (go_at_call 27; refine (r1.out _).mono ?_; rintro e w1 ⟨rfl, rfl⟩) | (go_at_call_of 35 (Value.int IntKind.i64 i); refine (r2.out _).mono ?_; rintro e w1 ⟨rfl, rfl⟩) | (go_at_call_of 35 (Value.int IntKind.i64 w); refine (r3.out _).mono ?_; rintro e w1 ⟨rfl, rfl⟩) | (go_at_call_of 35 (Value.int IntKind.i64 f); refine (r4.out _).mono ?_; rintro e w1 ⟨rfl, rfl⟩))
        go_ret
        exact ⟨by rw [hall2.out]; rfl, balloc (Below.refl _ _) _⟩

theorem rcheck_is (s : ByteArray) (wr fr ce k : Int) (hk : Hid (wrg s.data.toList wr fr ce = k)) (W : World) (hs : s.size ≤ 9223372036854775807) :
    Calls Try.prog 26 #[.agg #[.string s, .int .i64 wr, .int .i64 fr, .int .i64 ce]] W fun e w' => e = .returned (.int .i64 k) ∧ Below W.heap.size W w' := by
  obtain ⟨b0, h0⟩ : ∃ b1, decide (word s.data.toList) = b1 := ⟨_, rfl⟩
  obtain ⟨b1, h1⟩ : ∃ b1, decide (0 ≤ wr ∧ wr ≤ 1000000) = b1 := ⟨_, rfl⟩
  obtain ⟨b2, h2⟩ : ∃ b1, decide (0 ≤ fr ∧ fr ≤ 1000000) = b1 := ⟨_, rfl⟩
  obtain ⟨b3, h3⟩ : ∃ b1, decide (amt ce) = b1 := ⟨_, rfl⟩
  have r0 := Lib.hid fun W => word_is s b0 h0 W hs
  have r1 := Lib.hid fun W => rpart_is wr b1 h1 W
  have r2 := Lib.hid fun W => rpart_is fr b2 h2 W
  have r3 := Lib.hid fun W => rfits_is ce b3 h3 W
  have hw : Hid (k = if b0 = true then (if b1 && (b2 && b3) then 0 else 2) else 12) := by
    show _ = _
    rw [← hk.out]
    unfold wrg
    by_cases o : word s.data.toList
    · rw [← h0, decide_eq_true o, if_neg (fun h => h o), if_pos rfl]
      by_cases z : wr < 0 ∨ 1000000 < wr ∨ fr < 0 ∨ 1000000 < fr ∨ ¬ amt ce
      · rw [if_pos z, if_neg]
        rw [← h1, ← h2, ← h3]
        simp only [Bool.and_eq_true, decide_eq_true_eq]
        rintro ⟨⟨x1, x2⟩, ⟨x3, x4⟩, x5⟩
        rcases z with z | z | z | z | z
        · omega
        · omega
        · omega
        · omega
        · exact z x5
      · rw [if_neg z, if_pos]
        rw [← h1, ← h2, ← h3]
        simp only [Bool.and_eq_true, decide_eq_true_eq]
        refine ⟨⟨by omega, by omega⟩, ⟨by omega, by omega⟩, ?_⟩
        by_cases y : amt ce
        · exact y
        · exact absurd (.inr (.inr (.inr (.inr y)))) z
    · rw [← h0, decide_eq_false o, if_pos o, if_neg (by simp)]
  clear hk h0 h1 h2 h3
  rcases b0 with _ | _
  case false =>
    obtain rfl : k = 12 := hw.out
    go_enter Try.func26, Try.ntmps26
    go_wp2_with (go_at_call 19; refine (r0.out _).mono ?_; rintro e w1 ⟨rfl, rfl⟩)
    go_ret
    exact ⟨rfl, balloc (Below.refl _ _) _⟩
  case true =>
    rcases b1 with _ | _
    case false =>
      obtain rfl : k = 2 := hw.out
      go_enter Try.func26, Try.ntmps26
      go_wp2_with (first | (go_at_call 19; refine (r0.out _).mono ?_; rintro e w1 ⟨rfl, rfl⟩) | (go_at_call_of 36 (Value.int IntKind.i64 wr); refine (r1.out _).mono ?_; rintro e w1 ⟨rfl, rfl⟩))
      go_ret
      exact ⟨rfl, balloc (Below.refl _ _) _⟩
    case true =>
      rcases b2 with _ | _
      case false =>
        obtain rfl : k = 2 := hw.out
        go_enter Try.func26, Try.ntmps26
        go_wp2_with (first | (go_at_call 19; refine (r0.out _).mono ?_; rintro e w1 ⟨rfl, rfl⟩) | (go_at_call_of 36 (Value.int IntKind.i64 wr); refine (r1.out _).mono ?_; rintro e w1 ⟨rfl, rfl⟩) | (go_at_call_of 36 (Value.int IntKind.i64 fr); refine (r2.out _).mono ?_; rintro e w1 ⟨rfl, rfl⟩))
        go_ret
        exact ⟨rfl, balloc (Below.refl _ _) _⟩
      case true =>
        rcases b3 with _ | _
        case false =>
          obtain rfl : k = 2 := hw.out
          go_enter Try.func26, Try.ntmps26
          go_wp2_with (first | (go_at_call 19; refine (r0.out _).mono ?_; rintro e w1 ⟨rfl, rfl⟩) | (go_at_call_of 36 (Value.int IntKind.i64 wr); refine (r1.out _).mono ?_; rintro e w1 ⟨rfl, rfl⟩) | (go_at_call_of 36 (Value.int IntKind.i64 fr); refine (r2.out _).mono ?_; rintro e w1 ⟨rfl, rfl⟩) | (go_at_call 35; refine (r3.out _).mono ?_; rintro e w1 ⟨rfl, rfl⟩))
          go_ret
          exact ⟨rfl, balloc (Below.refl _ _) _⟩
        case true =>
          obtain rfl : k = 0 := hw.out
          go_enter Try.func26, Try.ntmps26
          go_wp2_with (first | (go_at_call 19; refine (r0.out _).mono ?_; rintro e w1 ⟨rfl, rfl⟩) | (go_at_call_of 36 (Value.int IntKind.i64 wr); refine (r1.out _).mono ?_; rintro e w1 ⟨rfl, rfl⟩) | (go_at_call_of 36 (Value.int IntKind.i64 fr); refine (r2.out _).mono ?_; rintro e w1 ⟨rfl, rfl⟩) | (go_at_call 35; refine (r3.out _).mono ?_; rintro e w1 ⟨rfl, rfl⟩))
          go_ret
          exact ⟨rfl, balloc (Below.refl _ _) _⟩

theorem rroom_is (b i w f : Int) (s : ByteArray) (wr fr ce v : Int) (hv : Hid (sroom b i w f s.data.toList wr fr ce = v)) (W : World) (hs : s.size ≤ 9223372036854775807) :
    Calls Try.prog 15 #[.agg #[.int .i64 b, .int .i64 i, .int .i64 w, .int .i64 f], .agg #[.string s, .int .i64 wr, .int .i64 fr, .int .i64 ce]] W fun e w' => e = .returned (.int .i64 v) ∧ Below W.heap.size W w' := by
  have hv' := hv.out
  clear hv
  unfold sroom at hv'
  have hb0 : Below W.heap.size W ((W.alloc (.cells #[.int .i64 b, .int .i64 i, .int .i64 w, .int .i64 f] 32)).alloc (.cells #[.string s, .int .i64 wr, .int .i64 fr, .int .i64 ce] 27)) := balloc (balloc (Below.refl _ _) _) _
  by_cases h1 : rgt b i w f
  · have r1 := Lib.hid fun W => rright_is b i w f true (decide_eq_true h1) W
    obtain ⟨k, hk⟩ : ∃ k, wrg s.data.toList wr fr ce = k := ⟨_, rfl⟩
    have r2 := Lib.hid fun W => rcheck_is s wr fr ce k hk W hs
    rw [hk] at hv'
    by_cases k0 : k = 0
    · subst k0
      rw [if_neg (by simp [h1])] at hv'
      obtain ⟨_, _, _, _, _, ce0, ce1⟩ := wrg_zero hk
      unfold rgt amt at h1
      obtain ⟨_, ⟨i0, i1⟩, _, _⟩ := h1
      clear hk
      by_cases cz : ce = 0
      · subst cz
        have hvv : Hid (v = 1125899906842624 - i) := by
          show _ = _; rw [← hv']; unfold partOf; rw [if_neg (by omega), if_neg (by omega)]
        have d1 : decide (1125899906842624 < i) = false := decide_eq_false (by omega)
        clear hv'
        go_enter Try.func15, Try.ntmps15
        go_wp2_with fail
        refine (r1.out _).mono ?_
        rintro e w1 ⟨rfl, hb1⟩
        obtain ⟨hc, hff⟩ := bcell hb1
        go_wp2_with fail
        refine (r2.out _).mono ?_
        rintro e w2 ⟨rfl, hb2⟩
        clear hc hff
        obtain ⟨hc, hff⟩ := bcell (bstep hb1 hb2)
        go_wp2_with fail
        go_ret
        exact ⟨ret_int hvv.out.symm, bstep hb0 (bstep hb1 hb2)⟩
      · have ce2 : 0 < ce := by omega
        have z' : (ce == 0) = false := beq_eq_false_iff_ne.2 cz
        by_cases ci : ce < i
        · have hvv : Hid (v = 0) := by
            show _ = _; rw [← hv']; unfold partOf; rw [if_pos ce2, if_pos (by omega)]
          clear hv' cz
          go_enter Try.func15, Try.ntmps15
          go_wp2_with fail
          refine (r1.out _).mono ?_
          rintro e w1 ⟨rfl, hb1⟩
          obtain ⟨hc, hff⟩ := bcell hb1
          go_wp2_with fail
          refine (r2.out _).mono ?_
          rintro e w2 ⟨rfl, hb2⟩
          clear hc hff
          obtain ⟨hc, hff⟩ := bcell (bstep hb1 hb2)
          go_wp2_with fail
          go_ret
          exact ⟨ret_int hvv.out.symm, bstep hb0 (bstep hb1 hb2)⟩
        · have hvv : Hid (v = ce - i) := by
            show _ = _; rw [← hv']; unfold partOf; rw [if_pos ce2, if_neg (by omega)]
          have d1 : decide (ce < i) = false := decide_eq_false ci
          clear hv' cz
          go_enter Try.func15, Try.ntmps15
          go_wp2_with fail
          refine (r1.out _).mono ?_
          rintro e w1 ⟨rfl, hb1⟩
          obtain ⟨hc, hff⟩ := bcell hb1
          go_wp2_with fail
          refine (r2.out _).mono ?_
          rintro e w2 ⟨rfl, hb2⟩
          clear hc hff
          obtain ⟨hc, hff⟩ := bcell (bstep hb1 hb2)
          go_wp2_with fail
          go_ret
          exact ⟨ret_int hvv.out.symm, bstep hb0 (bstep hb1 hb2)⟩
    · rw [if_pos (.inr k0)] at hv'
      have z' : (k == 0) = false := beq_eq_false_iff_ne.2 k0
      have hvv := Lib.hid hv'.symm
      clear hv' h1 hk k0
      go_enter Try.func15, Try.ntmps15
      go_wp2_with fail
      refine (r1.out _).mono ?_
      rintro e w1 ⟨rfl, hb1⟩
      obtain ⟨hc, hff⟩ := bcell hb1
      go_wp2_with fail
      refine (r2.out _).mono ?_
      rintro e w2 ⟨rfl, hb2⟩
      go_wp2_with fail
      go_ret
      exact ⟨ret_int hvv.out.symm, bstep hb0 (bstep hb1 hb2)⟩
  · have r1 := Lib.hid fun W => rright_is b i w f false (decide_eq_false h1) W
    rw [if_pos (.inl h1)] at hv'
    have hvv := Lib.hid hv'.symm
    clear hv' h1
    go_enter Try.func15, Try.ntmps15
    go_wp2_with fail
    refine (r1.out _).mono ?_
    rintro e w1 ⟨rfl, hb1⟩
    go_wp2_with fail
    go_ret
    exact ⟨ret_int hvv.out.symm, bstep hb0 hb1⟩
end Go.Proofs.Ytdmkjdlneadkcaa.W
