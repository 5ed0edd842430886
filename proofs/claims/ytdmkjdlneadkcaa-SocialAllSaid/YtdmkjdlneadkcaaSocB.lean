/- The walks of social: a step, and what room there is. -/
import Derived.Test.YtdmkjdlneadkcaaSocA
import Derived.Deep.DeepCutAuto
namespace Go.Proofs.Ytdmkjdlneadkcaa.W
open Go.RowKit Go.Proofs.Ytdmkjdlneadkcaa.M Go.Proofs.Ytdmkjdlneadkcaa.B Go.Proofs.Ytdmkjdlneadkcaa.S
set_option linter.unusedVariables false

def StepOut (q : (Int × Int × Int × Int) × Int) (W : World) (e : Ending) (w' : World) : Prop :=
  e = .returned (.tuple #[.agg #[.int .i64 q.1.1, .int .i64 q.1.2.1, .int .i64 q.1.2.2.1, .int .i64 q.1.2.2.2], .int .i64 q.2]) ∧ Below W.heap.size W w'

theorem step_no_sums (b i w f : Int) (s : ByteArray) (wr fr ce base : Int) (W : World) (hs : s.size ≤ 9223372036854775807) (hb : I64 b) (hi : I64 i) (hw : I64 w) (hf : I64 f) (h0 : I64 wr) (h1 : I64 fr) (h2 : I64 ce) (h3 : I64 base) (h : ¬ rgt b i w f) :
    Calls Try.prog 11 #[.agg #[.int .i64 b, .int .i64 i, .int .i64 w, .int .i64 f], .agg #[.string s, .int .i64 wr, .int .i64 fr, .int .i64 ce], .int .i64 base] W (StepOut ((0, 0, 0, 0), 2) W) := by
  have hr := Lib.hid (fun W => right_is b i w f false (decide_eq_false h) W hb hi hw hf)
  have hb0 : Below W.heap.size W (((W.alloc (.cells #[.int .i64 b, .int .i64 i, .int .i64 w, .int .i64 f] 24)).alloc (.cells #[.string s, .int .i64 wr, .int .i64 fr, .int .i64 ce] 27)).alloc (.cells #[.int .i64 0, .int .i64 0, .int .i64 0, .int .i64 0] 24)) := balloc (balloc (balloc (Below.refl _ _) _) _) _
  clear h
  go_enter Try.func11, Try.ntmps11
  go_wp2_with fail
  refine (hr.out _).mono ?_
  rintro e w1 ⟨rfl, hb1⟩
  obtain ⟨hc1, hf1⟩ := bcell hb1
  go_wp2_with fail
  refine bodyPost_ret (v := .tuple #[.agg #[.int .i64 0, .int .i64 0, .int .i64 0, .int .i64 0], .int .i64 2]) (by simp [results, Try.results11, go_sem, hc1]) rfl ⟨rfl, ?_⟩
  repeat (first | refine bset ?_ (by simp; try omega) _ | exact bstep hb0 hb1)

theorem step_no_scheme (b i w f : Int) (s : ByteArray) (wr fr ce base : Int) (W : World) (hs : s.size ≤ 9223372036854775807) (hb : I64 b) (hi : I64 i) (hw : I64 w) (hf : I64 f) (h0 : I64 wr) (h1 : I64 fr) (h2 : I64 ce) (h3 : I64 base) (h : rgt b i w f) (k : Int) (hk : Hid (wrg s.data.toList wr fr ce = k)) (hk0 : ¬ k = 0) :
    Calls Try.prog 11 #[.agg #[.int .i64 b, .int .i64 i, .int .i64 w, .int .i64 f], .agg #[.string s, .int .i64 wr, .int .i64 fr, .int .i64 ce], .int .i64 base] W (StepOut ((0, 0, 0, 0), k) W) := by
  have hr := Lib.hid (fun W => right_is b i w f true (decide_eq_true h) W hb hi hw hf)
  have hwr := Lib.hid (fun W => wrong_is s wr fr ce k hk W hs h0 h1 h2)
  have hb0 : Below W.heap.size W (((W.alloc (.cells #[.int .i64 b, .int .i64 i, .int .i64 w, .int .i64 f] 24)).alloc (.cells #[.string s, .int .i64 wr, .int .i64 fr, .int .i64 ce] 27)).alloc (.cells #[.int .i64 0, .int .i64 0, .int .i64 0, .int .i64 0] 24)) := balloc (balloc (balloc (Below.refl _ _) _) _) _
  have hkb : (k != 0) = true := by simp [hk0]
  clear h hk0
  go_enter Try.func11, Try.ntmps11
  go_wp2_with fail
  refine (hr.out _).mono ?_
  rintro e w1 ⟨rfl, hb1⟩
  obtain ⟨hc, hff⟩ := bcell hb1
  go_wp2_with fail
  refine (hwr.out _).mono ?_
  rintro e w2 ⟨rfl, hb2⟩
  have h12 := bstep hb1 hb2
  clear hc hff
  obtain ⟨hc, hff⟩ := bcell h12
  go_wp2_with fail
  refine bodyPost_ret (v := .tuple #[.agg #[.int .i64 0, .int .i64 0, .int .i64 0, .int .i64 0], .int .i64 k]) (by simp [results, Try.results11, go_sem, hc]) rfl ⟨rfl, ?_⟩
  repeat (first | refine bset ?_ (by simp; try omega) _ | exact bstep hb0 h12)

theorem step_no_base (b i w f : Int) (s : ByteArray) (wr fr ce base : Int) (W : World) (hs : s.size ≤ 9223372036854775807) (hb : I64 b) (hi : I64 i) (hw : I64 w) (hf : I64 f) (h0 : I64 wr) (h1 : I64 fr) (h2 : I64 ce) (h3 : I64 base) (h : rgt b i w f) (hk : Hid (wrg s.data.toList wr fr ce = 0)) (hbase : ¬ fit base) :
    Calls Try.prog 11 #[.agg #[.int .i64 b, .int .i64 i, .int .i64 w, .int .i64 f], .agg #[.string s, .int .i64 wr, .int .i64 fr, .int .i64 ce], .int .i64 base] W (StepOut ((0, 0, 0, 0), 2) W) := by
  have hr := Lib.hid (fun W => right_is b i w f true (decide_eq_true h) W hb hi hw hf)
  have hwr := Lib.hid (fun W => wrong_is s wr fr ce 0 hk W hs h0 h1 h2)
  have hfi := Lib.hid (fun W => fits_is base false (decide_eq_false hbase) W h3)
  have hb0 : Below W.heap.size W (((W.alloc (.cells #[.int .i64 b, .int .i64 i, .int .i64 w, .int .i64 f] 24)).alloc (.cells #[.string s, .int .i64 wr, .int .i64 fr, .int .i64 ce] 27)).alloc (.cells #[.int .i64 0, .int .i64 0, .int .i64 0, .int .i64 0] 24)) := balloc (balloc (balloc (Below.refl _ _) _) _) _
  clear h hbase
  go_enter Try.func11, Try.ntmps11
  go_wp2_with fail
  refine (hr.out _).mono ?_
  rintro e w1 ⟨rfl, hb1⟩
  obtain ⟨hc, hff⟩ := bcell hb1
  go_wp2_with fail
  refine (hwr.out _).mono ?_
  rintro e w2 ⟨rfl, hb2⟩
  have h12 := bstep hb1 hb2
  clear hc hff
  obtain ⟨hc, hff⟩ := bcell h12
  go_wp2_with fail
  refine (hfi.out _).mono ?_
  rintro e w3 ⟨rfl, rfl⟩
  go_wp2_with fail
  refine bodyPost_ret (v := .tuple #[.agg #[.int .i64 0, .int .i64 0, .int .i64 0, .int .i64 0], .int .i64 2]) (by simp [results, Try.results11, go_sem, hc]) rfl ⟨rfl, ?_⟩
  repeat (first | refine bset ?_ (by simp; try omega) _ | exact bstep hb0 h12)

set_option maxRecDepth 100000 in
set_option maxHeartbeats 4000000 in
theorem step_go (b i w f : Int) (s : ByteArray) (wr fr ce base : Int) (W : World) (hs : s.size ≤ 9223372036854775807) (hb : I64 b) (hi : I64 i) (hw : I64 w) (hf : I64 f) (h0 : I64 wr) (h1 : I64 fr) (h2 : I64 ce) (h3 : I64 base) (h : rgt b i w f) (hk : Hid (wrg s.data.toList wr fr ce = 0)) (hbase : fit base) :
    Calls Try.prog 11 #[.agg #[.int .i64 b, .int .i64 i, .int .i64 w, .int .i64 f], .agg #[.string s, .int .i64 wr, .int .i64 fr, .int .i64 ce], .int .i64 base] W (StepOut (stp b i w f wr fr ce base) W) := by
  have hr := Lib.hid (fun W => right_is b i w f true (decide_eq_true h) W hb hi hw hf)
  have hwr := Lib.hid (fun W => wrong_is s wr fr ce 0 hk W hs h0 h1 h2)
  have hfi := Lib.hid (fun W => fits_is base true (decide_eq_true hbase) W h3)
  have hb0 : Below W.heap.size W (((W.alloc (.cells #[.int .i64 b, .int .i64 i, .int .i64 w, .int .i64 f] 24)).alloc (.cells #[.string s, .int .i64 wr, .int .i64 fr, .int .i64 ce] 27)).alloc (.cells #[.int .i64 0, .int .i64 0, .int .i64 0, .int .i64 0] 24)) := balloc (balloc (balloc (Below.refl _ _) _) _) _
  obtain ⟨_, k1, k2, k3, k4, k5, k6⟩ := wrg_zero hk.out
  obtain ⟨⟨f0, f1⟩, ⟨i0, i1⟩, ⟨w0, w1⟩, ⟨p0, p1⟩⟩ := h
  obtain ⟨g0, g1⟩ := hbase
  have hB0 : -2251799813685248 ≤ b + base := by omega
  have hB1 : b + base ≤ 2251799813685248 := by omega
  obtain ⟨T, hT⟩ : ∃ T, topOf (b + base) ce = T := ⟨_, rfl⟩
  have hT1 : -2251799813685248 ≤ T := by rw [← hT]; unfold topOf; split <;> (try split) <;> omega
  have hT2 : T ≤ 2251799813685248 := by rw [← hT]; unfold topOf; split <;> (try split) <;> omega
  obtain ⟨P, hP⟩ : ∃ P, partOf T i = P := ⟨_, rfl⟩
  have hP1 : 0 ≤ P := by rw [← hP]; unfold partOf; split <;> omega
  have hP2 : P ≤ 2251799813685248 := by rw [← hP]; unfold partOf; split <;> omega
  obtain ⟨C, hC⟩ : ∃ C, capOf P = C := ⟨_, rfl⟩
  have hC1 : 0 ≤ C := by rw [← hC]; unfold capOf; split <;> omega
  have hC2 : C ≤ 1125899906842624 := by rw [← hC]; unfold capOf; split <;> omega
  obtain ⟨x, hx⟩ : ∃ x, rnd C wr = x := ⟨_, rfl⟩
  obtain ⟨y, hy⟩ : ∃ y, rnd C fr = y := ⟨_, rfl⟩
  have hxb := rnd_bd C wr hC1 hC2 k1 k2
  have hyb := rnd_bd C fr hC1 hC2 k3 k4
  rw [hx] at hxb
  rw [hy] at hyb
  obtain ⟨x0, x1⟩ := hxb
  obtain ⟨y0, y1⟩ := hyb
  have hstp : Hid (stp b i w f wr fr ce base = if rgt (b + base) (i + P) (w + x) (f + y) then ((b + base, i + P, w + x, f + y), 0) else ((0, 0, 0, 0), 9)) := by
    show _ = _; unfold stp; simp only [hT, hP, hC, hx, hy]
  have hX := Lib.hid (fun W => of_half C wr hC1 hC2 k1 k2 x hx W)
  have hY := Lib.hid (fun W => of_half C fr hC1 hC2 k3 k4 y hy W)
  obtain ⟨bb, hbb⟩ : ∃ bb, decide (rgt (b + base) (i + P) (w + x) (f + y)) = bb := ⟨_, rfl⟩
  have hr2 := Lib.hid (fun W => right_is (b + base) (i + P) (w + x) (f + y) bb hbb W ⟨by omega, by omega⟩ ⟨by omega, by omega⟩ ⟨by omega, by omega⟩ ⟨by omega, by omega⟩)
  have HT := Lib.hid hT
  have HP := Lib.hid hP
  have HC := Lib.hid hC
  have HB := Lib.hid hbb
  clear hT hP hC hx hy hbb
  go_enter Try.func11, Try.ntmps11
  go_wp2_with fail
  refine (hr.out _).mono ?_
  rintro e w1 ⟨rfl, hb1⟩
  obtain ⟨hc, hff⟩ := bcell hb1
  go_wp2_with fail
  refine (hwr.out _).mono ?_
  rintro e w2 ⟨rfl, hb2⟩
  have h12 := bstep hb1 hb2
  clear hc hff
  obtain ⟨hc, hff⟩ := bcell h12
  have hz : W.heap.size + 1 + 1 < w2.heap.size := by have := h12.size; simp at this; omega
  have hz1 : W.heap.size + 1 < w2.heap.size := by omega
  have hz0 : W.heap.size < w2.heap.size := by omega
  go_wp2_with fail
  refine (hfi.out _).mono ?_
  rintro e w3 ⟨rfl, rfl⟩
  go_upto_if 40 with fail
  go_cut [10] (fun s10 wx => s10 = .int .i64 T ∧ wx = w2.alloc (.cells #[.int .i64 (b + base), .int .i64 i, .int .i64 w, .int .i64 f] 24))
  case first =>
    by_cases c0 : 0 < ce
    · by_cases c1 : ce < b + base
      · have hv : Hid (ce = T) := by show _ = _; rw [← HT.out]; unfold topOf; rw [if_pos c0, if_pos c1]
        go_wp2_with fail
        go_meet
        exact ⟨by rw [← hv.out], rfl⟩
      · have hv : Hid (b + base = T) := by show _ = _; rw [← HT.out]; unfold topOf; rw [if_pos c0, if_neg c1]
        go_wp2_with fail
        go_meet
        exact ⟨by rw [← hv.out], rfl⟩
    · have hv : Hid (b + base = T) := by show _ = _; rw [← HT.out]; unfold topOf; rw [if_neg c0]
      go_wp2_with fail
      go_meet
      exact ⟨by rw [← hv.out], rfl⟩
  case rest =>
    obtain ⟨rfl, rfl⟩ := hcut
    go_upto_region 13 with fail
    go_cut [11] (fun s11 wx => s11 = .int .i64 P ∧ wx = w2.alloc (.cells #[.int .i64 (b + base), .int .i64 i, .int .i64 w, .int .i64 f] 24))
    case first =>
      by_cases c0 : T - i < 0
      · have hv : Hid (0 = P) := by show _ = _; rw [← HP.out]; unfold partOf; rw [if_pos c0]
        go_wp2_with fail
        go_meet
        exact ⟨by rw [← hv.out], rfl⟩
      · have hv : Hid (T - i = P) := by show _ = _; rw [← HP.out]; unfold partOf; rw [if_neg c0]
        go_wp2_with fail
        go_meet
        exact ⟨by rw [← hv.out], rfl⟩
    case rest =>
      obtain ⟨rfl, rfl⟩ := hcut
      by_cases big : 1125899906842624 < P
      · have hCv : C = 1125899906842624 := by rw [← HC.out]; unfold capOf; rw [if_pos big]
        subst hCv
        go_wp2_with fail
        refine (hX.out _).mono ?_
        rintro e w4 ⟨rfl, n1, rfl⟩
        go_wp2_with fail
        refine (hY.out _).mono ?_
        rintro e w5 ⟨rfl, n2, rfl⟩
        go_wp2_with fail
        refine (hr2.out _).mono ?_
        rintro e w6 ⟨rfl, hb6⟩
        obtain ⟨hc6, hf6⟩ := bcell hb6
        have hz6 : w2.heap.size < w6.heap.size := by have := hb6.size; simp at this; omega
        have hB6 : Below w2.heap.size w2 w6 := by
          refine Below.trans ?_ (hb6.mono (show w2.heap.size ≤ _ by simp))
          repeat (first | refine bset ?_ (by simp) _ | refine below_drewN ?_ _ | exact (Below.refl w2.heap.size w2).alloc (Nat.le_refl _) _)
        cases bb
        · go_wp2_with fail
          refine bodyPost_ret (v := .tuple #[.agg #[.int .i64 0, .int .i64 0, .int .i64 0, .int .i64 0], .int .i64 9]) (by simp [results, Try.results11, go_sem, hc6, hc, hz, hz1]) rfl ?_
          have hq : Hid (stp b i w f wr fr ce base = ((0, 0, 0, 0), 9)) := by show _ = _; rw [hstp.out, if_neg (of_decide_eq_false HB.out)]
          rw [hq.out]
          refine ⟨rfl, ?_⟩
          repeat (first | refine bset ?_ (by simp; try omega) _ | exact bstep hb0 (bstep h12 hB6))
        · go_wp2_with fail
          refine bodyPost_ret (v := .tuple #[.agg #[.int .i64 (b + base), .int .i64 (i + P), .int .i64 (w + x), .int .i64 (f + y)], .int .i64 0]) (by simp [results, Try.results11, go_sem, hc6, hc, hz, hz1]) rfl ?_
          have hq : Hid (stp b i w f wr fr ce base = ((b + base, i + P, w + x, f + y), 0)) := by show _ = _; rw [hstp.out, if_pos (of_decide_eq_true HB.out)]
          rw [hq.out]
          refine ⟨rfl, ?_⟩
          repeat (first | refine bset ?_ (by simp; try omega) _ | exact bstep hb0 (bstep h12 hB6))
      · have hCv : C = P := by rw [← HC.out]; unfold capOf; rw [if_neg big]
        subst hCv
        go_wp2_with fail
        refine (hX.out _).mono ?_
        rintro e w4 ⟨rfl, n1, rfl⟩
        go_wp2_with fail
        refine (hY.out _).mono ?_
        rintro e w5 ⟨rfl, n2, rfl⟩
        go_wp2_with fail
        refine (hr2.out _).mono ?_
        rintro e w6 ⟨rfl, hb6⟩
        obtain ⟨hc6, hf6⟩ := bcell hb6
        have hz6 : w2.heap.size < w6.heap.size := by have := hb6.size; simp at this; omega
        have hB6 : Below w2.heap.size w2 w6 := by
          refine Below.trans ?_ (hb6.mono (show w2.heap.size ≤ _ by simp))
          repeat (first | refine bset ?_ (by simp) _ | refine below_drewN ?_ _ | exact (Below.refl w2.heap.size w2).alloc (Nat.le_refl _) _)
        cases bb
        · go_wp2_with fail
          refine bodyPost_ret (v := .tuple #[.agg #[.int .i64 0, .int .i64 0, .int .i64 0, .int .i64 0], .int .i64 9]) (by simp [results, Try.results11, go_sem, hc6, hc, hz, hz1]) rfl ?_
          have hq : Hid (stp b i w f wr fr ce base = ((0, 0, 0, 0), 9)) := by show _ = _; rw [hstp.out, if_neg (of_decide_eq_false HB.out)]
          rw [hq.out]
          refine ⟨rfl, ?_⟩
          repeat (first | refine bset ?_ (by simp; try omega) _ | exact bstep hb0 (bstep h12 hB6))
        · go_wp2_with fail
          refine bodyPost_ret (v := .tuple #[.agg #[.int .i64 (b + base), .int .i64 (i + C), .int .i64 (w + x), .int .i64 (f + y)], .int .i64 0]) (by simp [results, Try.results11, go_sem, hc6, hc, hz, hz1]) rfl ?_
          have hq : Hid (stp b i w f wr fr ce base = ((b + base, i + C, w + x, f + y), 0)) := by show _ = _; rw [hstp.out, if_pos (of_decide_eq_true HB.out)]
          rw [hq.out]
          refine ⟨rfl, ?_⟩
          repeat (first | refine bset ?_ (by simp; try omega) _ | exact bstep hb0 (bstep h12 hB6))

theorem step_any (b i w f : Int) (s : ByteArray) (wr fr ce base : Int) (W : World) (hs : s.size ≤ 9223372036854775807) (hb : I64 b) (hi : I64 i) (hw : I64 w) (hf : I64 f) (h0 : I64 wr) (h1 : I64 fr) (h2 : I64 ce) (h3 : I64 base) :
    Calls Try.prog 11 #[.agg #[.int .i64 b, .int .i64 i, .int .i64 w, .int .i64 f], .agg #[.string s, .int .i64 wr, .int .i64 fr, .int .i64 ce], .int .i64 base] W (StepOut (sstep b i w f s.data.toList wr fr ce base) W) := by
  by_cases hr : rgt b i w f
  · obtain ⟨k, hk⟩ : ∃ k, wrg s.data.toList wr fr ce = k := ⟨_, rfl⟩
    by_cases hk0 : k = 0
    · subst hk0
      by_cases hfb : fit base
      · have e : sstep b i w f s.data.toList wr fr ce base = stp b i w f wr fr ce base := by
          unfold sstep; rw [if_neg (show ¬ ¬ rgt b i w f from fun h => h hr), if_neg (show ¬ (wrg s.data.toList wr fr ce ≠ 0) from fun h => h hk), if_neg (show ¬ ¬ fit base from fun h => h hfb)]
        rw [e]
        exact step_go b i w f s wr fr ce base W hs hb hi hw hf h0 h1 h2 h3 hr hk hfb
      · have e : sstep b i w f s.data.toList wr fr ce base = ((0, 0, 0, 0), 2) := by
          unfold sstep; rw [if_neg (show ¬ ¬ rgt b i w f from fun h => h hr), if_neg (show ¬ (wrg s.data.toList wr fr ce ≠ 0) from fun h => h hk), if_pos hfb]
        rw [e]
        exact step_no_base b i w f s wr fr ce base W hs hb hi hw hf h0 h1 h2 h3 hr hk hfb
    · have e : sstep b i w f s.data.toList wr fr ce base = ((0, 0, 0, 0), k) := by
        unfold sstep; rw [if_neg (show ¬ ¬ rgt b i w f from fun h => h hr), if_pos (show wrg s.data.toList wr fr ce ≠ 0 from fun h => hk0 (hk.symm.trans h)), hk]
      rw [e]
      exact step_no_scheme b i w f s wr fr ce base W hs hb hi hw hf h0 h1 h2 h3 hr k hk hk0
  · have e : sstep b i w f s.data.toList wr fr ce base = ((0, 0, 0, 0), 2) := by unfold sstep; rw [if_pos hr]
    rw [e]
    exact step_no_sums b i w f s wr fr ce base W hs hb hi hw hf h0 h1 h2 h3 hr

theorem room_any (b i w f : Int) (s : ByteArray) (wr fr ce : Int) (W : World) (hs : s.size ≤ 9223372036854775807) (hb : I64 b) (hi : I64 i) (hw : I64 w) (hf : I64 f) (h0 : I64 wr) (h1 : I64 fr) (h2 : I64 ce) (v : Int) (hv : Hid (sroom b i w f s.data.toList wr fr ce = v)) :
    Calls Try.prog 14 #[.agg #[.int .i64 b, .int .i64 i, .int .i64 w, .int .i64 f], .agg #[.string s, .int .i64 wr, .int .i64 fr, .int .i64 ce]] W fun e w' => e = .returned (.int .i64 v) ∧ Below W.heap.size W w' := by
  have hb0 : Below W.heap.size W ((W.alloc (.cells #[.int .i64 b, .int .i64 i, .int .i64 w, .int .i64 f] 24)).alloc (.cells #[.string s, .int .i64 wr, .int .i64 fr, .int .i64 ce] 27)) := balloc (balloc (Below.refl _ _) _) _
  by_cases h : rgt b i w f
  · have hr := Lib.hid (fun W => right_is b i w f true (decide_eq_true h) W hb hi hw hf)
    obtain ⟨k, hk⟩ : ∃ k, wrg s.data.toList wr fr ce = k := ⟨_, rfl⟩
    have hwr := Lib.hid (fun W => wrong_is s wr fr ce k hk W hs h0 h1 h2)
    by_cases hk0 : k = 0
    · subst hk0
      have hve : Hid (partOf (if 0 < ce then ce else 1125899906842624) i = v) := by
        show _ = _; rw [← hv.out]; unfold sroom; rw [if_neg (show ¬ (¬ rgt b i w f ∨ wrg s.data.toList wr fr ce ≠ 0) from fun hh => by rcases hh with hh | hh; exact hh h; exact hh hk)]
      obtain ⟨_, k1, k2, k3, k4, k5, k6⟩ := wrg_zero hk
      obtain ⟨_, ⟨i0, i1⟩, _, _⟩ := h
      clear hk
      by_cases c0 : 0 < ce
      · by_cases c1 : ce - i < 0
        · have hv2 : Hid (0 = v) := by show _ = _; rw [← hve.out, if_pos c0]; unfold partOf; rw [if_pos c1]
          go_enter Try.func14, Try.ntmps14
          go_wp2_with fail
          refine (hr.out _).mono ?_
          rintro e w1 ⟨rfl, hb1⟩
          obtain ⟨hc, hff⟩ := bcell hb1
          go_wp2_with fail
          refine (hwr.out _).mono ?_
          rintro e w2 ⟨rfl, hb2⟩
          have h12 := bstep hb1 hb2
          clear hc hff
          obtain ⟨hc, hff⟩ := bcell h12
          go_wp2_with fail
          go_ret
          exact ⟨by rw [← hv2.out]; rfl, bstep hb0 h12⟩
        · have hv2 : Hid (ce - i = v) := by show _ = _; rw [← hve.out, if_pos c0]; unfold partOf; rw [if_neg c1]
          go_enter Try.func14, Try.ntmps14
          go_wp2_with fail
          refine (hr.out _).mono ?_
          rintro e w1 ⟨rfl, hb1⟩
          obtain ⟨hc, hff⟩ := bcell hb1
          go_wp2_with fail
          refine (hwr.out _).mono ?_
          rintro e w2 ⟨rfl, hb2⟩
          have h12 := bstep hb1 hb2
          clear hc hff
          obtain ⟨hc, hff⟩ := bcell h12
          go_wp2_with fail
          go_ret
          exact ⟨by rw [← hv2.out]; rfl, bstep hb0 h12⟩
      · by_cases c1 : 1125899906842624 - i < 0
        · omega
        · have hv2 : Hid (1125899906842624 - i = v) := by show _ = _; rw [← hve.out, if_neg c0]; unfold partOf; rw [if_neg c1]
          go_enter Try.func14, Try.ntmps14
          go_wp2_with fail
          refine (hr.out _).mono ?_
          rintro e w1 ⟨rfl, hb1⟩
          obtain ⟨hc, hff⟩ := bcell hb1
          go_wp2_with fail
          refine (hwr.out _).mono ?_
          rintro e w2 ⟨rfl, hb2⟩
          have h12 := bstep hb1 hb2
          clear hc hff
          obtain ⟨hc, hff⟩ := bcell h12
          go_wp2_with fail
          go_ret
          exact ⟨by rw [← hv2.out]; rfl, bstep hb0 h12⟩
    · have hve : v = 0 := by rw [← hv.out]; unfold sroom; rw [if_pos (.inr (fun hh => hk0 (hk.symm.trans hh)))]
      subst hve
      have hkb : (k != 0) = true := by simp [hk0]
      clear h hk hk0
      go_enter Try.func14, Try.ntmps14
      go_wp2_with fail
      refine (hr.out _).mono ?_
      rintro e w1 ⟨rfl, hb1⟩
      obtain ⟨hc, hff⟩ := bcell hb1
      go_wp2_with fail
      refine (hwr.out _).mono ?_
      rintro e w2 ⟨rfl, hb2⟩
      go_wp2_with fail
      go_ret
      exact ⟨rfl, bstep hb0 (bstep hb1 hb2)⟩
  · have hr := Lib.hid (fun W => right_is b i w f false (decide_eq_false h) W hb hi hw hf)
    have hve : v = 0 := by rw [← hv.out]; unfold sroom; rw [if_pos (.inl h)]
    subst hve
    clear h
    go_enter Try.func14, Try.ntmps14
    go_wp2_with fail
    refine (hr.out _).mono ?_
    rintro e w1 ⟨rfl, hb1⟩
    go_wp2_with fail
    go_ret
    exact ⟨rfl, bstep hb0 hb1⟩
end Go.Proofs.Ytdmkjdlneadkcaa.W
