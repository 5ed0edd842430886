/- The walk of the document's step. -/
import Derived.Test.YtdmkjdlneadkcaaSocU
namespace Go.Proofs.Ytdmkjdlneadkcaa.W
open Go.RowKit Go.Proofs.Ytdmkjdlneadkcaa.M Go.Proofs.Ytdmkjdlneadkcaa.B Go.Proofs.Ytdmkjdlneadkcaa.S
set_option linter.unusedVariables false

theorem of_int (c r v : Int) (c0 : 0 ≤ c) (c1 : c ≤ 1125899906842624) (r0 : 0 ≤ r) (r1 : r ≤ 1000000) (hv : rnd c r = v) (W : World) :
    Calls Try.prog 28 #[.int .i64 c, .int .i64 r, .int .i64 1] W (IntOut v 0 W) := by
  have hb := rnd_bd c r c0 c1 r0 r1
  rw [hv] at hb
  obtain ⟨c, rfl⟩ : ∃ n : Nat, c = n := ⟨c.toNat, by omega⟩
  obtain ⟨r, rfl⟩ : ∃ n : Nat, r = n := ⟨r.toNat, by omega⟩
  obtain ⟨v, rfl⟩ : ∃ n : Nat, v = n := ⟨v.toNat, by omega⟩
  exact Go.Proofs.Ytdmkjdlneadkcaa.W.of_half c r v (by omega) (by omega) hv W
theorem rnd_none (r : Int) : rnd 0 r = 0 := by unfold rnd; rw [Int.zero_mul]; rfl

theorem rstep_no_sums (b i w f : Int) (s : ByteArray) (wr fr ce base : Int) (W : World) (hs : s.size ≤ 9223372036854775807) (h : ¬ rgt b i w f) :
    Calls Try.prog 12 #[.agg #[.int .i64 b, .int .i64 i, .int .i64 w, .int .i64 f], .agg #[.string s, .int .i64 wr, .int .i64 fr, .int .i64 ce], .int .i64 base] W (StepOut ((0, 0, 0, 0), 2) W) := by
  have hr := Lib.hid (fun W => rright_is b i w f false (decide_eq_false h) W)
  have hb0 : Below W.heap.size W (((W.alloc (.cells #[.int .i64 b, .int .i64 i, .int .i64 w, .int .i64 f] 32)).alloc (.cells #[.string s, .int .i64 wr, .int .i64 fr, .int .i64 ce] 27)).alloc (.cells #[.int .i64 0, .int .i64 0, .int .i64 0, .int .i64 0] 32)) := balloc (balloc (balloc (Below.refl _ _) _) _) _
  clear h
  go_enter Try.func12, Try.ntmps12
  go_wp2_with fail
  refine (hr.out _).mono ?_
  rintro e w1 ⟨rfl, hb1⟩
  obtain ⟨hc1, hf1⟩ := bcell hb1
  go_wp2_with fail
  refine bodyPost_ret (v := .tuple #[.agg #[.int .i64 0, .int .i64 0, .int .i64 0, .int .i64 0], .int .i64 2]) (by simp [results, Try.results12, go_sem, hc1]) rfl ⟨rfl, ?_⟩
  repeat (first | refine bset ?_ (by simp; try omega) _ | exact bstep hb0 hb1)

theorem rstep_no_scheme (b i w f : Int) (s : ByteArray) (wr fr ce base : Int) (W : World) (hs : s.size ≤ 9223372036854775807) (h : rgt b i w f) (k : Int) (hk : Hid (wrg s.data.toList wr fr ce = k)) (hk0 : ¬ k = 0) :
    Calls Try.prog 12 #[.agg #[.int .i64 b, .int .i64 i, .int .i64 w, .int .i64 f], .agg #[.string s, .int .i64 wr, .int .i64 fr, .int .i64 ce], .int .i64 base] W (StepOut ((0, 0, 0, 0), k) W) := by
  have hr := Lib.hid (fun W => rright_is b i w f true (decide_eq_true h) W)
  have hwr := Lib.hid (fun W => rcheck_is s wr fr ce k hk W hs)
  have hb0 : Below W.heap.size W (((W.alloc (.cells #[.int .i64 b, .int .i64 i, .int .i64 w, .int .i64 f] 32)).alloc (.cells #[.string s, .int .i64 wr, .int .i64 fr, .int .i64 ce] 27)).alloc (.cells #[.int .i64 0, .int .i64 0, .int .i64 0, .int .i64 0] 32)) := balloc (balloc (balloc (Below.refl _ _) _) _) _
  have hkb : (k != 0) = true := by simp [hk0]
  clear h hk0
  go_enter Try.func12, Try.ntmps12
  go_wp2_with fail
  refine (hr.out _).mono ?_
  rintro e w1 ⟨rfl, hb1⟩
  obtain ⟨hc, hff⟩ := bcell hb1
  go_wp2_with fail
  refine (hwr.out _).mono ?_
  rintro e w2 ⟨rfl, hb2⟩
  have h12 := bstep hb1 hb2
  clear hc hff
  obtain ⟨hc, hff⟩ := bcell h12
  go_wp2_with fail
  refine bodyPost_ret (v := .tuple #[.agg #[.int .i64 0, .int .i64 0, .int .i64 0, .int .i64 0], .int .i64 k]) (by simp [results, Try.results12, go_sem, hc]) rfl ⟨rfl, ?_⟩
  repeat (first | refine bset ?_ (by simp; try omega) _ | exact bstep hb0 h12)

theorem rstep_no_base (b i w f : Int) (s : ByteArray) (wr fr ce base : Int) (W : World) (hs : s.size ≤ 9223372036854775807) (h : rgt b i w f) (hk : Hid (wrg s.data.toList wr fr ce = 0)) (hbase : ¬ fit base) :
    Calls Try.prog 12 #[.agg #[.int .i64 b, .int .i64 i, .int .i64 w, .int .i64 f], .agg #[.string s, .int .i64 wr, .int .i64 fr, .int .i64 ce], .int .i64 base] W (StepOut ((0, 0, 0, 0), 2) W) := by
  have hr := Lib.hid (fun W => rright_is b i w f true (decide_eq_true h) W)
  have hwr := Lib.hid (fun W => rcheck_is s wr fr ce 0 hk W hs)
  have hfi := Lib.hid (fun W => ref_fits base false (decide_eq_false hbase) W)
  have hb0 : Below W.heap.size W (((W.alloc (.cells #[.int .i64 b, .int .i64 i, .int .i64 w, .int .i64 f] 32)).alloc (.cells #[.string s, .int .i64 wr, .int .i64 fr, .int .i64 ce] 27)).alloc (.cells #[.int .i64 0, .int .i64 0, .int .i64 0, .int .i64 0] 32)) := balloc (balloc (balloc (Below.refl _ _) _) _) _
  clear h hbase
  go_enter Try.func12, Try.ntmps12
  go_wp2_with fail
  refine (hr.out _).mono ?_
  rintro e w1 ⟨rfl, hb1⟩
  obtain ⟨hc, hff⟩ := bcell hb1
  go_wp2_with fail
  refine (hwr.out _).mono ?_
  rintro e w2 ⟨rfl, hb2⟩
  have h12 := bstep hb1 hb2
  clear hc hff
  obtain ⟨hc, hff⟩ := bcell h12
  go_wp2_with fail
  refine (hfi.out _).mono ?_
  rintro e w3 ⟨rfl, rfl⟩
  go_wp2_with fail
  refine bodyPost_ret (v := .tuple #[.agg #[.int .i64 0, .int .i64 0, .int .i64 0, .int .i64 0], .int .i64 2]) (by simp [results, Try.results12, go_sem, hc]) rfl ⟨rfl, ?_⟩
  repeat (first | refine bset ?_ (by simp; try omega) _ | exact bstep hb0 h12)

set_option maxRecDepth 100000 in
set_option maxHeartbeats 4000000 in
theorem rstep_go (b i w f : Int) (s : ByteArray) (wr fr ce base : Int) (W : World) (hs : s.size ≤ 9223372036854775807) (h : rgt b i w f) (hk : Hid (wrg s.data.toList wr fr ce = 0)) (hbase : fit base) :
    Calls Try.prog 12 #[.agg #[.int .i64 b, .int .i64 i, .int .i64 w, .int .i64 f], .agg #[.string s, .int .i64 wr, .int .i64 fr, .int .i64 ce], .int .i64 base] W (StepOut (stp b i w f wr fr ce base) W) := by
  have hr := Lib.hid (fun W => rright_is b i w f true (decide_eq_true h) W)
  have hwr := Lib.hid (fun W => rcheck_is s wr fr ce 0 hk W hs)
  have hfi := Lib.hid (fun W => ref_fits base true (decide_eq_true hbase) W)
  have hb0 : Below W.heap.size W (((W.alloc (.cells #[.int .i64 b, .int .i64 i, .int .i64 w, .int .i64 f] 32)).alloc (.cells #[.string s, .int .i64 wr, .int .i64 fr, .int .i64 ce] 27)).alloc (.cells #[.int .i64 0, .int .i64 0, .int .i64 0, .int .i64 0] 32)) := balloc (balloc (balloc (Below.refl _ _) _) _) _
  obtain ⟨_, k1, k2, k3, k4, k5, k6⟩ := wrg_zero hk.out
  obtain ⟨⟨f0, f1⟩, ⟨i0, i1⟩, ⟨w0, w1⟩, ⟨p0, p1⟩⟩ := h
  obtain ⟨g0, g1⟩ := hbase
  have hB0 : -2251799813685248 ≤ b + base := by omega
  have hB1 : b + base ≤ 2251799813685248 := by omega
  obtain ⟨T, hT⟩ : ∃ T, topOf (b + base) ce = T := ⟨_, rfl⟩
  have hT1 : -2251799813685248 ≤ T := by rw [← hT]; unfold topOf; split <;> (try split) <;> omega
  have hT2 : T ≤ 2251799813685248 := by rw [← hT]; unfold topOf; split <;> (try split) <;> omega
  have HT := Lib.hid hT
  have hstp : Hid (stp b i w f wr fr ce base = if rgt (b + base) (i + partOf T i) (w + rnd (capOf (partOf T i)) wr) (f + rnd (capOf (partOf T i)) fr) then ((b + base, i + partOf T i, w + rnd (capOf (partOf T i)) wr, f + rnd (capOf (partOf T i)) fr), 0) else ((0, 0, 0, 0), 9)) := by
    show _ = _; unfold stp; simp only [hT]
  clear hT
  go_enter Try.func12, Try.ntmps12
  go_wp2_with fail
  refine (hr.out _).mono ?_
  rintro e w1 ⟨rfl, hb1⟩
  obtain ⟨hc, hff⟩ := bcell hb1
  go_wp2_with fail
  refine (hwr.out _).mono ?_
  rintro e w2 ⟨rfl, hb2⟩
  have h12 := bstep hb1 hb2
  clear hc hff
  obtain ⟨hc, hff⟩ := bcell h12
  have hz : W.heap.size + 1 + 1 < w2.heap.size := by have := h12.size; simp at this; omega
  have hz1 : W.heap.size + 1 < w2.heap.size := by omega
  have hz0 : W.heap.size < w2.heap.size := by omega
  go_wp2_with fail
  refine (hfi.out _).mono ?_
  rintro e w3 ⟨rfl, rfl⟩
  obtain ⟨q, hq⟩ : ∃ q : Bool, decide (0 < ce ∧ ce < b + base) = q := ⟨_, rfl⟩
  have HQ := Lib.hid hq
  clear hq
  go_upto_region 11 with fail
  go_cut [45] (fun s45 wx => s45 = .bool q ∧ wx = w2.alloc (.cells #[.int .i64 (b + base), .int .i64 i, .int .i64 w, .int .i64 f] 32))
  case first =>
    by_cases c0 : 0 < ce
    · by_cases c1 : ce < b + base
      · have hv : Hid (q = true) := by show _ = _; rw [← HQ.out]; exact decide_eq_true ⟨c0, c1⟩
        go_wp2_with fail
        go_meet
        exact ⟨by rw [hv.out], rfl⟩
      · have hv : Hid (q = false) := by show _ = _; rw [← HQ.out]; exact decide_eq_false (fun h => c1 h.2)
        have c1' : decide (ce < b + base) = false := decide_eq_false c1
        go_wp2_with fail
        go_meet
        exact ⟨by rw [hv.out], rfl⟩
    · have hv : Hid (q = false) := by show _ = _; rw [← HQ.out]; exact decide_eq_false (fun h => c0 h.1)
      have c0' : decide (0 < ce) = false := decide_eq_false c0
      go_wp2_with fail
      go_meet
      exact ⟨by rw [hv.out], rfl⟩
  case rest =>
    obtain ⟨rfl, rfl⟩ := hcut
    go_upto_if 45 with fail
    go_cut [10] (fun s10 wx => s10 = .int .i64 T ∧ wx = w2.alloc (.cells #[.int .i64 (b + base), .int .i64 i, .int .i64 w, .int .i64 f] 32))
    case first =>
      cases q
      · have hv : Hid (b + base = T) := by
          have h := of_decide_eq_false HQ.out
          show _ = _; rw [← HT.out]; unfold topOf
          split
          · rename_i h1
            split
            · rename_i h2; exact absurd ⟨h1, h2⟩ h
            · rfl
          · rfl
        go_wp2_with fail
        go_meet
        exact ⟨by rw [← hv.out], rfl⟩
      · have hv : Hid (ce = T) := by
          obtain ⟨h1, h2⟩ := of_decide_eq_true HQ.out
          show _ = _; rw [← HT.out]; unfold topOf; rw [if_pos h1, if_pos h2]
        go_wp2_with fail
        go_meet
        exact ⟨by rw [← hv.out], rfl⟩
    case rest =>
     obtain ⟨rfl, rfl⟩ := hcut
     by_cases c0 : i < T
     · have hP : partOf T i = T - i := by unfold partOf; rw [if_neg (by omega)]
       rw [hP] at hstp
       by_cases big : 1125899906842624 < T - i
       · have hq : Hid (stp b i w f wr fr ce base = ((0, 0, 0, 0), 9)) := by
           show _ = _; rw [hstp.out, if_neg]
           intro h
           have := h.2.1
           unfold amt at this; omega
         have hX := Lib.hid (fun W => of_big (T - i) wr big W)
         have hY := Lib.hid (fun W => of_big (T - i) fr big W)
         unfold IntOut at hX hY
         clear hP hstp
         go_wp2_with fail
         refine (hX.out _).mono ?_
         rintro e w4 ⟨rfl, hb4⟩
         obtain ⟨hc4, hf4⟩ := bcell hb4
         go_wp2_with fail
         refine (hY.out _).mono ?_
         rintro e w5 ⟨rfl, hb5⟩
         clear hc4 hf4
         obtain ⟨hc5, hf5⟩ := bcell (bstep hb4 hb5)
         have hz5 : w2.heap.size < w5.heap.size := by have := (bstep hb4 hb5).size; simp at this; omega
         have hB5 : Below w2.heap.size w2 w5 := bstep (balloc (Below.refl _ _) _) (bstep hb4 hb5)
         go_wp2_with fail
         refine bodyPost_ret (v := .tuple #[.agg #[.int .i64 0, .int .i64 0, .int .i64 0, .int .i64 0], .int .i64 9]) (by simp [results, Try.results12, go_sem, hc5, hc, hz, hz1]) rfl ?_
         rw [hq.out]
         refine ⟨rfl, ?_⟩
         repeat (first | refine bset ?_ (by simp; try omega) _ | exact bstep hb0 (bstep h12 hB5))
       · have hC : capOf (T - i) = T - i := by unfold capOf; rw [if_neg big]
         obtain ⟨x, hx⟩ : ∃ x, rnd (T - i) wr = x := ⟨_, rfl⟩
         obtain ⟨y, hy⟩ : ∃ y, rnd (T - i) fr = y := ⟨_, rfl⟩
         have hxb := rnd_bd (T - i) wr (by omega) (by omega) k1 k2
         have hyb := rnd_bd (T - i) fr (by omega) (by omega) k3 k4
         have hX := Lib.hid (fun W => of_int (T - i) wr x (by omega) (by omega) k1 k2 hx W)
         have hY := Lib.hid (fun W => of_int (T - i) fr y (by omega) (by omega) k3 k4 hy W)
         unfold IntOut at hX hY
         rw [hx] at hxb
         rw [hy] at hyb
         rw [hC, hx, hy, show i + (T - i) = T by omega] at hstp
         obtain ⟨x0, x1⟩ := hxb
         obtain ⟨y0, y1⟩ := hyb
         obtain ⟨bb, hbb⟩ : ∃ bb, decide (rgt (b + base) T (w + x) (f + y)) = bb := ⟨_, rfl⟩
         have hr2 := Lib.hid (fun W => rright_is (b + base) T (w + x) (f + y) bb hbb W)
         have HB := Lib.hid hbb
         have big' : decide (1125899906842624 < T - i) = false := decide_eq_false big
         clear hx hy hP hC hbb big
         go_wp2_with fail
         refine (hX.out _).mono ?_
         rintro e w4 ⟨rfl, hb4⟩
         obtain ⟨hc4, hf4⟩ := bcell hb4
         go_wp2_with fail
         refine (hY.out _).mono ?_
         rintro e w5 ⟨rfl, hb5⟩
         have hb45 := bstep hb4 hb5
         clear hc4 hf4
         obtain ⟨hc5, hf5⟩ := bcell hb45
         have hz5 : w2.heap.size < w5.heap.size := by have := hb45.size; simp at this; omega
         have hB5 : Below w2.heap.size w2 w5 := bstep (balloc (Below.refl _ _) _) hb45
         go_wp2_with fail
         refine (hr2.out _).mono ?_
         rintro e w6 ⟨rfl, hb6⟩
         obtain ⟨hc6, hf6⟩ := bcell hb6
         have hz6 : w2.heap.size < w6.heap.size := by have := hb6.size; simp at this; omega
         have hB6 : Below w2.heap.size w2 w6 := by
           refine Below.trans ?_ (hb6.mono (show w2.heap.size ≤ _ by simp; omega))
           repeat (first | refine bset ?_ (by simp) _ | exact hB5)
         have hgo : ∀ k o, k < w2.heap.size → w6.cell? ⟨k, o, none⟩ = w2.cell? ⟨k, o, none⟩ := fun k o hk => hB6.cell (p := ⟨k, o, none⟩) hk
         have hgf : ∀ k o, k < w2.heap.size → w6.frozen? ⟨k, o, none⟩ = w2.frozen? ⟨k, o, none⟩ := fun k o hk => hB6.frozen (p := ⟨k, o, none⟩) hk
         cases bb
         · go_wp2_with fail
           refine bodyPost_ret (v := .tuple #[.agg #[.int .i64 0, .int .i64 0, .int .i64 0, .int .i64 0], .int .i64 9]) (by simp [results, Try.results12, go_sem, hgo, hc, hz]) rfl ?_
           have hq : Hid (stp b i w f wr fr ce base = ((0, 0, 0, 0), 9)) := by show _ = _; rw [hstp.out, if_neg (of_decide_eq_false HB.out)]
           rw [hq.out]
           refine ⟨rfl, ?_⟩
           repeat (first | refine bset ?_ (by simp; try omega) _ | exact bstep hb0 (bstep h12 hB6))
         · go_wp2_with fail
           refine bodyPost_ret (v := .tuple #[.agg #[.int .i64 (b + base), .int .i64 T, .int .i64 (w + x), .int .i64 (f + y)], .int .i64 0]) (by simp [results, Try.results12, go_sem, hgo, hc, hz]) rfl ?_
           have hq : Hid (stp b i w f wr fr ce base = ((b + base, T, w + x, f + y), 0)) := by show _ = _; rw [hstp.out, if_pos (of_decide_eq_true HB.out)]
           rw [hq.out]
           refine ⟨rfl, ?_⟩
           repeat (first | refine bset ?_ (by simp; try omega) _ | exact bstep hb0 (bstep h12 hB6))
     · have hP : partOf T i = 0 := by unfold partOf; split <;> omega
       rw [hP, show capOf 0 = 0 from rfl, rnd_none, rnd_none, Int.add_zero, Int.add_zero, Int.add_zero] at hstp
       obtain ⟨bb, hbb⟩ : ∃ bb, decide (rgt (b + base) i w f) = bb := ⟨_, rfl⟩
       have hr2 := Lib.hid (fun W => rright_is (b + base) i w f bb hbb W)
       have HB := Lib.hid hbb
       have c0' : decide (i < T) = false := decide_eq_false c0
       clear hP hbb
       go_wp2_with fail
       refine (hr2.out _).mono ?_
       rintro e w6 ⟨rfl, hb6⟩
       obtain ⟨hc6, hf6⟩ := bcell hb6
       have hz6 : w2.heap.size < w6.heap.size := by have := hb6.size; simp at this; omega
       have hB6 : Below w2.heap.size w2 w6 := bstep (balloc (Below.refl _ _) _) hb6
       cases bb
       · go_wp2_with fail
         refine bodyPost_ret (v := .tuple #[.agg #[.int .i64 0, .int .i64 0, .int .i64 0, .int .i64 0], .int .i64 9]) (by simp [results, Try.results12, go_sem, hc6, hc, hz, hz1]) rfl ?_
         have hq : Hid (stp b i w f wr fr ce base = ((0, 0, 0, 0), 9)) := by show _ = _; rw [hstp.out, if_neg (of_decide_eq_false HB.out)]
         rw [hq.out]
         refine ⟨rfl, ?_⟩
         repeat (first | refine bset ?_ (by simp; try omega) _ | exact bstep hb0 (bstep h12 hB6))
       · go_wp2_with fail
         refine bodyPost_ret (v := .tuple #[.agg #[.int .i64 (b + base), .int .i64 i, .int .i64 w, .int .i64 f], .int .i64 0]) (by simp [results, Try.results12, go_sem, hc6, hc, hz, hz1]) rfl ?_
         have hq : Hid (stp b i w f wr fr ce base = ((b + base, i, w, f), 0)) := by show _ = _; rw [hstp.out, if_pos (of_decide_eq_true HB.out)]
         rw [hq.out]
         refine ⟨rfl, ?_⟩
         repeat (first | refine bset ?_ (by simp; try omega) _ | exact bstep hb0 (bstep h12 hB6))

theorem rstep_any (b i w f : Int) (s : ByteArray) (wr fr ce base : Int) (W : World) (hs : s.size ≤ 9223372036854775807) :
    Calls Try.prog 12 #[.agg #[.int .i64 b, .int .i64 i, .int .i64 w, .int .i64 f], .agg #[.string s, .int .i64 wr, .int .i64 fr, .int .i64 ce], .int .i64 base] W (StepOut (sstep b i w f s.data.toList wr fr ce base) W) := by
  unfold sstep
  by_cases h1 : rgt b i w f
  · rw [if_neg (show ¬ ¬ rgt b i w f from fun h => h h1)]
    by_cases h2 : wrg s.data.toList wr fr ce = 0
    · rw [if_neg (show ¬ wrg s.data.toList wr fr ce ≠ 0 from fun h => h h2)]
      by_cases h3 : fit base
      · rw [if_neg (show ¬ ¬ fit base from fun h => h h3)]
        exact rstep_go b i w f s wr fr ce base W hs h1 h2 h3
      · rw [if_pos h3]
        exact rstep_no_base b i w f s wr fr ce base W hs h1 h2 h3
    · rw [if_pos h2]
      exact rstep_no_scheme b i w f s wr fr ce base W hs h1 _ rfl h2
  · rw [if_pos h1]
    exact rstep_no_sums b i w f s wr fr ce base W hs h1
end Go.Proofs.Ytdmkjdlneadkcaa.W
