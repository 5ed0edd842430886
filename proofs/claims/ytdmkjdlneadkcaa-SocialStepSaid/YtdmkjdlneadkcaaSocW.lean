/- The walk of SocialStep. -/
import Derived.Test.YtdmkjdlneadkcaaSocV
namespace Go.Proofs.Ytdmkjdlneadkcaa.W
open Go.RowKit Go.Proofs.Ytdmkjdlneadkcaa.M Go.Proofs.Ytdmkjdlneadkcaa.B Go.Proofs.Ytdmkjdlneadkcaa.S
set_option linter.unusedVariables false

theorem of_is (a b c d : Int) (W : World) : Calls Try.prog 13 #[.agg #[.int .i64 a, .int .i64 b, .int .i64 c, .int .i64 d]] W fun e w' => e = .returned (.agg #[.int .i64 a, .int .i64 b, .int .i64 c, .int .i64 d]) ∧ Below W.heap.size W w' := by
  go_enter Try.func13, Try.ntmps13
  go_wp2_with fail
  refine bodyPost_ret (v := .agg #[.int .i64 a, .int .i64 b, .int .i64 c, .int .i64 d]) (by simp [results, Try.results13, go_sem]) rfl ⟨rfl, balloc (balloc (Below.refl _ _) _) _⟩
theorem of_from {V : World} (a b c d : Int) (w : World) (hB : Below V.heap.size V w) : Calls Try.prog 13 #[.agg #[.int .i64 a, .int .i64 b, .int .i64 c, .int .i64 d]] w fun e w' => e = .returned (.agg #[.int .i64 a, .int .i64 b, .int .i64 c, .int .i64 d]) ∧ Below V.heap.size V w' :=
  (of_is a b c d w).mono fun _ _ ⟨h1, h2⟩ => ⟨h1, bstep hB h2⟩
theorem eql_rsums (a b c d : Int) (w : World) : (binOp .eql 32 (.agg #[.int .i64 a, .int .i64 b, .int .i64 c, .int .i64 d]) (.agg #[.int .i64 a, .int .i64 b, .int .i64 c, .int .i64 d])).run Try.prog w = .ok (.bool true) w := by
  have u := Try.underlying22
  have ia := Try.isAgg22
  have z := Try.sizeOf22
  have hS : Try.prog.underlying 32 = some (.struct (Try.prog.fieldsOf 32)) := by kernel_rfl
  have hp : Try.prog.stoodInHeld 32 = false := by kernel_rfl
  rw [run_eql_struct, show (10000 : Nat) = 9999 + 1 from rfl, run_equalIn_agg w 9999 32 _ _ hS hp]
  simp only [Program.fieldsOf, Try.underlying32]
  go_simp
theorem SumAt.newE {w w' : World} {E : TypeId} {a b c d : Int} (hb : Below (w.alloc (.cells #[.int .i64 a, .int .i64 b, .int .i64 c, .int .i64 d] E)).heap.size (w.alloc (.cells #[.int .i64 a, .int .i64 b, .int .i64 c, .int .i64 d] E)) w') : SumAt w' w.heap.size a b c d := by
  refine SumAt.step ⟨by simp, ?_, ?_, ?_, ?_⟩ hb <;> go_simp
/-- A scheme that lies in memory. -/
structure SchM (w : World) (g : Nat) (s : ByteArray) (a b c : Int) : Prop where
  lt : g < w.heap.size
  c0 : w.cell? ⟨g, 0, none⟩ = some (.string s)
  c1 : w.cell? ⟨g, 1, none⟩ = some (.int .i64 a)
  c2 : w.cell? ⟨g, 2, none⟩ = some (.int .i64 b)
  c3 : w.cell? ⟨g, 3, none⟩ = some (.int .i64 c)
theorem SchM.step {w w' : World} {g : Nat} {s : ByteArray} {a b c : Int} (h : SchM w g s a b c) (hb : Below w.heap.size w w') : SchM w' g s a b c :=
  ⟨Nat.lt_of_lt_of_le h.lt hb.size, bc hb h.lt h.c0, bc hb h.lt h.c1, bc hb h.lt h.c2, bc hb h.lt h.c3⟩
theorem SchM.alloc {w : World} {g : Nat} {s : ByteArray} {a b c : Int} (h : SchM w g s a b c) (o : Obj) : SchM (w.alloc o) g s a b c := h.step (balloc (Below.refl _ _) o)
theorem room_from {V : World} {b i w f : Int} {s : ByteArray} {wr fr ce v : Int} (h : ∀ W, Calls Try.prog 14 #[.agg #[.int .i64 b, .int .i64 i, .int .i64 w, .int .i64 f], .agg #[.string s, .int .i64 wr, .int .i64 fr, .int .i64 ce]] W fun e w' => e = .returned (.int .i64 v) ∧ Below W.heap.size W w') (X : World) (hB : Below V.heap.size V X) :
    Calls Try.prog 14 #[.agg #[.int .i64 b, .int .i64 i, .int .i64 w, .int .i64 f], .agg #[.string s, .int .i64 wr, .int .i64 fr, .int .i64 ce]] X fun e w' => e = .returned (.int .i64 v) ∧ Below V.heap.size V w' :=
  (h X).mono fun _ _ ⟨h1, h2⟩ => ⟨h1, bstep hB h2⟩
theorem rroom_from {V : World} {b i w f : Int} {s : ByteArray} {wr fr ce v : Int} (h : ∀ W, Calls Try.prog 15 #[.agg #[.int .i64 b, .int .i64 i, .int .i64 w, .int .i64 f], .agg #[.string s, .int .i64 wr, .int .i64 fr, .int .i64 ce]] W fun e w' => e = .returned (.int .i64 v) ∧ Below W.heap.size W w') (X : World) (hB : Below V.heap.size V X) :
    Calls Try.prog 15 #[.agg #[.int .i64 b, .int .i64 i, .int .i64 w, .int .i64 f], .agg #[.string s, .int .i64 wr, .int .i64 fr, .int .i64 ce]] X fun e w' => e = .returned (.int .i64 v) ∧ Below V.heap.size V w' :=
  (h X).mono fun _ _ ⟨h1, h2⟩ => ⟨h1, bstep hB h2⟩

set_option maxRecDepth 100000 in
set_option maxHeartbeats 4000000 in
theorem socialStep (b i w f : Int) (s : ByteArray) (wr fr ce base : Int) (W : World) (hb : I64 b) (hi : I64 i) (hw : I64 w) (hf : I64 f) (hs : s.size ≤ 9223372036854775807) (h0 : I64 wr) (h1 : I64 fr) (h2 : I64 ce) (h3 : I64 base) :
    Calls Try.prog 3 #[.agg #[.int .i64 b, .int .i64 i, .int .i64 w, .int .i64 f], .agg #[.string s, .int .i64 wr, .int .i64 fr, .int .i64 ce], .int .i64 base] W fun e w' => e = .returned (.bool true) ∧ Below W.heap.size W w' := by
  have hb0 : Below W.heap.size W ((W.alloc (.cells #[.int .i64 b, .int .i64 i, .int .i64 w, .int .i64 f] 24)).alloc (.cells #[.string s, .int .i64 wr, .int .i64 fr, .int .i64 ce] 27)) := balloc (balloc (Below.refl _ _) _) _
  by_cases big : 300 < s.size
  · have big' : (300 : Int) < (s.size : Int) := by omega
    go_enter Try.func3, Try.ntmps3
    go_wp2_with fail
    refine (awake_any _).mono ?_
    rintro e w1 ⟨rfl, hb1⟩
    obtain ⟨hc, hff⟩ := bcell hb1
    go_wp2_with fail
    go_ret
    exact ⟨rfl, bstep hb0 hb1⟩
  have big' : ¬ (300 : Int) < (s.size : Int) := by omega
  obtain ⟨v, hv⟩ : ∃ v, sroom b i w f s.data.toList wr fr ce = v := ⟨_, rfl⟩
  have hR := Lib.hid (fun W => room_any b i w f s wr fr ce W hs hb hi hw hf h0 h1 h2 v hv)
  have hR2 := Lib.hid (fun W => rroom_is b i w f s wr fr ce v hv W hs)
  have hS1 := fun W => step_any b i w f s wr fr ce base W hs hb hi hw hf h0 h1 h2 h3
  have hS2 := fun W => rstep_any b i w f s wr fr ce base W hs
  obtain ⟨q, hq⟩ : ∃ q, sstep b i w f s.data.toList wr fr ce base = q := ⟨_, rfl⟩
  rw [hq] at hS1 hS2
  unfold StepOut at hS1 hS2
  obtain ⟨⟨B, I, Wk, F⟩, k⟩ := q
  have HS1 := Lib.hid hS1
  have HS2 := Lib.hid hS2
  have hP : SumAt ((W.alloc (.cells #[.int .i64 b, .int .i64 i, .int .i64 w, .int .i64 f] 24)).alloc (.cells #[.string s, .int .i64 wr, .int .i64 fr, .int .i64 ce] 27)) W.heap.size b i w f := SumAt.newE (balloc (Below.refl _ _) _)
  have hQ : SchM ((W.alloc (.cells #[.int .i64 b, .int .i64 i, .int .i64 w, .int .i64 f] 24)).alloc (.cells #[.string s, .int .i64 wr, .int .i64 fr, .int .i64 ce] 27)) (W.heap.size + 1) s wr fr ce := by
    refine ⟨by simp, ?_, ?_, ?_, ?_⟩ <;> go_simp
  clear hS1 hS2 hq hv
  go_enter Try.func3, Try.ntmps3
  go_wp2_with fail
  refine (awake_any _).mono ?_
  rintro e w1 ⟨rfl, hb1⟩
  obtain ⟨hc, hff⟩ := bcell hb1
  go_wp2_with fail
  refine (HS1.out _).mono ?_
  rintro e w2 ⟨rfl, hb2⟩
  go_upto_region 6 with fail
  have hU0 : Below w2.heap.size w2 (w2.alloc (.cells #[.int .i64 B, .int .i64 I, .int .i64 Wk, .int .i64 F] 24)) := balloc (Below.refl _ _) _
  have hX : SumAt (w2.alloc (.cells #[.int .i64 B, .int .i64 I, .int .i64 Wk, .int .i64 F] 24)) w2.heap.size B I Wk F := SumAt.newE (Below.refl _ _)
  generalize w2.alloc (.cells #[.int .i64 B, .int .i64 I, .int .i64 Wk, .int .i64 F] 24) = U at *
  have hPU := ((hP.step hb1).step hb2).step hU0
  have hQU := ((hQ.step hb1).step hb2).step hU0
  have hWU : Below W.heap.size W U := bstep (bstep (bstep hb0 hb1) hb2) hU0
  clear hc hff hP hQ hb1 hb2 hU0 hb0
  generalize w2.heap.size = x7 at *
  obtain ⟨Q, hQe⟩ : ∃ Q, W.heap.size + 1 = Q := ⟨_, rfl⟩
  rw [hQe] at hQU
  rw [hQe]
  obtain ⟨a0, a1, a2, a3, a4⟩ := id hPU
  obtain ⟨c0, c1, c2, c3, c4⟩ := id hQU
  have a5 : W.heap.size < U.heap.size + 1 := by omega
  have c5 : Q < U.heap.size + 1 := by omega
  clear hQe
  go_cut [9, 10] (fun s9 s10 wx => ∃ g : Nat, s9 = .pointer (some ⟨g, 0, none⟩) ∧ s10 = .int .i64 k ∧ U.heap.size ≤ g ∧ SumAt wx g B I Wk F ∧ Below U.heap.size U wx)
  case first =>
    go_region_with (first | (go_at_call 13; refine (of_is b i w f _).mono ?_; rintro e w3 ⟨rfl, hb3⟩; obtain ⟨hc3, hf3⟩ := bcell hb3; (have hA3 : SchM w3 Q s wr fr ce := by (first | exact hQU.step (below_drew' hb3) | exact (hQU.alloc _).step (below_drew' hb3))); obtain ⟨z0, z1, z2, z3, z4⟩ := hA3; (have hy3 : Q < w3.heap.size := by (have hq := hb3.size; (try simp at hq); omega)); (first | (have hz3 : U.heap.size < w3.heap.size := by (have hq := hb3.size; (try simp at hq); omega)) | skip)) | (go_at_call 12; refine (HS2.out _).mono ?_; rintro e w4 ⟨rfl, hb4⟩; obtain ⟨hc4, hf4⟩ := bcell hb4; (have hy4 : Q < w4.heap.size := by (have hq := hb4.size; (try simp at hq); omega)); (first | (have hz4 : U.heap.size < w4.heap.size := by (have hq := hb4.size; (try simp at hq); omega)) | skip)))
    all_goals
      go_wp2_with fail
      go_meet
      have hB4 : Below U.heap.size U w4 := by first | exact bstep (below_drew' hb3) hb4 | exact bstep (balloc (below_drew' hb3) _) hb4 | exact bstep (bstep (balloc (Below.refl _ _) _) (below_drew' hb3)) hb4
      have q3 := hb3.size
      have q4 := hb4.size
      try simp at q3
      try simp at q4
      refine ⟨_, rfl, rfl, by omega, ?_, ?_⟩
      · first
          | exact SumAt.newE (Below.refl _ _)
          | exact sum_set (SumAt.newE hb4)
          | exact sum_set ((SumAt.newE (below_drew' hb3)).step hb4)
      · first
          | exact balloc hB4 _
          | (refine bset (bset (bset (bset hB4 ?_ _) ?_ _) ?_ _) ?_ _ <;> (first | exact Nat.le_refl _ | (show U.heap.size ≤ _; omega)))
  case rest =>
    obtain ⟨g, rfl, rfl, hg, hG, hbg⟩ := hcut
    have hXw := hX.step hbg
    have hPw := hPU.step hbg
    have hQw := hQU.step hbg
    have hBF : Below W.heap.size W wc := bstep hWU hbg
    clear a0 a1 a2 a3 a4 a5 c0 c1 c2 c3 c4 c5 hX hPU hQU hWU
    obtain ⟨x0, x1, x2, x3, x4⟩ := hXw
    obtain ⟨y0, y1, y2, y3, y4⟩ := hPw
    obtain ⟨t0, t1, t2, t3, t4⟩ := hQw
    obtain ⟨u0, u1, u2, u3, u4⟩ := hG
    have he1 := fun w => eql_rsums B I Wk F w
    go_upto_region 7 with fail
    go_region_held3 (fun w' => Below wc.heap.size wc w' ∧ ∀ b o, b < wc.heap.size → w'.cell? ⟨b, o, none⟩ = wc.cell? ⟨b, o, none⟩)
      (first | exact ⟨(Below.refl _ _).drew, fun _ _ _ => rfl⟩ | exact ⟨hb1, (bcell hb1).1⟩)
      (first | (go_at_call 13; refine (of_from (V := wc) _ _ _ _ _ (And.left (by assumption))).mono ?_; rintro e w1 ⟨rfl, hb1⟩) | (go_at_call 14; refine (room_from (V := wc) hR.out _ (And.left (by assumption))).mono ?_; rintro e w1 ⟨rfl, hb1⟩) | (go_at_call 15; refine (rroom_from (V := wc) hR2.out _ (And.left (by assumption))).mono ?_; rintro e w1 ⟨rfl, hb1⟩))
    go_wp2
    go_ret
    exact ⟨rfl, bstep hBF hb1⟩
end Go.Proofs.Ytdmkjdlneadkcaa.W
