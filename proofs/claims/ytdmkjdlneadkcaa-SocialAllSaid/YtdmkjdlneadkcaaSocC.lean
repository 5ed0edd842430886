/- The walk of the social law's example. -/
import Derived.Test.YtdmkjdlneadkcaaSocB
import Derived.Deep.RegionWith
import Derived.Deep.RegionHeld3
import Derived.Laws.StructEq
namespace Go.Proofs.Ytdmkjdlneadkcaa.W
open Go.RowKit Go.Proofs.Ytdmkjdlneadkcaa.M Go.Proofs.Ytdmkjdlneadkcaa.B Go.Proofs.Ytdmkjdlneadkcaa.S
set_option linter.unusedVariables false

/-- Sums that lie in memory. -/
structure SumAt (w : World) (g : Nat) (a b c d : Int) : Prop where
  lt : g < w.heap.size
  c0 : w.cell? ⟨g, 0, none⟩ = some (.int .i64 a)
  c1 : w.cell? ⟨g, 1, none⟩ = some (.int .i64 b)
  c2 : w.cell? ⟨g, 2, none⟩ = some (.int .i64 c)
  c3 : w.cell? ⟨g, 3, none⟩ = some (.int .i64 d)
theorem SumAt.next {B : Nat} {w w' : World} {g : Nat} {a b c d : Int} (h : SumAt w g a b c d) (hb : Below B w w') (hB : g < B) : SumAt w' g a b c d :=
  ⟨Nat.lt_of_lt_of_le h.lt hb.size, bc hb hB h.c0, bc hb hB h.c1, bc hb hB h.c2, bc hb hB h.c3⟩
theorem SumAt.step {w w' : World} {g : Nat} {a b c d : Int} (h : SumAt w g a b c d) (hb : Below w.heap.size w w') : SumAt w' g a b c d := h.next hb h.lt
theorem SumAt.alloc {w : World} {g : Nat} {a b c d : Int} (h : SumAt w g a b c d) (o : Obj) : SumAt (w.alloc o) g a b c d := h.step (balloc (Below.refl _ _) o)
theorem SumAt.new {w w' : World} {a b c d : Int} (hb : Below (w.alloc (.cells #[.int .i64 a, .int .i64 b, .int .i64 c, .int .i64 d] 24)).heap.size (w.alloc (.cells #[.int .i64 a, .int .i64 b, .int .i64 c, .int .i64 d] 24)) w') : SumAt w' w.heap.size a b c d := by
  refine SumAt.step ⟨by simp, ?_, ?_, ?_, ?_⟩ hb <;> go_simp
theorem sum_set {w : World} {g : Nat} {a b c d a' b' c' d' : Int} (h : SumAt w g a b c d) :
    SumAt ((((w.setCell ⟨g, 0, none⟩ (.int .i64 a')).setCell ⟨g, 1, none⟩ (.int .i64 b')).setCell ⟨g, 2, none⟩ (.int .i64 c')).setCell ⟨g, 3, none⟩ (.int .i64 d')) g a' b' c' d' := by
  have s0 : (w.setCell ⟨g, 0, none⟩ (.int .i64 a')).cell? ⟨g, 0, none⟩ = some (.int .i64 a') := World.cell?_setCell_same _ _ _ h.c0
  have s1 : ((w.setCell ⟨g, 0, none⟩ (.int .i64 a')).setCell ⟨g, 1, none⟩ (.int .i64 b')).cell? ⟨g, 1, none⟩ = some (.int .i64 b') := World.cell?_setCell_same _ _ _ (u := .int .i64 b) (by rw [World.cell?_setCell_other _ _ _ _ (by simp)]; exact h.c1)
  have s2 : (((w.setCell ⟨g, 0, none⟩ (.int .i64 a')).setCell ⟨g, 1, none⟩ (.int .i64 b')).setCell ⟨g, 2, none⟩ (.int .i64 c')).cell? ⟨g, 2, none⟩ = some (.int .i64 c') := World.cell?_setCell_same _ _ _ (u := .int .i64 c) (by rw [World.cell?_setCell_other _ _ _ _ (by simp), World.cell?_setCell_other _ _ _ _ (by simp)]; exact h.c2)
  refine ⟨by simpa using h.lt, ?_, ?_, ?_, ?_⟩
  · rw [World.cell?_setCell_other _ _ _ _ (by simp), World.cell?_setCell_other _ _ _ _ (by simp), World.cell?_setCell_other _ _ _ _ (by simp)]; exact s0
  · rw [World.cell?_setCell_other _ _ _ _ (by simp), World.cell?_setCell_other _ _ _ _ (by simp)]; exact s1
  · rw [World.cell?_setCell_other _ _ _ _ (by simp)]; exact s2
  · exact World.cell?_setCell_same _ _ _ (u := .int .i64 d) (by rw [World.cell?_setCell_other _ _ _ _ (by simp), World.cell?_setCell_other _ _ _ _ (by simp), World.cell?_setCell_other _ _ _ _ (by simp)]; exact h.c3)

theorem old_is (W : World) : Calls Try.prog 20 #[] W fun e w' => e = .returned (.agg #[.string ⟨#[111, 108, 100]⟩, .int .i64 100000, .int .i64 120000, .int .i64 700000]) ∧ Below W.heap.size W w' := by
  go_enter Try.func20, Try.ntmps20
  go_wp2_with fail
  refine bodyPost_ret (v := .agg #[.string ⟨#[111, 108, 100]⟩, .int .i64 100000, .int .i64 120000, .int .i64 700000]) (by simp [results, Try.results20, go_sem]) rfl ⟨rfl, balloc (Below.refl _ _) _⟩

theorem i64_of (x : Int) (h : -1125899906842624000 ≤ x ∧ x ≤ 1125899906842624000) : I64 x := ⟨by omega, by omega⟩
theorem st1 (W : World) : Calls Try.prog 11 #[.agg #[.int .i64 0, .int .i64 0, .int .i64 0, .int .i64 0], .agg #[.string ⟨#[111, 108, 100]⟩, .int .i64 100000, .int .i64 120000, .int .i64 700000], .int .i64 300000] W fun e w' => e = .returned (.tuple #[.agg #[.int .i64 300000, .int .i64 300000, .int .i64 30000, .int .i64 36000], .int .i64 0]) ∧ Below W.heap.size W w' := by
  have h := step_any 0 0 0 0 ⟨#[111, 108, 100]⟩ 100000 120000 700000 300000 W (by decide) (i64_of _ (by omega)) (i64_of _ (by omega)) (i64_of _ (by omega)) (i64_of _ (by omega)) (i64_of _ (by omega)) (i64_of _ (by omega)) (i64_of _ (by omega)) (i64_of _ (by omega))
  rw [show sstep 0 0 0 0 (⟨#[111, 108, 100]⟩ : ByteArray).data.toList 100000 120000 700000 300000 = ((300000, 300000, 30000, 36000), 0) from by decide] at h
  exact h
theorem st2 (W : World) : Calls Try.prog 11 #[.agg #[.int .i64 300000, .int .i64 300000, .int .i64 30000, .int .i64 36000], .agg #[.string ⟨#[111, 108, 100]⟩, .int .i64 100000, .int .i64 120000, .int .i64 700000], .int .i64 300000] W fun e w' => e = .returned (.tuple #[.agg #[.int .i64 600000, .int .i64 600000, .int .i64 60000, .int .i64 72000], .int .i64 0]) ∧ Below W.heap.size W w' := by
  have h := step_any 300000 300000 30000 36000 ⟨#[111, 108, 100]⟩ 100000 120000 700000 300000 W (by decide) (i64_of _ (by omega)) (i64_of _ (by omega)) (i64_of _ (by omega)) (i64_of _ (by omega)) (i64_of _ (by omega)) (i64_of _ (by omega)) (i64_of _ (by omega)) (i64_of _ (by omega))
  rw [show sstep 300000 300000 30000 36000 (⟨#[111, 108, 100]⟩ : ByteArray).data.toList 100000 120000 700000 300000 = ((600000, 600000, 60000, 72000), 0) from by decide] at h
  exact h
theorem st3 (W : World) : Calls Try.prog 11 #[.agg #[.int .i64 600000, .int .i64 600000, .int .i64 60000, .int .i64 72000], .agg #[.string ⟨#[111, 108, 100]⟩, .int .i64 100000, .int .i64 120000, .int .i64 700000], .int .i64 300000] W fun e w' => e = .returned (.tuple #[.agg #[.int .i64 900000, .int .i64 700000, .int .i64 70000, .int .i64 84000], .int .i64 0]) ∧ Below W.heap.size W w' := by
  have h := step_any 600000 600000 60000 72000 ⟨#[111, 108, 100]⟩ 100000 120000 700000 300000 W (by decide) (i64_of _ (by omega)) (i64_of _ (by omega)) (i64_of _ (by omega)) (i64_of _ (by omega)) (i64_of _ (by omega)) (i64_of _ (by omega)) (i64_of _ (by omega)) (i64_of _ (by omega))
  rw [show sstep 600000 600000 60000 72000 (⟨#[111, 108, 100]⟩ : ByteArray).data.toList 100000 120000 700000 300000 = ((900000, 700000, 70000, 84000), 0) from by decide] at h
  exact h
theorem rm2 (W : World) : Calls Try.prog 14 #[.agg #[.int .i64 600000, .int .i64 600000, .int .i64 60000, .int .i64 72000], .agg #[.string ⟨#[111, 108, 100]⟩, .int .i64 100000, .int .i64 120000, .int .i64 700000]] W fun e w' => e = .returned (.int .i64 100000) ∧ Below W.heap.size W w' :=
  room_any 600000 600000 60000 72000 ⟨#[111, 108, 100]⟩ 100000 120000 700000 W (by decide) (i64_of _ (by omega)) (i64_of _ (by omega)) (i64_of _ (by omega)) (i64_of _ (by omega)) (i64_of _ (by omega)) (i64_of _ (by omega)) (i64_of _ (by omega)) 100000 (by show _ = _; decide)

theorem eql_sums (a b c d a' b' c' d' : Int) (w : World) : (binOp .eql 24 (.agg #[.int .i64 a, .int .i64 b, .int .i64 c, .int .i64 d]) (.agg #[.int .i64 a', .int .i64 b', .int .i64 c', .int .i64 d'])).run Try.prog w = .ok (.bool (a == a' && (b == b' && (c == c' && d == d')))) w := by
  have u := Try.underlying22
  have ia := Try.isAgg22
  have z := Try.sizeOf22
  have hS : Try.prog.underlying 24 = some (.struct (Try.prog.fieldsOf 24)) := by kernel_rfl
  have hp : Try.prog.stoodInHeld 24 = false := by kernel_rfl
  rw [run_eql_struct, show (10000 : Nat) = 9999 + 1 from rfl, run_equalIn_agg w 9999 24 _ _ hS hp]
  simp only [Program.fieldsOf, Try.underlying24]
  go_simp
  by_cases h1 : a = a' <;> by_cases h2 : b = b' <;> by_cases h3 : c = c' <;> by_cases h4 : d = d' <;> simp [h1, h2, h3, h4]
theorem old_from {V : World} (w : World) (hB : Below V.heap.size V w) : Calls Try.prog 20 #[] w fun e w' => e = .returned (.agg #[.string ⟨#[111, 108, 100]⟩, .int .i64 100000, .int .i64 120000, .int .i64 700000]) ∧ Below V.heap.size V w' :=
  (old_is w).mono fun _ _ ⟨he, hb⟩ => ⟨he, bstep hB hb⟩
theorem rm_from {V : World} (w : World) (hB : Below V.heap.size V w) : Calls Try.prog 14 #[.agg #[.int .i64 600000, .int .i64 600000, .int .i64 60000, .int .i64 72000], .agg #[.string ⟨#[111, 108, 100]⟩, .int .i64 100000, .int .i64 120000, .int .i64 700000]] w fun e w' => e = .returned (.int .i64 100000) ∧ Below V.heap.size V w' :=
  (rm2 w).mono fun _ _ ⟨he, hb⟩ => ⟨he, bstep hB hb⟩

set_option maxHeartbeats 4000000 in
theorem awake_any (W : World) : Calls Try.prog 10 #[] W fun e w' => e = .returned (.bool true) ∧ Below W.heap.size W w' := by
  have hgu : Try.prog.eqGuardType Try.prog.depth 24 = false := by kernel_rfl
  go_enter Try.func10, Try.ntmps10
  go_upto_region 2 with (first | (go_at_call 20; refine (old_is _).mono ?_; rintro e w1 ⟨rfl, hb1⟩) | (go_at_call 11; refine (st1 _).mono ?_; rintro e w2 ⟨rfl, hb2⟩))
  have hA := SumAt.new (w := w2) (a := 300000) (b := 300000) (c := 30000) (d := 36000) (Below.refl _ _)
  have hBA : Below W.heap.size W (w2.alloc (.cells #[.int .i64 300000, .int .i64 300000, .int .i64 30000, .int .i64 36000] 24)) := balloc (bstep hb1 hb2) _
  generalize hU : w2.alloc (.cells #[.int .i64 300000, .int .i64 300000, .int .i64 30000, .int .i64 36000] 24) = U at *
  clear hU
  generalize w2.heap.size = g1 at *
  obtain ⟨a0, a1, a2, a3, a4⟩ := id hA
  have a5 : g1 < U.heap.size + 1 := by omega
  go_cut [3, 4] (fun s3 s4 wx => ∃ g : Nat, s3 = .pointer (some ⟨g, 0, none⟩) ∧ s4 = .int .i64 0 ∧ U.heap.size ≤ g ∧ SumAt wx g 600000 600000 60000 72000 ∧ Below U.heap.size U wx)
  case first =>
    go_region_with (first | (go_at_call 20; refine (old_is _).mono ?_; rintro e w3 ⟨rfl, hb3⟩; obtain ⟨hc3, hf3⟩ := bcell hb3; (have hA3 : SumAt w3 g1 300000 300000 30000 36000 := by (first | exact hA.step (below_drew' hb3) | exact (hA.alloc _).step (below_drew' hb3))); obtain ⟨z0, z1, z2, z3, z4⟩ := hA3; (have hy3 : g1 < w3.heap.size := by (have hq := hb3.size; (try simp at hq); omega)); (first | (have hz3 : U.heap.size < w3.heap.size := by (have hq := hb3.size; (try simp at hq); omega)) | skip)) | (go_at_call 11; refine (st2 _).mono ?_; rintro e w4 ⟨rfl, hb4⟩; obtain ⟨hc4, hf4⟩ := bcell hb4; (have hy4 : g1 < w4.heap.size := by (have hq := hb4.size; (try simp at hq); omega)); (first | (have hz4 : U.heap.size < w4.heap.size := by (have hq := hb4.size; (try simp at hq); omega)) | skip)))
    all_goals
      go_wp2_with fail
      go_meet
      have hB4 : Below U.heap.size U w4 := by first | exact bstep (below_drew' hb3) hb4 | exact bstep (balloc (below_drew' hb3) _) hb4 | exact bstep (bstep (balloc (Below.refl _ _) _) (below_drew' hb3)) hb4
      have q3 := hb3.size
      have q4 := hb4.size
      try simp at q3
      try simp at q4
      refine ⟨_, rfl, rfl, by omega, ?_, ?_⟩
      · first
          | exact SumAt.new (Below.refl _ _)
          | exact sum_set (SumAt.new hb4)
          | exact sum_set ((SumAt.new (below_drew' hb3)).step hb4)
      · first
          | exact balloc hB4 _
          | (refine bset (bset (bset (bset hB4 ?_ _) ?_ _) ?_ _) ?_ _ <;> (first | exact Nat.le_refl _ | (show U.heap.size ≤ _; omega)))
  case rest =>
    obtain ⟨g2, rfl, rfl, hg2, hS2, hBB2WC⟩ := hcut
    obtain ⟨V, hV⟩ : ∃ V, V = wc := ⟨_, rfl⟩
    subst hV
    have hS2' := hS2
    have hA1 := hA.step hBB2WC
    clear a0 a1 a2 a3 a4 a5
    obtain ⟨a0, a1, a2, a3, a4⟩ := id hS2'
    have a5 : g2 < V.heap.size + 1 := by omega
    go_upto_region 3 with fail
    go_cut [5, 6] (fun s3 s4 wx => ∃ g : Nat, s3 = .pointer (some ⟨g, 0, none⟩) ∧ s4 = .int .i64 0 ∧ V.heap.size ≤ g ∧ SumAt wx g 900000 700000 70000 84000 ∧ Below V.heap.size V wx)
    case first =>
      go_region_with (first | (go_at_call 20; refine (old_is _).mono ?_; rintro e w3 ⟨rfl, hb3⟩; obtain ⟨hc3, hf3⟩ := bcell hb3; (have hA3 : SumAt w3 g2 600000 600000 60000 72000 := by (first | exact hS2'.step (below_drew' hb3) | exact (hS2'.alloc _).step (below_drew' hb3))); obtain ⟨z0, z1, z2, z3, z4⟩ := hA3; (have hy3 : g2 < w3.heap.size := by (have hq := hb3.size; (try simp at hq); omega)); (first | (have hz3 : V.heap.size < w3.heap.size := by (have hq := hb3.size; (try simp at hq); omega)) | skip)) | (go_at_call 11; refine (st3 _).mono ?_; rintro e w4 ⟨rfl, hb4⟩; obtain ⟨hc4, hf4⟩ := bcell hb4; (have hy4 : g2 < w4.heap.size := by (have hq := hb4.size; (try simp at hq); omega)); (first | (have hz4 : V.heap.size < w4.heap.size := by (have hq := hb4.size; (try simp at hq); omega)) | skip)))
      all_goals
        go_wp2_with fail
        go_meet
        have hB4 : Below V.heap.size V w4 := by first | exact bstep (below_drew' hb3) hb4 | exact bstep (balloc (below_drew' hb3) _) hb4 | exact bstep (bstep (balloc (Below.refl _ _) _) (below_drew' hb3)) hb4
        have q3 := hb3.size
        have q4 := hb4.size
        try simp at q3
        try simp at q4
        refine ⟨_, rfl, rfl, by omega, ?_, ?_⟩
        · first
            | exact SumAt.new (Below.refl _ _)
            | exact sum_set (SumAt.new hb4)
            | exact sum_set ((SumAt.new (below_drew' hb3)).step hb4)
        · first
            | exact balloc hB4 _
            | (refine bset (bset (bset (bset hB4 ?_ _) ?_ _) ?_ _) ?_ _ <;> (first | exact Nat.le_refl _ | (show V.heap.size ≤ _; omega)))
    case rest =>
      obtain ⟨g3, rfl, rfl, hg3, hSg3, hBBg3⟩ := hcut
      have hA2 := hA1.step hBBg3
      have hS3 := hS2'.step hBBg3
      have hBF : Below W.heap.size W wc := bstep hBA (bstep hBB2WC hBBg3)
      clear a0 a1 a2 a3 a4 a5
      obtain ⟨x0, x1, x2, x3, x4⟩ := hA2
      obtain ⟨y0, y1, y2, y3, y4⟩ := hS3
      obtain ⟨t0, t1, t2, t3, t4⟩ := hSg3
      have he1 := fun w => eql_sums 300000 300000 30000 36000 300000 300000 30000 36000 w
      have he3 := fun w => eql_sums 900000 700000 70000 84000 900000 700000 70000 84000 w
      simp only [beq_self_eq_true, Bool.and_self] at he1 he3
      go_upto_region 4 with fail
      go_region_held3 (fun w' => Below wc.heap.size wc w' ∧ ∀ b o, b < wc.heap.size → w'.cell? ⟨b, o, none⟩ = wc.cell? ⟨b, o, none⟩)
        (first | exact ⟨(Below.refl _ _).drew, fun _ _ _ => rfl⟩ | exact ⟨hb1, (bcell hb1).1⟩)
        (first | (go_at_call 20; refine (old_from (V := wc) _ (And.left (by assumption))).mono ?_; rintro e w1 ⟨rfl, hb1⟩) | (go_at_call 14; refine (rm_from (V := wc) _ (And.left (by assumption))).mono ?_; rintro e w1 ⟨rfl, hb1⟩))
      go_wp2
      go_ret
      exact ⟨rfl, bstep hBF hb1⟩
end Go.Proofs.Ytdmkjdlneadkcaa.W
