/- The walk of SocialRates. -/
import Derived.Test.YtdmkjdlneadkcaaSocE
import Derived.Test.YtdmkjdlneadkcaaSocLR
namespace Go.Proofs.Ytdmkjdlneadkcaa.W
open Go.RowKit Go.Proofs.Ytdmkjdlneadkcaa.M Go.Proofs.Ytdmkjdlneadkcaa.B Go.Proofs.Ytdmkjdlneadkcaa.S
set_option linter.unusedVariables false

theorem SchAt.drew {w : World} {g : Nat} {s : ByteArray} {a b c : Int} (h : SchAt w g s a b c) : SchAt w.drew g s a b c := ⟨h.lt, h.c0, h.c1, h.c2, h.c3⟩
/-- Three copies of a scheme. -/
def Three (w1 wx : World) (s : ByteArray) (ra fr ce : Int) (g7 g8 g9 : Nat) : Prop :=
  (w1.heap.size ≤ g7 ∧ w1.heap.size ≤ g8 ∧ w1.heap.size ≤ g9) ∧ (g7 ≠ g8 ∧ g7 ≠ g9 ∧ g8 ≠ g9) ∧ SchAt wx g7 s ra fr ce ∧ SchAt wx g8 s ra fr ce ∧ SchAt wx g9 s ra fr ce ∧ (∀ o, wx.frozen? ⟨g7, o, none⟩ = false) ∧ (∀ o, wx.frozen? ⟨g8, o, none⟩ = false) ∧ (∀ o, wx.frozen? ⟨g9, o, none⟩ = false) ∧ Below w1.heap.size w1 wx
theorem three_laid (w1 : World) (s : ByteArray) (ra fr ce : Int) (i j k : Nat) (hp : [i, j, k].Perm [0, 1, 2]) : Three w1 (((w1.alloc (.cells #[.string s, .int .i64 ra, .int .i64 fr, .int .i64 ce] 27)).alloc (.cells #[.string s, .int .i64 ra, .int .i64 fr, .int .i64 ce] 27)).alloc (.cells #[.string s, .int .i64 ra, .int .i64 fr, .int .i64 ce] 27)).drew s ra fr ce (w1.heap.size + i) (w1.heap.size + j) (w1.heap.size + k) := by
  have T1 : SchAt (((w1.alloc (.cells #[.string s, .int .i64 ra, .int .i64 fr, .int .i64 ce] 27)).alloc (.cells #[.string s, .int .i64 ra, .int .i64 fr, .int .i64 ce] 27)).alloc (.cells #[.string s, .int .i64 ra, .int .i64 fr, .int .i64 ce] 27)).drew (w1.heap.size + 0) s ra fr ce := ((SchAt.new.step (balloc (Below.refl _ _) _)).step (balloc (Below.refl _ _) _)).drew
  have T2 : SchAt (((w1.alloc (.cells #[.string s, .int .i64 ra, .int .i64 fr, .int .i64 ce] 27)).alloc (.cells #[.string s, .int .i64 ra, .int .i64 fr, .int .i64 ce] 27)).alloc (.cells #[.string s, .int .i64 ra, .int .i64 fr, .int .i64 ce] 27)).drew (w1.alloc (.cells #[.string s, .int .i64 ra, .int .i64 fr, .int .i64 ce] 27)).heap.size s ra fr ce := (SchAt.new.step (balloc (Below.refl _ _) _)).drew
  have T3 : SchAt (((w1.alloc (.cells #[.string s, .int .i64 ra, .int .i64 fr, .int .i64 ce] 27)).alloc (.cells #[.string s, .int .i64 ra, .int .i64 fr, .int .i64 ce] 27)).alloc (.cells #[.string s, .int .i64 ra, .int .i64 fr, .int .i64 ce] 27)).drew ((w1.alloc (.cells #[.string s, .int .i64 ra, .int .i64 fr, .int .i64 ce] 27)).alloc (.cells #[.string s, .int .i64 ra, .int .i64 fr, .int .i64 ce] 27)).heap.size s ra fr ce := SchAt.new.drew
  have e1 : (w1.alloc (.cells #[.string s, .int .i64 ra, .int .i64 fr, .int .i64 ce] 27)).heap.size = w1.heap.size + 1 := by simp
  have e2 : ((w1.alloc (.cells #[.string s, .int .i64 ra, .int .i64 fr, .int .i64 ce] 27)).alloc (.cells #[.string s, .int .i64 ra, .int .i64 fr, .int .i64 ce] 27)).heap.size = w1.heap.size + 2 := by simp
  rw [e1] at T2
  rw [e2] at T3
  have hT : ∀ m, m ∈ [0, 1, 2] → SchAt (((w1.alloc (.cells #[.string s, .int .i64 ra, .int .i64 fr, .int .i64 ce] 27)).alloc (.cells #[.string s, .int .i64 ra, .int .i64 fr, .int .i64 ce] 27)).alloc (.cells #[.string s, .int .i64 ra, .int .i64 fr, .int .i64 ce] 27)).drew (w1.heap.size + m) s ra fr ce := by
    intro m hm
    simp only [List.mem_cons, List.not_mem_nil, or_false] at hm
    rcases hm with rfl | rfl | rfl
    · exact T1
    · exact T2
    · exact T3
  have hF : ∀ m, m ∈ [0, 1, 2] → ∀ o, (((w1.alloc (.cells #[.string s, .int .i64 ra, .int .i64 fr, .int .i64 ce] 27)).alloc (.cells #[.string s, .int .i64 ra, .int .i64 fr, .int .i64 ce] 27)).alloc (.cells #[.string s, .int .i64 ra, .int .i64 fr, .int .i64 ce] 27)).drew.frozen? ⟨w1.heap.size + m, o, none⟩ = false := by
    intro m hm o
    simp only [List.mem_cons, List.not_mem_nil, or_false] at hm
    rcases hm with rfl | rfl | rfl <;> go_simp
  have hi : i ∈ [0, 1, 2] := hp.subset (by simp)
  have hj : j ∈ [0, 1, 2] := hp.subset (by simp)
  have hk : k ∈ [0, 1, 2] := hp.subset (by simp)
  have hn : [i, j, k].Nodup := hp.nodup_iff.2 (by decide)
  simp only [List.nodup_cons, List.mem_cons, List.not_mem_nil, or_false, not_or, List.nodup_nil, and_true] at hn
  exact ⟨by omega, by omega, hT i hi, hT j hj, hT k hk, hF i hi, hF j hj, hF k hk, (balloc (balloc (balloc (Below.refl _ _) _) _) _).drew⟩

theorem sch_set {w : World} {g g' : Nat} {s : ByteArray} {a b c x : Int} (h : SchAt w g s a b c) (hn : g ≠ g') : SchAt (w.setCell ⟨g', 1, none⟩ (.int .i64 x)) g s a b c := by
  have k : ∀ o v, w.cell? ⟨g, o, none⟩ = some v → (w.setCell ⟨g', 1, none⟩ (.int .i64 x)).cell? ⟨g, o, none⟩ = some v := fun o v hv => by
    rw [World.cell?_setCell_other _ _ _ _ (by simp)]; exact hv
  exact ⟨by simpa using h.lt, k _ _ h.c0, k _ _ h.c1, k _ _ h.c2, k _ _ h.c3⟩
theorem sch_set' {w : World} {g : Nat} {s : ByteArray} {a b c x : Int} (h : SchAt w g s a b c) : SchAt (w.setCell ⟨g, 1, none⟩ (.int .i64 x)) g s x b c := by
  have k : ∀ o v, o ≠ 1 → w.cell? ⟨g, o, none⟩ = some v → (w.setCell ⟨g, 1, none⟩ (.int .i64 x)).cell? ⟨g, o, none⟩ = some v := fun o v ho hv => by
    rw [World.cell?_setCell_other _ _ _ _ (by simp)]; exact hv
  exact ⟨by simpa using h.lt, k _ _ (by decide) h.c0, World.cell?_setCell_same _ _ _ h.c1, k _ _ (by decide) h.c2, k _ _ (by decide) h.c3⟩
/-- The three copies, their rates set. -/
theorem three_set {w1 wx : World} {s : ByteArray} {ra fr ce : Int} {g7 g8 g9 : Nat} (h : Three w1 wx s ra fr ce g7 g8 g9) (ot : Int) :
    SchAt (((wx.setCell ⟨g7, 1, none⟩ (.int .i64 0)).setCell ⟨g8, 1, none⟩ (.int .i64 1000000)).setCell ⟨g9, 1, none⟩ (.int .i64 ot)) g7 s 0 fr ce ∧
    SchAt (((wx.setCell ⟨g7, 1, none⟩ (.int .i64 0)).setCell ⟨g8, 1, none⟩ (.int .i64 1000000)).setCell ⟨g9, 1, none⟩ (.int .i64 ot)) g8 s 1000000 fr ce ∧
    SchAt (((wx.setCell ⟨g7, 1, none⟩ (.int .i64 0)).setCell ⟨g8, 1, none⟩ (.int .i64 1000000)).setCell ⟨g9, 1, none⟩ (.int .i64 ot)) g9 s ot fr ce ∧
    Below w1.heap.size w1 (((wx.setCell ⟨g7, 1, none⟩ (.int .i64 0)).setCell ⟨g8, 1, none⟩ (.int .i64 1000000)).setCell ⟨g9, 1, none⟩ (.int .i64 ot)) := by
  obtain ⟨⟨l7, l8, l9⟩, ⟨n78, n79, n89⟩, t7, t8, t9, _, _, _, hb⟩ := h
  exact ⟨sch_set (sch_set (sch_set' t7) n78) n79, sch_set (sch_set' (sch_set t8 n78.symm)) n89, sch_set' (sch_set (sch_set t9 n79.symm) n89.symm), bset (bset (bset hb l7 _) l8 _) l9 _⟩

/-- All but one block of what was there is as it was. -/
structure Kept (V : World) (g : Nat) (w wx : World) : Prop where
  size : w.heap.size ≤ wx.heap.size
  cell : ∀ b o, b < w.heap.size → b ≠ g → wx.cell? ⟨b, o, none⟩ = w.cell? ⟨b, o, none⟩
  frozen : ∀ b o, b < w.heap.size → wx.frozen? ⟨b, o, none⟩ = w.frozen? ⟨b, o, none⟩
  below : Below V.heap.size V wx
theorem Kept.sum {V w wx : World} {g g' : Nat} {a b c d : Int} (k : Kept V g w wx) (h : SumAt w g' a b c d) (hn : g' ≠ g) : SumAt wx g' a b c d :=
  ⟨Nat.lt_of_lt_of_le h.lt k.size, (k.cell _ _ h.lt hn).trans h.c0, (k.cell _ _ h.lt hn).trans h.c1, (k.cell _ _ h.lt hn).trans h.c2, (k.cell _ _ h.lt hn).trans h.c3⟩
theorem Kept.of {V w w4 : World} {g : Nat} (hb : Below V.heap.size V w) (h : Below w.heap.size w w4) (hg : V.heap.size ≤ g) (a b c d : Value) :
    Kept V g w ((((w4.setCell ⟨g, 0, none⟩ a).setCell ⟨g, 1, none⟩ b).setCell ⟨g, 2, none⟩ c).setCell ⟨g, 3, none⟩ d) := by
  refine ⟨by simpa using h.size, fun b o hb hn => ?_, fun b o hb => ?_, bset (bset (bset (bset (bstep hb h) hg _) hg _) hg _) hg _⟩
  · rw [World.cell?_setCell_other _ _ _ _ (by simp), World.cell?_setCell_other _ _ _ _ (by simp), World.cell?_setCell_other _ _ _ _ (by simp), World.cell?_setCell_other _ _ _ _ (by simp)]
    exact (bcell h).1 b o hb
  · simp only [World.frozen?_setCell]
    exact (bcell h).2 b o hb

/-- Four sums that lie apart. -/
structure Quad (V w : World) (ga gb gc gd : Nat) (B I Wa Wd F : Int) : Prop where
  a : SumAt w ga B I Wa F
  b : SumAt w gb B I 0 F
  c : SumAt w gc B I I F
  d : SumAt w gd B I Wd F
  fa : ∀ o, w.frozen? ⟨ga, o, none⟩ = false
  fb : ∀ o, w.frozen? ⟨gb, o, none⟩ = false
  fc : ∀ o, w.frozen? ⟨gc, o, none⟩ = false
  fd : ∀ o, w.frozen? ⟨gd, o, none⟩ = false
  below : Below V.heap.size V w
theorem four_laid (V : World) : Quad V ((((V.alloc (.cells #[.int .i64 0, .int .i64 0, .int .i64 0, .int .i64 0] 24)).alloc (.cells #[.int .i64 0, .int .i64 0, .int .i64 0, .int .i64 0] 24)).alloc (.cells #[.int .i64 0, .int .i64 0, .int .i64 0, .int .i64 0] 24)).alloc (.cells #[.int .i64 0, .int .i64 0, .int .i64 0, .int .i64 0] 24)) V.heap.size (V.heap.size + 1) (V.heap.size + 2) (V.heap.size + 3) 0 0 0 0 0 := by
  have T1 : SumAt ((((V.alloc (.cells #[.int .i64 0, .int .i64 0, .int .i64 0, .int .i64 0] 24)).alloc (.cells #[.int .i64 0, .int .i64 0, .int .i64 0, .int .i64 0] 24)).alloc (.cells #[.int .i64 0, .int .i64 0, .int .i64 0, .int .i64 0] 24)).alloc (.cells #[.int .i64 0, .int .i64 0, .int .i64 0, .int .i64 0] 24)) V.heap.size 0 0 0 0 := (((SumAt.new (Below.refl _ _)).alloc _).alloc _).alloc _
  have T2 : SumAt ((((V.alloc (.cells #[.int .i64 0, .int .i64 0, .int .i64 0, .int .i64 0] 24)).alloc (.cells #[.int .i64 0, .int .i64 0, .int .i64 0, .int .i64 0] 24)).alloc (.cells #[.int .i64 0, .int .i64 0, .int .i64 0, .int .i64 0] 24)).alloc (.cells #[.int .i64 0, .int .i64 0, .int .i64 0, .int .i64 0] 24)) (V.alloc (.cells #[.int .i64 0, .int .i64 0, .int .i64 0, .int .i64 0] 24)).heap.size 0 0 0 0 := ((SumAt.new (Below.refl _ _)).alloc _).alloc _
  have T3 : SumAt ((((V.alloc (.cells #[.int .i64 0, .int .i64 0, .int .i64 0, .int .i64 0] 24)).alloc (.cells #[.int .i64 0, .int .i64 0, .int .i64 0, .int .i64 0] 24)).alloc (.cells #[.int .i64 0, .int .i64 0, .int .i64 0, .int .i64 0] 24)).alloc (.cells #[.int .i64 0, .int .i64 0, .int .i64 0, .int .i64 0] 24)) ((V.alloc (.cells #[.int .i64 0, .int .i64 0, .int .i64 0, .int .i64 0] 24)).alloc (.cells #[.int .i64 0, .int .i64 0, .int .i64 0, .int .i64 0] 24)).heap.size 0 0 0 0 := (SumAt.new (Below.refl _ _)).alloc _
  have T4 : SumAt ((((V.alloc (.cells #[.int .i64 0, .int .i64 0, .int .i64 0, .int .i64 0] 24)).alloc (.cells #[.int .i64 0, .int .i64 0, .int .i64 0, .int .i64 0] 24)).alloc (.cells #[.int .i64 0, .int .i64 0, .int .i64 0, .int .i64 0] 24)).alloc (.cells #[.int .i64 0, .int .i64 0, .int .i64 0, .int .i64 0] 24)) (((V.alloc (.cells #[.int .i64 0, .int .i64 0, .int .i64 0, .int .i64 0] 24)).alloc (.cells #[.int .i64 0, .int .i64 0, .int .i64 0, .int .i64 0] 24)).alloc (.cells #[.int .i64 0, .int .i64 0, .int .i64 0, .int .i64 0] 24)).heap.size 0 0 0 0 := SumAt.new (Below.refl _ _)
  have e1 : (V.alloc (.cells #[.int .i64 0, .int .i64 0, .int .i64 0, .int .i64 0] 24)).heap.size = V.heap.size + 1 := by simp
  have e2 : ((V.alloc (.cells #[.int .i64 0, .int .i64 0, .int .i64 0, .int .i64 0] 24)).alloc (.cells #[.int .i64 0, .int .i64 0, .int .i64 0, .int .i64 0] 24)).heap.size = V.heap.size + 2 := by simp
  have e3 : (((V.alloc (.cells #[.int .i64 0, .int .i64 0, .int .i64 0, .int .i64 0] 24)).alloc (.cells #[.int .i64 0, .int .i64 0, .int .i64 0, .int .i64 0] 24)).alloc (.cells #[.int .i64 0, .int .i64 0, .int .i64 0, .int .i64 0] 24)).heap.size = V.heap.size + 3 := by simp
  rw [e1] at T2
  rw [e2] at T3
  rw [e3] at T4
  refine ⟨T1, T2, T3, T4, ?_, ?_, ?_, ?_, balloc (balloc (balloc (balloc (Below.refl _ _) _) _) _) _⟩ <;> (intro o; go_simp)

set_option maxRecDepth 100000 in
set_option maxHeartbeats 16000000 in
theorem socialRates (s : ByteArray) (ra fr ce : Int) (a : Option Addr) (n cap : Nat) (xs : List Int) (ot : Int) (W : World) (hs : s.size ≤ 9223372036854775807) (h0 : I64 ra) (h1 : I64 fr) (h2 : I64 ce) (hx : Ints .i64 W a n cap xs) (hb : ∀ x ∈ xs, -9223372036854775808 ≤ x ∧ x ≤ 9223372036854775807) (ho : I64 ot) :
    Calls Try.prog 6 #[.agg #[.string s, .int .i64 ra, .int .i64 fr, .int .i64 ce], .slice a n cap, .int .i64 ot] W fun e w' => e = .returned (.bool true) ∧ Below W.heap.size W w' := by
  have hl := hx.len
  have hb0 : Below W.heap.size W (W.alloc (.cells #[.string s, .int .i64 ra, .int .i64 fr, .int .i64 ce] 27)) := balloc (Below.refl _ _) _
  have hsch : SchAt (W.alloc (.cells #[.string s, .int .i64 ra, .int .i64 fr, .int .i64 ce] 27)) W.heap.size s ra fr ce := SchAt.new
  have hm : n ≤ 9223372036854775807 := by have := hx.2.1; have := hx.2.2.1; unfold maxLen at this; omega
  by_cases bn : 60 < n
  · as_aux_lemma =>
      have bn' : (60 : Int) < (n : Int) := by omega
      go_enter Try.func6, Try.ntmps6
      go_wp2_with fail
      refine (awake_any _).mono ?_
      rintro e w1 ⟨rfl, hb1⟩
      obtain ⟨hc, hff⟩ := bcell hb1
      go_wp2_with fail
      go_ret
      exact ⟨rfl, bstep hb0 hb1⟩
  have bn' : ¬ (60 : Int) < (n : Int) := by omega
  by_cases big : 300 < s.size
  · as_aux_lemma =>
      have big' : (300 : Int) < (s.size : Int) := by omega
      go_enter Try.func6, Try.ntmps6
      go_wp2_with fail
      refine (awake_any _).mono ?_
      rintro e w1 ⟨rfl, hb1⟩
      obtain ⟨hc, hff⟩ := bcell hb1
      go_wp2_with fail
      go_ret
      exact ⟨rfl, bstep hb0 hb1⟩
  have big' : ¬ (300 : Int) < (s.size : Int) := by omega
  by_cases on : ot < 0
  · as_aux_lemma =>
      go_enter Try.func6, Try.ntmps6
      go_wp2_with fail
      refine (awake_any _).mono ?_
      rintro e w1 ⟨rfl, hb1⟩
      obtain ⟨hc, hff⟩ := bcell hb1
      go_wp2_with fail
      go_ret
      exact ⟨rfl, bstep hb0 hb1⟩
  by_cases ol : 1000000 < ot
  · as_aux_lemma =>
      go_enter Try.func6, Try.ntmps6
      go_wp2_with fail
      refine (awake_any _).mono ?_
      rintro e w1 ⟨rfl, hb1⟩
      obtain ⟨hc, hff⟩ := bcell hb1
      go_wp2_with fail
      go_ret
      exact ⟨rfl, bstep hb0 hb1⟩
  have hl' := Lib.hid hl
  have hxs := Lib.hid hx
  have bn2 := Lib.hid bn
  have big2 := Lib.hid big
  have hsz := Lib.hid hs
  clear hl bn big hs
  go_enter Try.func6, Try.ntmps6
  go_wp2_with fail
  refine (awake_any _).mono ?_
  rintro e w1 ⟨rfl, hb1⟩
  obtain ⟨hc, hff⟩ := bcell hb1
  go_upto_region 5 with fail
  have hsc1 := hsch.step hb1
  have hW1 := bstep hb0 hb1
  clear hsch hb1 hb0 hc hff
  obtain ⟨v0, v1, v2, v3, v4⟩ := id hsc1
  have x0 : W.heap.size < w1.heap.size + 1 := by omega
  have x1 : W.heap.size < w1.heap.size + 1 + 1 := by omega
  have x2 : W.heap.size < w1.heap.size + 1 + 1 + 1 := by omega
  go_cut [7, 8, 9] (fun s7 s8 s9 wx => ∃ g7 g8 g9 : Nat, s7 = .pointer (some ⟨g7, 0, none⟩) ∧ s8 = .pointer (some ⟨g8, 0, none⟩) ∧ s9 = .pointer (some ⟨g9, 0, none⟩) ∧ Three w1 wx s ra fr ce g7 g8 g9)
  case first =>
    as_aux_lemma =>
      go_region
      all_goals
        go_wp2_with fail
        go_meet
        first
        | exact ⟨_, _, _, rfl, rfl, rfl, three_laid w1 s ra fr ce 0 1 2 (by decide)⟩
        | exact ⟨_, _, _, rfl, rfl, rfl, three_laid w1 s ra fr ce 0 2 1 (by decide)⟩
        | exact ⟨_, _, _, rfl, rfl, rfl, three_laid w1 s ra fr ce 1 0 2 (by decide)⟩
        | exact ⟨_, _, _, rfl, rfl, rfl, three_laid w1 s ra fr ce 1 2 0 (by decide)⟩
        | exact ⟨_, _, _, rfl, rfl, rfl, three_laid w1 s ra fr ce 2 0 1 (by decide)⟩
        | exact ⟨_, _, _, rfl, rfl, rfl, three_laid w1 s ra fr ce 2 1 0 (by decide)⟩
  case rest =>
    obtain ⟨g7, g8, g9, rfl, rfl, rfl, hT⟩ := hcut
    obtain ⟨⟨l7, l8, l9⟩, ⟨n78, n79, n89⟩, t7, t8, t9, f7, f8, f9, hBc⟩ := id hT
    have hsc2 := hsc1.step hBc
    obtain ⟨a70, a71, a72, a73, a74⟩ := id t7
    obtain ⟨a80, a81, a82, a83, a84⟩ := id t8
    obtain ⟨a90, a91, a92, a93, a94⟩ := id t9
    clear v0 v1 v2 v3 v4 x0 x1 x2
    have hV := three_set hT ot
    go_upto_region 7 with fail
    clear a70 a71 a72 a73 a74 a80 a81 a82 a83 a84 a90 a91 a92 a93 a94 t7 t8 t9 f7 f8 f9 hT hsc2
    generalize ((wc.setCell ⟨g7, 1, none⟩ (.int .i64 0)).setCell ⟨g8, 1, none⟩ (.int .i64 1000000)).setCell ⟨g9, 1, none⟩ (.int .i64 ot) = V at *
    obtain ⟨t7, t8, t9, hBV⟩ := hV
    clear hBc
    go_upto_region 9 with fail
    clear n78 n79 n89 l7 l8 l9
    have hQ := four_laid V
    have hWV := hW1.trans (hBV.mono hW1.size)
    go_loopw [14] (fun s14 wx => ∃ (k : Nat) (B I Ua Ud F : Int), k ≤ n ∧ s14 = .int .i64 k ∧ 0 ≤ Ud ∧ Ud ≤ I ∧ Hid (near k Ua I ra) ∧ Hid (rgt B I Ua F) ∧ Quad V wx V.heap.size (V.heap.size + 1) (V.heap.size + 2) (V.heap.size + 3) B I Ua Ud F)
      (fun i _ => n - (intOf i).toNat)
    case atStart => exact ⟨0, 0, 0, 0, 0, 0, Nat.zero_le _, rfl, by omega, by omega, Lib.hid (by unfold near; simp), Lib.hid (by decide), hQ⟩
    case round =>
      obtain ⟨k, B, I, Ua, Ud, F, hk, rfl, d0, d1, hnr, hrg, hQ1⟩ := hrel
      clear hQ
      obtain ⟨S0, S1, S2, S3, u0, u1, u2, u3, hbel⟩ := hQ1
      by_cases hlt : k < n
      · have hlt' : (k : Int) < (n : Int) := by omega
        have hI1 : Ints .i64 V a n cap xs := hxs.out.next hWV (Nat.le_refl _)
        obtain ⟨b, off, rfl, hbl, hcell⟩ := hI1.at_ hlt
        have hcr := bc hbel hbl hcell
        have hd : I64 (xs.getD k 0) := by
          have h1 : k < xs.length := by rw [hl'.out]; exact hlt
          have h2 : xs.getD k 0 = xs[k] := by simp [List.getD_eq_getElem?_getD, h1]
          rw [h2]; exact hb _ (List.getElem_mem _)
        generalize xs.getD k 0 = x at *
        have hbb : b < wr.heap.size := Nat.lt_of_lt_of_le hbl hbel.size
        by_cases xg : 1099511627776 < x
        · go_wp2_with fail
          go_ret
          exact ⟨rfl, hWV.trans (hbel.mono hWV.size)⟩
        by_cases xl : x < -1099511627776
        · go_wp2_with fail
          go_ret
          exact ⟨rfl, hWV.trans (hbel.mono hWV.size)⟩
        obtain ⟨q0, q1, q2, q3⟩ := i64_rgt hrg.out
        have qz : I64 0 := ⟨by omega, by omega⟩
        have qd : I64 Ud := ⟨by omega, by have := q1.2; omega⟩
        have qw : I64 1000000 := ⟨by omega, by omega⟩
        obtain ⟨pa, hpa⟩ : ∃ q, sstep B I Ua F s.data.toList ra fr ce x = q := ⟨_, rfl⟩
        obtain ⟨⟨Ba, Ia, Wa, Fa⟩, ea⟩ := pa
        have hStepa := Lib.hid (fun W => step_to B I Ua F s ra fr ce x W hsz.out q0 q1 q2 q3 h0 h1 h2 hd Ba Ia Wa Fa ea hpa)
        obtain ⟨pb, hpb⟩ : ∃ q, sstep B I 0 F s.data.toList 0 fr ce x = q := ⟨_, rfl⟩
        obtain ⟨⟨Bb, Ib, Wb, Fb⟩, eb⟩ := pb
        have hStepb := Lib.hid (fun W => step_to B I 0 F s 0 fr ce x W hsz.out q0 q1 qz q3 qz h1 h2 hd Bb Ib Wb Fb eb hpb)
        obtain ⟨pc, hpc⟩ : ∃ q, sstep B I I F s.data.toList 1000000 fr ce x = q := ⟨_, rfl⟩
        obtain ⟨⟨Bc, Ic, Wc, Fc⟩, ec⟩ := pc
        have hStepc := Lib.hid (fun W => step_to B I I F s 1000000 fr ce x W hsz.out q0 q1 q1 q3 qw h1 h2 hd Bc Ic Wc Fc ec hpc)
        obtain ⟨pd, hpd⟩ : ∃ q, sstep B I Ud F s.data.toList ot fr ce x = q := ⟨_, rfl⟩
        obtain ⟨⟨Bd, Id, Wd, Fd⟩, ed⟩ := pd
        have hStepd := Lib.hid (fun W => step_to B I Ud F s ot fr ce x W hsz.out q0 q1 qd q3 ho h1 h2 hd Bd Id Wd Fd ed hpd)
        have hHa := Lib.hid hpa
        have hHb := Lib.hid hpb
        have hHc := Lib.hid hpc
        have hHd := Lib.hid hpd
        clear hpa hpb hpc hpd q0 q1 q2 q3 qz qd qw hI1
        have hb5 := hsc1.next (hBV.trans (hbel.mono hBV.size)) hsc1.lt
        obtain ⟨v0, v1, v2, v3, v4⟩ := id hb5
        have y7 := t7.next hbel t7.lt
        have y8 := t8.next hbel t8.lt
        have y9 := t9.next hbel t9.lt
        obtain ⟨c0, c1, c2, c3, c4⟩ := id S0
        go_upto_region 14 with fail
        go_cut [15] (fun s15 wx => s15 = .int .i64 ea ∧ SumAt wx V.heap.size Ba Ia Wa Fa ∧ Kept V V.heap.size wr wx)
        case first =>
          as_aux_lemma =>
            go_region_with (go_at_call 11; refine (hStepa.out _).mono ?_; rintro e w4 ⟨rfl, hb4⟩; have hB4 : Below wr.heap.size wr w4 := below_drew' (w := wr) hb4; obtain ⟨e0, e1, e2, e3, e4⟩ := S0.step hB4; have f4 : ∀ o, w4.frozen? ⟨V.heap.size, o, none⟩ = false := (fun o => ((bcell hB4).2 _ o S0.lt).trans (u0 o)))
            all_goals
              go_wp2_with fail
              go_meet
              have hB4 : Below wr.heap.size wr w4 := below_drew' (w := wr) hb4
              exact ⟨rfl, sum_set (S0.step hB4), Kept.of hbel hB4 (by omega) _ _ _ _⟩
        case rest =>
          obtain ⟨rfl, Sn, hK⟩ := hcut
          clear c0 c1 c2 c3 c4 v0 v1 v2 v3 v4
          have u0 := fun o => (hK.frozen _ o S0.lt).trans (u0 o)
          have u1 := fun o => (hK.frozen _ o S1.lt).trans (u1 o)
          have u2 := fun o => (hK.frozen _ o S2.lt).trans (u2 o)
          have u3 := fun o => (hK.frozen _ o S3.lt).trans (u3 o)
          have S0 := Sn
          have S1 := hK.sum S1 (by omega)
          have S2 := hK.sum S2 (by omega)
          have S3 := hK.sum S3 (by omega)
          have hcr := (hK.cell _ _ hbb (by omega)).trans hcr
          have hbb := Nat.lt_of_lt_of_le hbb hK.size
          have hbel := hK.below
          have y8 := t8.next hbel t8.lt
          have y9 := t9.next hbel t9.lt
          have y7 := t7.next hbel t7.lt
          obtain ⟨v0, v1, v2, v3, v4⟩ := id y7
          obtain ⟨c0, c1, c2, c3, c4⟩ := id S1
          go_upto_region 15 with fail
          go_cut [16] (fun s16 wx => s16 = .int .i64 eb ∧ SumAt wx (V.heap.size + 1) Bb Ib Wb Fb ∧ Kept V (V.heap.size + 1) wc wx)
          case first =>
            as_aux_lemma =>
              go_region_with (go_at_call 11; refine (hStepb.out _).mono ?_; rintro e w4 ⟨rfl, hb4⟩; have hB4 : Below wc.heap.size wc w4 := below_drew' (w := wc) hb4; obtain ⟨e0, e1, e2, e3, e4⟩ := S1.step hB4; have f4 : ∀ o, w4.frozen? ⟨(V.heap.size + 1), o, none⟩ = false := (fun o => ((bcell hB4).2 _ o S1.lt).trans (u1 o)))
              all_goals
                go_wp2_with fail
                go_meet
                have hB4 : Below wc.heap.size wc w4 := below_drew' (w := wc) hb4
                exact ⟨rfl, sum_set (S1.step hB4), Kept.of hbel hB4 (by omega) _ _ _ _⟩
          case rest =>
            obtain ⟨rfl, Sn, hK⟩ := hcut
            clear c0 c1 c2 c3 c4 v0 v1 v2 v3 v4
            have u0 := fun o => (hK.frozen _ o S0.lt).trans (u0 o)
            have u1 := fun o => (hK.frozen _ o S1.lt).trans (u1 o)
            have u2 := fun o => (hK.frozen _ o S2.lt).trans (u2 o)
            have u3 := fun o => (hK.frozen _ o S3.lt).trans (u3 o)
            have S0 := hK.sum S0 (by omega)
            have S1 := Sn
            have S2 := hK.sum S2 (by omega)
            have S3 := hK.sum S3 (by omega)
            have hcr := (hK.cell _ _ hbb (by omega)).trans hcr
            have hbb := Nat.lt_of_lt_of_le hbb hK.size
            have hbel := hK.below
            have y8 := t8.next hbel t8.lt
            have y9 := t9.next hbel t9.lt
            have y7 := t7.next hbel t7.lt
            obtain ⟨v0, v1, v2, v3, v4⟩ := id y8
            obtain ⟨c0, c1, c2, c3, c4⟩ := id S2
            go_upto_region 16 with fail
            go_cut [17] (fun s17 wx => s17 = .int .i64 ec ∧ SumAt wx (V.heap.size + 2) Bc Ic Wc Fc ∧ Kept V (V.heap.size + 2) wc wx)
            case first =>
              as_aux_lemma =>
                go_region_with (go_at_call 11; refine (hStepc.out _).mono ?_; rintro e w4 ⟨rfl, hb4⟩; have hB4 : Below wc.heap.size wc w4 := below_drew' (w := wc) hb4; obtain ⟨e0, e1, e2, e3, e4⟩ := S2.step hB4; have f4 : ∀ o, w4.frozen? ⟨(V.heap.size + 2), o, none⟩ = false := (fun o => ((bcell hB4).2 _ o S2.lt).trans (u2 o)))
                all_goals
                  go_wp2_with fail
                  go_meet
                  have hB4 : Below wc.heap.size wc w4 := below_drew' (w := wc) hb4
                  exact ⟨rfl, sum_set (S2.step hB4), Kept.of hbel hB4 (by omega) _ _ _ _⟩
            case rest =>
              obtain ⟨rfl, Sn, hK⟩ := hcut
              clear c0 c1 c2 c3 c4 v0 v1 v2 v3 v4
              have u0 := fun o => (hK.frozen _ o S0.lt).trans (u0 o)
              have u1 := fun o => (hK.frozen _ o S1.lt).trans (u1 o)
              have u2 := fun o => (hK.frozen _ o S2.lt).trans (u2 o)
              have u3 := fun o => (hK.frozen _ o S3.lt).trans (u3 o)
              have S0 := hK.sum S0 (by omega)
              have S1 := hK.sum S1 (by omega)
              have S2 := Sn
              have S3 := hK.sum S3 (by omega)
              have hcr := (hK.cell _ _ hbb (by omega)).trans hcr
              have hbb := Nat.lt_of_lt_of_le hbb hK.size
              have hbel := hK.below
              have y8 := t8.next hbel t8.lt
              have y9 := t9.next hbel t9.lt
              have y7 := t7.next hbel t7.lt
              obtain ⟨v0, v1, v2, v3, v4⟩ := id y9
              obtain ⟨c0, c1, c2, c3, c4⟩ := id S3
              go_upto_region 17 with fail
              go_cut [18] (fun s18 wx => s18 = .int .i64 ed ∧ SumAt wx (V.heap.size + 3) Bd Id Wd Fd ∧ Kept V (V.heap.size + 3) wc wx)
              case first =>
                as_aux_lemma =>
                  go_region_with (go_at_call 11; refine (hStepd.out _).mono ?_; rintro e w4 ⟨rfl, hb4⟩; have hB4 : Below wc.heap.size wc w4 := below_drew' (w := wc) hb4; obtain ⟨e0, e1, e2, e3, e4⟩ := S3.step hB4; have f4 : ∀ o, w4.frozen? ⟨(V.heap.size + 3), o, none⟩ = false := (fun o => ((bcell hB4).2 _ o S3.lt).trans (u3 o)))
                  all_goals
                    go_wp2_with fail
                    go_meet
                    have hB4 : Below wc.heap.size wc w4 := below_drew' (w := wc) hb4
                    exact ⟨rfl, sum_set (S3.step hB4), Kept.of hbel hB4 (by omega) _ _ _ _⟩
              case rest =>
                obtain ⟨rfl, Sn, hK⟩ := hcut
                clear c0 c1 c2 c3 c4 v0 v1 v2 v3 v4
                have u0 := fun o => (hK.frozen _ o S0.lt).trans (u0 o)
                have u1 := fun o => (hK.frozen _ o S1.lt).trans (u1 o)
                have u2 := fun o => (hK.frozen _ o S2.lt).trans (u2 o)
                have u3 := fun o => (hK.frozen _ o S3.lt).trans (u3 o)
                have S0 := hK.sum S0 (by omega)
                have S1 := hK.sum S1 (by omega)
                have S2 := hK.sum S2 (by omega)
                have S3 := Sn
                have hcr := (hK.cell _ _ hbb (by omega)).trans hcr
                have hbb := Nat.lt_of_lt_of_le hbb hK.size
                have hbel := hK.below
                have y8 := t8.next hbel t8.lt
                have y9 := t9.next hbel t9.lt
                have y7 := t7.next hbel t7.lt
                have kb : (k : Int) < 60 := by have := bn2.out; omega
                by_cases z : ea = 0
                · subst z
                  obtain ⟨A1, A2, ⟨D, A3, D0, D1⟩, hn2, r0, r1, hr2⟩ := rates_law (by omega : 0 ≤ ot) (by omega : ot ≤ 1000000) d0 d1 hnr.out hHa.out
                  have E1 := A1.symm.trans hHb.out
                  have E2 := A2.symm.trans hHc.out
                  have E3 := A3.symm.trans hHd.out
                  simp only [Prod.mk.injEq] at E1 E2 E3
                  obtain ⟨⟨rfl, rfl, rfl, rfl⟩, rfl⟩ := E1
                  obtain ⟨⟨rfl, rfl, rfl, rfl⟩, rfl⟩ := E2
                  obtain ⟨⟨rfl, rfl, rfl, rfl⟩, rfl⟩ := E3
                  clear A1 A2 A3 hHa hHb hHc hHd hStepa hStepb hStepc hStepd hnr hrg
                  obtain ⟨o1, o2, ⟨o3, o4⟩, ⟨o5, o6⟩⟩ := off_law hn2 hr2.2.1 r0 r1
                  have aI := hr2.2.1
                  have aW := hr2.2.2.1
                  unfold amt at aI aW
                  obtain ⟨aI0, aI1⟩ := aI
                  obtain ⟨aW0, aW1⟩ := aW
                  have g1 : Ia.tdiv 1000000 = Ia / 1000000 := Int.tdiv_eq_ediv_of_nonneg aI0
                  have g2 : Ia.tmod 1000000 = Ia % 1000000 := Int.tmod_eq_emod_of_nonneg aI0
                  have g3 : (Ia % 1000000 * ra).tdiv 1000000 = Ia % 1000000 * ra / 1000000 := Int.tdiv_eq_ediv_of_nonneg o5
                  have hn3 := Lib.hid hn2
                  have hr3 := Lib.hid hr2
                  have G := Quad.mk (V := V) S0 S1 S2 S3 u0 u1 u2 u3 hbel
                  have GH := Lib.hid G
                  clear hn2 hr2 G
                  obtain ⟨v0, v1, v2, v3, v4⟩ := id (hsc1.next (hBV.trans (hbel.mono hBV.size)) hsc1.lt)
                  obtain ⟨a0, a1, a2, a3, a4⟩ := id S0
                  obtain ⟨b0, b1, b2, b3, b4⟩ := id S1
                  obtain ⟨c0, c1, c2, c3, c4⟩ := id S2
                  obtain ⟨l0, l1, l2, l3, l4⟩ := id S3
                  go_upto_region 22 with fail
                  go_wp2_with fail
                  go_roundw
                  case rel => exact ⟨k + 1, Ba, Ia, Wa, D, Fa, by omega, by go_num, D0, D1, hn3, hr3, GH.out⟩
                  case measure => simp [intOf]; omega
                · go_wp2_with fail
                  go_ret
                  exact ⟨rfl, hWV.trans (hbel.mono hWV.size)⟩
      · go_wp2_with fail
        go_ret
        exact ⟨rfl, hWV.trans (hbel.mono hWV.size)⟩
end Go.Proofs.Ytdmkjdlneadkcaa.W
