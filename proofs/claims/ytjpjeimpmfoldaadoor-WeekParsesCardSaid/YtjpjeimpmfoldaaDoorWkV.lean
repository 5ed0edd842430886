/- The walks of WeekParses and WeekTexts. -/
import Derived.Test.YtjpjeimpmfoldaaDoorWkS
import Derived.Test.YtjpjeimpmfoldaaDoorWkU
namespace Go.Proofs.YtjpjeimpmfoldaaDoor.W
open Go.RowKit Go.Proofs.YtjpjeimpmfoldaaDoor.M Go.Proofs.YtjpjeimpmfoldaaDoor.WL Go.Proofs.YtjpjeimpmfoldaaDoor.WP

theorem parse_to (s : ByteArray) (w : World) (hs : s.size ≤ 300) (q : (Nat → Int) × Int) (hq : Hid (fin (run s.data.toList 0 0 0 zero) = q)) :
    Calls Tryd.prog 20 #[.string s] w fun e w' => e = .returned (.tuple #[.agg #[.int .i64 (q.1 0), .int .i64 (q.1 1), .int .i64 (q.1 2), .int .i64 (q.1 3), .int .i64 (q.1 4), .int .i64 (q.1 5), .int .i64 (q.1 6)], .int .i64 q.2]) ∧ Below w.heap.size w w' := by
  refine (parse_any s w hs).mono fun e w' h => ?_
  unfold ParseOut at h
  rw [hq.out] at h
  exact h
theorem rparse_to (s : ByteArray) (w : World) (hs : s.size ≤ 300) (q : (Nat → Int) × Int) (hq : Hid (fin (run s.data.toList 0 0 0 zero) = q)) :
    Calls Tryd.prog 21 #[.string s] w fun e w' => e = .returned (.tuple #[.agg #[.int .i64 (q.1 0), .int .i64 (q.1 1), .int .i64 (q.1 2), .int .i64 (q.1 3), .int .i64 (q.1 4), .int .i64 (q.1 5), .int .i64 (q.1 6)], .int .i64 q.2]) ∧ Below w.heap.size w w' := by
  refine (rparse_any s w hs).mono fun e w' h => ?_
  unfold ParseOut at h
  rw [hq.out] at h
  exact h

theorem weekParses (s : ByteArray) (w : World) (ht : Tab w) (_hs : s.size ≤ 9223372036854775807) :
    Calls Tryd.prog 8 #[.string s] w fun e w' => e = .returned (.bool true) ∧ Below w.heap.size w w' := by
  have hgu : Tryd.prog.eqGuardType Tryd.prog.depth 23 = false := by kernel_rfl
  by_cases big : 300 < s.size
  · have big' : (300 : Int) < (s.size : Int) := by omega
    go_enter Tryd.func8, Tryd.ntmps8
    go_wp2_with fail
    refine (awake_any _ ht).mono ?_
    rintro e w1 ⟨rfl, hb1⟩
    go_wp2_with fail
    go_ret
    exact ⟨rfl, hb1⟩
  · have big' : ¬ (300 : Int) < (s.size : Int) := by omega
    obtain ⟨q, hq⟩ : ∃ q, fin (run s.data.toList 0 0 0 zero) = q := ⟨_, rfl⟩
    have HQ := Lib.hid hq
    clear hq
    have hp := fun W => parse_to s W (by omega) q HQ
    have hr := fun W => rparse_to s W (by omega) q HQ
    have he := fun w => eql_week q.1 q.1 w
    rw [same7_true (fun _ _ => rfl)] at he
    clear HQ
    obtain ⟨k, c⟩ := q
    dsimp only at hp hr he
    have HP := Lib.hid hp
    have HRr := Lib.hid hr
    clear hp hr
    go_enter Tryd.func8, Tryd.ntmps8
    go_wp2_with fail
    refine (HP.out _).mono ?_
    rintro e w1 ⟨rfl, hb1⟩
    go_wp2_with fail
    refine (HRr.out _).mono ?_
    rintro e w2 ⟨rfl, hb2⟩
    obtain ⟨hc2, hf2⟩ := bcell hb2
    have hs2 : w1.heap.size < w2.heap.size := by have := hb2.size; simp at this; omega
    go_wp2_with fail
    refine (awake_any _ (((ht.step hb1).alloc _).step hb2 |>.alloc _)).mono ?_
    rintro e w3 ⟨rfl, hb3⟩
    go_wp2_with fail
    go_ret
    exact ⟨rfl, bstep hb1 (bstep (balloc (Below.refl _ _) _) (bstep hb2 (bstep (balloc (Below.refl _ _) _) hb3)))⟩

theorem tailT_len {k : Nat → Int} (o : ok k) : ∀ m i, i + m ≤ 7 → (tailT k i m).length ≤ 5 * m
  | 0, _, _ => by simp [tailT]
  | m + 1, i, h => by
    have h1 := tailT_len o m (i + 1) (by omega)
    have h2 := numT_len (k i).toNat (by have := ok_at o i (by omega); omega)
    simp only [tailT, List.length_append, List.length_cons, List.length_nil]
    omega
theorem weekT_len {k : Nat → Int} (o : ok k) : (weekT k).length ≤ 40 := by
  have h1 := tailT_len o 6 1 (by omega)
  have h2 := numT_len (k 0).toNat (by have := ok_at o 0 (by omega); omega)
  unfold weekT
  rw [List.length_append]; omega

theorem parse_week (k : Nat → Int) (o : ok k) (w : World) :
    Calls Tryd.prog 20 #[.string ⟨(weekT k).toArray⟩] w fun e w' => e = .returned (.tuple #[.agg #[.int .i64 (k 0), .int .i64 (k 1), .int .i64 (k 2), .int .i64 (k 3), .int .i64 (k 4), .int .i64 (k 5), .int .i64 (k 6)], .int .i64 0]) ∧ Below w.heap.size w w' := by
  obtain ⟨q, hq, hqk⟩ := run_week o
  have hl := weekT_len o
  have h := parse_to ⟨(weekT k).toArray⟩ w (by show (weekT k).toArray.size ≤ 300; simp; omega) (q, 0) (by
    show fin (run (weekT k).toArray.toList 0 0 0 zero) = _
    rw [show (weekT k).toArray.toList = weekT k from by simp, hq, fin_some, if_pos ((ok_congr hqk).2 o)])
  dsimp only at h
  rw [hqk 0 (by omega), hqk 1 (by omega), hqk 2 (by omega), hqk 3 (by omega), hqk 4 (by omega), hqk 5 (by omega), hqk 6 (by omega)] at h
  exact h

theorem weekTexts (k : Nat → Int) (w : World) (ht : Tab w) :
    Calls Tryd.prog 9 #[.agg #[.int .i64 (k 0), .int .i64 (k 1), .int .i64 (k 2), .int .i64 (k 3), .int .i64 (k 4), .int .i64 (k 5), .int .i64 (k 6)]] w fun e w' => e = .returned (.bool true) ∧ Below w.heap.size w w' := by
  have hgu : Tryd.prog.eqGuardType Tryd.prog.depth 23 = false := by kernel_rfl
  have ht1 := ht.alloc (.cells #[.int .i64 (k 0), .int .i64 (k 1), .int .i64 (k 2), .int .i64 (k 3), .int .i64 (k 4), .int .i64 (k 5), .int .i64 (k 6)] 23)
  have hb0 := balloc (Below.refl w.heap.size w) (.cells #[.int .i64 (k 0), .int .i64 (k 1), .int .i64 (k 2), .int .i64 (k 3), .int .i64 (k 4), .int .i64 (k 5), .int .i64 (k 6)] 23)
  have hIB : IB [] := by intro x hx; simp at hx
  clear ht
  by_cases o : ok k
  · have hk : Hid (chk k [] = 0) := by show _ = _; unfold chk; rw [if_pos o]; rfl
    have he := fun w => eql_week k k w
    rw [same7_true (fun _ _ => rfl)] at he
    have HT := Lib.hid (fun W => text_ok k W o)
    have HR := Lib.hid (fun W => rtext_ok k W o)
    have HP := Lib.hid (fun W => parse_week k o W)
    clear o
    go_enter Tryd.func9, Tryd.ntmps9
    go_wp2_with fail
    refine (HT.out _).mono ?_
    rintro e w1 ⟨rfl, hb1⟩
    obtain ⟨hc, hf⟩ := bcell hb1
    go_wp2_with fail
    refine (rcheck_any k none 0 0 [] _ Ints.nil hIB).mono ?_
    rintro e w2 ⟨rfl, hb2⟩
    rw [hk.out]
    have h12 := bstep hb1 hb2
    clear hc hf
    obtain ⟨hc, hf⟩ := bcell h12
    go_wp2_with fail
    refine (HP.out _).mono ?_
    rintro e w3 ⟨rfl, hb3⟩
    have h13 := bstep h12 hb3
    clear hc hf
    obtain ⟨hc, hf⟩ := bcell h13
    have hsz : w.heap.size < w3.heap.size := by have := h13.size; simp at this; omega
    go_wp2_with fail
    refine (HR.out _).mono ?_
    rintro e w4 ⟨rfl, hb4⟩
    obtain ⟨hc4, hf4⟩ := bcell hb4
    go_wp2_with fail
    refine (awake_any _ (((ht1.step h13).alloc _).step hb4)).mono ?_
    rintro e w5 ⟨rfl, hb5⟩
    go_wp2_with fail
    go_ret
    exact ⟨rfl, bstep hb0 (bstep h13 (bstep (balloc (Below.refl _ _) _) (bstep hb4 hb5)))⟩
  · have hk : (chk k [] != 0) = true := by unfold chk; rw [if_neg o]; rfl
    have HT := Lib.hid (fun W => text_bad k W o)
    clear o
    go_enter Tryd.func9, Tryd.ntmps9
    go_wp2_with fail
    refine (HT.out _).mono ?_
    rintro e w1 ⟨rfl, hb1⟩
    obtain ⟨hc, hf⟩ := bcell hb1
    go_wp2_with fail
    refine (rcheck_any k none 0 0 [] _ Ints.nil hIB).mono ?_
    rintro e w2 ⟨rfl, hb2⟩
    go_wp2_with fail
    refine (awake_any _ ((ht1.step hb1).step hb2)).mono ?_
    rintro e w3 ⟨rfl, hb3⟩
    go_wp2_with fail
    go_ret
    exact ⟨rfl, bstep hb0 (bstep hb1 (bstep hb2 hb3))⟩
end Go.Proofs.YtjpjeimpmfoldaaDoor.W
