/- The walks of the laws of civil: dates. -/
import Derived.Test.YtncekfogdpkgmaaDoorCivS
import Derived.Test.YtncekfogdpkgmaaDoorCivV
import Derived.Test.YtncekfogdpkgmaaDoorCivW
namespace Go.Proofs.YtncekfogdpkgmaaDoor.W
open Go.RowKit Go.Proofs.YtncekfogdpkgmaaDoor.M

theorem days_no (d : Int) (w : World) (ht : Tab w) (h : d < -25567 ∨ 84005 < d) :
    Calls Tryd.prog 4 #[.int .i64 d] w fun e w' => e = .returned (.bool true) ∧ Below w.heap.size w w' := by
  have h' := Lib.hid h; clear h
  go_enter Tryd.func4, Tryd.ntmps4
  go_wp2_with fail
  refine (to_no _ _ h'.out).mono ?_
  rintro e w1 ⟨rfl, hb1⟩
  have ht1 := (ht.step hb1).alloc (.cells #[.int .i64 0, .int .i64 0, .int .i64 0] 23)
  go_wp2_with fail
  refine (weekday_no _ _ h'.out).mono ?_
  rintro e w2 ⟨rfl, rfl⟩
  go_wp2_with fail
  refine (rin_no _ _ h'.out).mono ?_
  rintro e w2 ⟨rfl, rfl⟩
  go_wp2_with fail
  refine (text_no _ _ h'.out).mono ?_
  rintro e w2 ⟨rfl, rfl⟩
  go_wp2_with fail
  refine (awake_any _ ht1).mono ?_
  rintro e w2 ⟨rfl, hb2⟩
  go_wp2_with fail
  go_ret
  exact ⟨rfl, bstep (balloc hb1 _) hb2⟩

theorem days_yes (d y m k : Int) (w : World) (ht : Tab w) (hv : Cal.Valid y m k) (hd : Cal.day y m k = d) :
    Calls Tryd.prog 4 #[.int .i64 d] w fun e w' => e = .returned (.bool true) ∧ Below w.heap.size w w' := by
  have hin := Cal.day_in y m k hv
  rw [hd] at hin
  have hto := fun W (h : Tab W) => to_yes d y m k W h hv hd
  have hrto := fun W => rto d y m k W hv hd
  have hof := fun W (h : Tab W) => of_yes y m k W h hv
  rw [hd] at hof
  clear hv hd
  obtain ⟨hin0, hin1⟩ := hin
  have Hto := Lib.hid hto; clear hto
  have Hrto := Lib.hid hrto; clear hrto
  have Hof := Lib.hid hof; clear hof
  go_enter Tryd.func4, Tryd.ntmps4
  go_wp2_with fail
  refine (Hto.out _ ht).mono ?_
  rintro e w1 ⟨rfl, hb1⟩
  have ht1 := (ht.step hb1).alloc (.cells #[.int .i64 y, .int .i64 m, .int .i64 k] 23)
  go_wp2_with fail
  refine (weekday_yes _ _ hin0 hin1).mono ?_
  rintro e w2 ⟨rfl, rfl⟩
  go_wp2_with fail
  refine (rin_yes _ _ hin0 hin1).mono ?_
  rintro e w2 ⟨rfl, rfl⟩
  go_wp2_with fail
  refine (Hrto.out _).mono ?_
  rintro e w2 ⟨rfl, hb2⟩
  have ht2 := (ht1.step hb2).alloc (.cells #[.int .i64 y, .int .i64 m, .int .i64 k] 30)
  have hz2 : w1.heap.size < w2.heap.size := by have := hb2.size; simp at this; omega
  obtain ⟨hc2, hf2⟩ := bcell hb2
  go_wp2_with fail
  refine (Hof.out _ ht2).mono ?_
  rintro e w3 ⟨rfl, hb3⟩
  have ht3 := ht2.step hb3
  have hz3 : w2.heap.size < w3.heap.size := by have := hb3.size; simp at this; omega
  have hz3' : w1.heap.size < w3.heap.size := by omega
  obtain ⟨hc3, hf3⟩ := bcell hb3
  go_wp2_with fail
  refine (rweekday _ _ hin0 hin1).mono ?_
  rintro e w4 ⟨rfl, rfl⟩
  go_wp2_with fail
  refine (awake_any _ ht3).mono ?_
  rintro e w4 ⟨rfl, hb4⟩
  go_wp2_with fail
  go_ret
  exact ⟨rfl, bstep (bstep (balloc (bstep (balloc hb1 _) hb2) _) hb3) hb4⟩

theorem days (d : Int) (w : World) (ht : Tab w) :
    Calls Tryd.prog 4 #[.int .i64 d] w fun e w' => e = .returned (.bool true) ∧ Below w.heap.size w w' := by
  by_cases h : d < -25567 ∨ 84005 < d
  · exact days_no d w ht h
  · obtain ⟨y, m, k, hv, hd⟩ := Cal.has_date d (by omega) (by omega)
    exact days_yes d y m k w ht hv hd

theorem days_w (d : Int) (w : World) (ht : Tab w) (_h : -9223372036854775808 ≤ d ∧ d ≤ 9223372036854775807) :
    Calls Tryd.prog 4 #[.int .i64 d] w fun e w' => e = .returned (.bool true) ∧ Below w.heap.size w w' := days d w ht

theorem months (d n : Int) (w : World) (ht : Tab w) (_hd : -9223372036854775808 ≤ d ∧ d ≤ 9223372036854775807) (hn : -9223372036854775808 ≤ n ∧ n ≤ 9223372036854775807) :
    Calls Tryd.prog 5 #[.int .i64 d, .int .i64 n] w fun e w' => e = .returned (.bool true) ∧ Below w.heap.size w w' := by
  by_cases h : d < -25567 ∨ 84005 < d
  · have h' := Lib.hid h; clear h
    go_enter Tryd.func5, Tryd.ntmps5
    go_wp2_with fail
    refine (add_no _ _ _ h'.out).mono ?_
    rintro e w1 ⟨rfl, rfl⟩
    go_wp2_with fail
    refine (rin_no _ _ h'.out).mono ?_
    rintro e w1 ⟨rfl, rfl⟩
    go_wp2_with fail
    refine (awake_any _ ht).mono ?_
    rintro e w1 ⟨rfl, hb1⟩
    go_wp2_with fail
    go_ret
    exact ⟨rfl, hb1⟩
  · have hin0 : -25567 ≤ d := by omega
    have hin1 : d ≤ 84005 := by omega
    clear h
    obtain ⟨y, m, k, hv, hd⟩ := Cal.has_date d hin0 hin1
    have Hadd := Lib.hid (fun W (h : Tab W) => add_yes d n y m k W h hv hd hn)
    have Hradd := Lib.hid (fun W => radd d n y m k W hv hd hn)
    clear hv hd
    go_enter Tryd.func5, Tryd.ntmps5
    go_wp2_with fail
    refine (Hadd.out _ ht).mono ?_
    rintro e w1 ⟨rfl, hb1⟩
    have ht1 := ht.step hb1
    go_wp2_with fail
    refine (rin_yes _ _ hin0 hin1).mono ?_
    rintro e w2 ⟨rfl, rfl⟩
    go_wp2_with fail
    refine (Hradd.out _).mono ?_
    rintro e w2 ⟨rfl, hb2⟩
    have ht2 := ht1.step hb2
    go_wp2_with fail
    refine (awake_any _ ht2).mono ?_
    rintro e w3 ⟨rfl, hb3⟩
    go_wp2_with fail
    go_ret
    exact ⟨rfl, bstep (bstep hb1 hb2) hb3⟩
end Go.Proofs.YtncekfogdpkgmaaDoor.W
