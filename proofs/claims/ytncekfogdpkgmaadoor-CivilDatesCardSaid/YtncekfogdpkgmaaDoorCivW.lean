/- The document's examples of the calendar. -/
import Derived.Test.YtncekfogdpkgmaaDoorCivU
namespace Go.Proofs.YtncekfogdpkgmaaDoor.W
open Go.RowKit Go.Proofs.YtncekfogdpkgmaaDoor.M

theorem awake_any (w : World) (ht : Tab w) : Calls Tryd.prog 16 #[] w fun e w' => e = .returned (.bool true) ∧ Below w.heap.size w w' := by
  have v1 : Cal.Valid 2024 2 29 := by unfold Cal.Valid; decide
  have d1 : Cal.day 2024 2 29 = 19782 := by decide
  have n1 : (29 : Int) < 1 ∨ Cal.MD 2023 2 < 29 := by decide
  have v2 : Cal.Valid 2025 2 28 := by unfold Cal.Valid; decide
  have d2 : Cal.day 2025 2 28 = addm 2024 2 29 12 := by decide
  have t2 : textL 2025 2 28 = [50, 48, 50, 53, 45, 48, 50, 45, 50, 56] := by decide
  have hof := fun W (h : Tab W) => of_yes 2024 2 29 W h v1
  rw [d1] at hof
  have hno := fun W (h : Tab W) => of_no 2023 2 29 W h (by omega) (by omega) n1
  have hadd := fun W (h : Tab W) => add_yes 19782 12 2024 2 29 W h v1 d1 (by omega)
  have htx := fun W (h : Tab W) => text_yes _ 2025 2 28 W h v2 d2
  rw [t2] at htx
  generalize addm 2024 2 29 12 = q at *
  clear v1 d1 n1 v2 d2 t2
  go_enter Tryd.func16, Tryd.ntmps16
  go_wp2_with fail
  refine (hof _ ht).mono ?_
  rintro e w1 ⟨rfl, hb1⟩
  have ht1 := ht.step hb1
  go_wp2_with fail
  refine (hno _ ht1).mono ?_
  rintro e w2 ⟨rfl, hb2⟩
  have ht2 := ht1.step hb2
  go_wp2_with fail
  refine (weekday_yes 19782 _ (by omega) (by omega)).mono ?_
  rintro e w3 ⟨rfl, rfl⟩
  go_wp2_with fail
  refine (hadd _ ht2).mono ?_
  rintro e w4 ⟨rfl, hb4⟩
  have ht4 := ht2.step hb4
  go_wp2_with fail
  refine (htx _ ht4).mono ?_
  rintro e w5 ⟨rfl, hb5⟩
  go_wp2_with fail
  go_ret
  exact ⟨rfl, bstep (bstep (bstep hb1 hb2) hb4) hb5⟩
end Go.Proofs.YtncekfogdpkgmaaDoor.W
