/- The walks of the reference calendar that the week reaches. -/
import Derived.Test.YtjpjeimpmfoldaaDoorCivA
namespace Go.Proofs.YtjpjeimpmfoldaaDoor.W
open Go.RowKit Go.Proofs.YtjpjeimpmfoldaaDoor.M

theorem rin_yes (d : Int) (w : World) (h0 : -25567 ≤ d) (h1 : d ≤ 84005) :
    Calls Tryd.prog 19 #[.int .i64 d] w fun e w' => e = .returned (.bool true) ∧ w = w' := by
  go_enter Tryd.func19, Tryd.ntmps19
  go_wp2
  go_ret
  exact ⟨rfl, rfl⟩
theorem rin_no (d : Int) (w : World) (h : d < -25567 ∨ 84005 < d) :
    Calls Tryd.prog 19 #[.int .i64 d] w fun e w' => e = .returned (.bool false) ∧ w = w' := by
  rcases h with h | h
  · have h' : ¬ -25567 ≤ d := by omega
    go_enter Tryd.func19, Tryd.ntmps19
    go_wp2
    go_ret
    exact ⟨rfl, rfl⟩
  · have h0 : -25567 ≤ d := by omega
    have h' : ¬ d ≤ 84005 := by omega
    go_enter Tryd.func19, Tryd.ntmps19
    go_wp2
    go_ret
    exact ⟨rfl, rfl⟩

theorem rweekday (d : Int) (w : World) (h0 : -25567 ≤ d) (h1 : d ≤ 84005) :
    Calls Tryd.prog 24 #[.int .i64 d] w fun e w' => e = .returned (.int .i64 ((d + 25567) % 7)) ∧ w = w' := by
  have e : d - -25567 = d + 25567 := by omega
  go_enter Tryd.func24, Tryd.ntmps24
  go_wp2
  go_ret
  exact ⟨rfl, rfl⟩

end Go.Proofs.YtjpjeimpmfoldaaDoor.W
