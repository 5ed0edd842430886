/- The walk of the law of civil on parsing. -/
import Derived.Test.YtncekfogdpkgmaaDoorCivRP
import Derived.Test.YtncekfogdpkgmaaDoorCivW
namespace Go.Proofs.YtncekfogdpkgmaaDoor.W
open Go.RowKit Go.Proofs.YtncekfogdpkgmaaDoor.M

theorem parses (s : ByteArray) (w : World) (ht : Tab w) (hs : s.size ≤ maxLen) :
    Calls Tryd.prog 11 #[.string s] w fun e w' => e = .returned (.bool true) ∧ Below w.heap.size w w' := by
  unfold maxLen at hs
  by_cases h : 300 < s.size
  · have h' : (300 : Int) < (s.size : Int) := by omega
    clear h
    go_enter Tryd.func11, Tryd.ntmps11
    go_wp2_with fail
    refine (awake_any _ ht).mono ?_
    rintro e w1 ⟨rfl, hb1⟩
    go_wp2_with fail
    go_ret
    exact ⟨rfl, hb1⟩
  · have h' : ¬ (300 : Int) < (s.size : Int) := by omega
    have H1 := Lib.hid (fun W (h : Tab W) => parse_any s W h (by omega))
    have H2 := Lib.hid (fun W => rparse_any s W (by omega))
    generalize prs s.data.toList = R at *
    obtain ⟨r1, r2⟩ := R
    clear h
    go_enter Tryd.func11, Tryd.ntmps11
    go_wp2_with fail
    refine (H1.out _ ht).mono ?_
    rintro e w1 ⟨rfl, hb1⟩
    have ht1 := ht.step hb1
    go_wp2_with fail
    refine (H2.out _).mono ?_
    rintro e w2 ⟨rfl, hb2⟩
    have ht2 := ht1.step hb2
    go_wp2_with fail
    refine (awake_any _ ht2).mono ?_
    rintro e w3 ⟨rfl, hb3⟩
    go_wp2_with fail
    go_ret
    exact ⟨rfl, bstep (bstep hb1 hb2) hb3⟩
end Go.Proofs.YtncekfogdpkgmaaDoor.W
