/- WeekFrees: the walk, whole; a pattern opened, whose nil has no room. -/
import Derived.Test.YtjpjeimpmfoldaaDoorWkQ
import Derived.Test.YtjpjeimpmfoldaaDoorWkO
namespace Go.Proofs.YtjpjeimpmfoldaaDoor.W
open Go.RowKit Go.Proofs.YtjpjeimpmfoldaaDoor.M Go.Proofs.YtjpjeimpmfoldaaDoor.WL Go.ChangeShapes Go.WideShapes
set_option linter.unusedVariables false

section
variable {H : Type} {enc : TypeId × Value → H} {W : World} {base : Nat} {sp : Nat → Bool} {hd : Bool}
theorem open_daysz {t : TypeId} {fuel : Nat} {v : Value} {x : DataW H × List MemPlace} (ht : Tryd.prog.underlying t = some (.slice 27)) (h : DataW.trod enc Tryd.prog W base sp hd fuel t [v] = some x) :
    ∃ a n cap xs, v = .slice a n cap ∧ Ints .i64 W a n cap xs ∧ IB xs ∧ (a = none → cap = 0) := by
  have hs : ∃ a n cap, v = .slice a n cap := by
    rcases open_ints ht Tryd.underlying27 (by kernel_rfl) h with ⟨hcs, _⟩ | ⟨a, l, c, zs, hcs, _⟩
    · injection hcs with hcs; exact ⟨_, _, _, hcs⟩
    · injection hcs with hcs; exact ⟨_, _, _, hcs⟩
  obtain ⟨a, n, cap, rfl⟩ := hs
  obtain ⟨zs, hI, hb, hz⟩ := ints_of_trodz ht Tryd.underlying27 (by kernel_rfl) (show DataW.Trod enc Tryd.prog W base sp hd t (.slice a n cap) x.1 x.2 from ⟨fuel, by simpa [Value.cells] using h⟩)
  exact ⟨a, n, cap, zs, rfl, hI, fun x hx => wf_i64 (hb x hx), hz⟩

theorem open_patternz {r : Reach} {b0 : Nat} {v : Value} {d : DataW H} {p : List MemPlace} (hv : Value.okWide Tryd.prog W r b0 26 v) (h : DataW.Trod enc Tryd.prog W base sp hd 26 v d p) :
    ∃ (k : Nat → Int) (a : Option Addr) (n cap : Nat) (xs : List Int), v = .agg #[.int .i64 (k 0), .int .i64 (k 1), .int .i64 (k 2), .int .i64 (k 3), .int .i64 (k 4), .int .i64 (k 5), .int .i64 (k 6), .slice a n cap] ∧ Ints .i64 W a n cap xs ∧ IB xs ∧ (a = none → cap = 0) := by
  have hu := Tryd.underlying26
  obtain ⟨cs, rfl, hsz⟩ := okWide_struct hu hv
  obtain ⟨l⟩ := cs
  match l, hsz.trans (show Tryd.prog.cellsOf 26 = 8 from by kernel_rfl) with
  | [c0, c1, c2, c3, c4, c5, c6, c7], _ =>
    obtain ⟨fuel, hf⟩ := h
    obtain ⟨xs, n, _, _, _, hlen, hg⟩ := DataW.trod_struct hu hf
    have h0 : 0 < xs.length := by rw [hlen]; decide
    have h1 : 1 < xs.length := by rw [hlen]; decide
    have g0 : DataW.trod enc Tryd.prog W base sp hd n 23 [c0, c1, c2, c3, c4, c5, c6] = some xs[0] := (hg 0 _ rfl).trans (List.getElem?_eq_getElem h0)
    have g1 : DataW.trod enc Tryd.prog W base sp hd n 24 [c7] = some xs[1] := (hg 1 _ rfl).trans (List.getElem?_eq_getElem h1)
    obtain ⟨k, hk, hb⟩ := open_seven Tryd.underlying23 (by kernel_rfl) g0
    obtain ⟨a, m, cap, zs, rfl, hI, hB, hz⟩ := open_daysz Tryd.underlying24 g1
    simp only [List.cons.injEq, and_true] at hk
    obtain ⟨rfl, rfl, rfl, rfl, rfl, rfl, rfl⟩ := hk
    exact ⟨k, a, m, cap, zs, rfl, hI, hB, hz⟩

end
theorem weekFrees (k : Nat → Int) (a : Option Addr) (n cap : Nat) (xs : List Int) (d f t : Int) (w : World) (ht : Tab w) (hx : Ints .i64 w a n cap xs) (hb : IB xs) (hz : a = none → cap = 0) (hd : -9223372036854775808 ≤ d ∧ d ≤ 9223372036854775807) (hf : -9223372036854775808 ≤ f ∧ f ≤ 9223372036854775807) (htt : -9223372036854775808 ≤ t ∧ t ≤ 9223372036854775807) :
    Calls Tryd.prog 6 #[.agg #[.int .i64 (k 0), .int .i64 (k 1), .int .i64 (k 2), .int .i64 (k 3), .int .i64 (k 4), .int .i64 (k 5), .int .i64 (k 6), .slice a n cap], .int .i64 d, .agg #[.int .i64 f, .int .i64 t]] w fun e w' => e = .returned (.bool true) ∧ Below w.heap.size w w' := by
  by_cases big : 300 < n
  · exact frees_great k a n cap xs d f t w ht hx hb hz hd hf htt big
  by_cases hk : chk k xs = 0
  · by_cases ho : d < -25567 ∨ 84005 < d
    · exact frees_out k a n cap xs d f t w ht hx hb hz hd hf htt big hk ho
    · by_cases hl : 0 < n ∧ d ≤ xs.getD (n - 1) 0
      · exact frees_last k a n cap xs d f t w ht hx hb hz hd hf htt big hk (by omega) (by omega) hl.1 hl.2
      · exact frees_main k a n cap xs d f t w ht hx hb hz hd hf htt big hk (by omega) (by omega) (fun hn => by
          rcases (by omega : xs.getD (n - 1) 0 < d ∨ d ≤ xs.getD (n - 1) 0) with h | h
          · exact h
          · exact absurd ⟨hn, h⟩ hl)
  · exact frees_wrong k a n cap xs d f t w ht hx hb hz hd hf htt big hk
end Go.Proofs.YtjpjeimpmfoldaaDoor.W
