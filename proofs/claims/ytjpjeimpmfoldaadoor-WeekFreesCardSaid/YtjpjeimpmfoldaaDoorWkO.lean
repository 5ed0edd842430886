/- The arguments of the week's laws, opened: a pattern, a week, a span, two small numbers. -/
import Derived.Test.YtjpjeimpmfoldaaDoorWkJ
import Derived.Lib.SmallJoins
import Derived.OpenShut
namespace Go.Proofs.YtjpjeimpmfoldaaDoor.W
open Go.RowKit Go.Proofs.YtjpjeimpmfoldaaDoor.M Go.Proofs.YtjpjeimpmfoldaaDoor.WL Go.ChangeShapes Go.WideShapes

section
variable {H : Type} {enc : TypeId × Value → H} {W : World} {base : Nat} {sp : Nat → Bool} {hd : Bool}

def Bd (k : Nat → Int) : Prop := ∀ i, i < 7 → -9223372036854775808 ≤ k i ∧ k i ≤ 9223372036854775807

theorem okWide_arr {P : Program} {w : World} {r : Reach} {b0 : Nat} {t e : TypeId} {n : Nat} {v : Value} (ht : P.underlying t = some (.array n e)) (h : Value.okWide P w r b0 t v) : ∃ cs, v = .agg cs ∧ cs.size = P.cellsOf t := by
  simp only [Value.okWide, ht] at h
  obtain ⟨cs, h1, h2, _⟩ := h
  exact ⟨cs, h1, h2⟩

theorem open_seven {t : TypeId} {fuel : Nat} {cs : List Value} {x : DataW H × List MemPlace} (ht : Tryd.prog.underlying t = some (.array 7 3)) (hc : Tryd.prog.cellsOf t = 7) (h : DataW.trod enc Tryd.prog W base sp hd fuel t cs = some x) :
    ∃ k : Nat → Int, cs = [.int .i64 (k 0), .int .i64 (k 1), .int .i64 (k 2), .int .i64 (k 3), .int .i64 (k 4), .int .i64 (k 5), .int .i64 (k 6)] ∧ Bd k := by
  obtain ⟨xs, m, _, _, hlen, hxl, hg⟩ := DataW.trod_array ht h
  rw [hc] at hlen
  rw [show Tryd.prog.cellsOf 3 = 1 from by kernel_rfl] at hg
  match cs, hlen with
  | [c0, c1, c2, c3, c4, c5, c6], _ =>
    have hone : ∀ i c, i < 7 → (([c0, c1, c2, c3, c4, c5, c6] : List Value).drop (i * 1)).take 1 = [c] → ∃ n : Int, c = .int .i64 n ∧ -9223372036854775808 ≤ n ∧ n ≤ 9223372036854775807 := fun i c hi hc => by
      have h1 := hg i hi
      rw [hc] at h1
      have hi' : i < xs.length := by omega
      rw [List.getElem?_eq_getElem hi'] at h1
      obtain ⟨n, hn, _, hw⟩ := DataW.trod_int Tryd.underlying3 h1
      injection hn with hn
      exact ⟨n, hn, wf_i64 hw⟩
    obtain ⟨a0, rfl, b0⟩ := hone 0 c0 (by omega) rfl
    obtain ⟨a1, rfl, b1⟩ := hone 1 c1 (by omega) rfl
    obtain ⟨a2, rfl, b2⟩ := hone 2 c2 (by omega) rfl
    obtain ⟨a3, rfl, b3⟩ := hone 3 c3 (by omega) rfl
    obtain ⟨a4, rfl, b4⟩ := hone 4 c4 (by omega) rfl
    obtain ⟨a5, rfl, b5⟩ := hone 5 c5 (by omega) rfl
    obtain ⟨a6, rfl, b6⟩ := hone 6 c6 (by omega) rfl
    refine ⟨fun i => [a0, a1, a2, a3, a4, a5, a6].getD i 0, rfl, fun i hi => ?_⟩
    rcases (by omega : i = 0 ∨ i = 1 ∨ i = 2 ∨ i = 3 ∨ i = 4 ∨ i = 5 ∨ i = 6) with rfl | rfl | rfl | rfl | rfl | rfl | rfl <;> assumption

theorem open_days {t : TypeId} {fuel : Nat} {v : Value} {x : DataW H × List MemPlace} (ht : Tryd.prog.underlying t = some (.slice 27)) (h : DataW.trod enc Tryd.prog W base sp hd fuel t [v] = some x) :
    ∃ a n cap xs, v = .slice a n cap ∧ Ints .i64 W a n cap xs ∧ IB xs := by
  have hs : ∃ a n cap, v = .slice a n cap := by
    rcases open_ints ht Tryd.underlying27 (by kernel_rfl) h with ⟨hcs, _⟩ | ⟨a, l, c, zs, hcs, _⟩
    · injection hcs with hcs; exact ⟨_, _, _, hcs⟩
    · injection hcs with hcs; exact ⟨_, _, _, hcs⟩
  obtain ⟨a, n, cap, rfl⟩ := hs
  obtain ⟨zs, hI, hb⟩ := ints_of_trod ht Tryd.underlying27 (by kernel_rfl) (show DataW.Trod enc Tryd.prog W base sp hd t (.slice a n cap) x.1 x.2 from ⟨fuel, by simpa [Value.cells] using h⟩)
  exact ⟨a, n, cap, zs, rfl, hI, fun x hx => wf_i64 (hb x hx)⟩

theorem open_week {r : Reach} {b0 : Nat} {v : Value} {d : DataW H} {p : List MemPlace} (hv : Value.okWide Tryd.prog W r b0 23 v) (h : DataW.Trod enc Tryd.prog W base sp hd 23 v d p) :
    ∃ k : Nat → Int, v = .agg #[.int .i64 (k 0), .int .i64 (k 1), .int .i64 (k 2), .int .i64 (k 3), .int .i64 (k 4), .int .i64 (k 5), .int .i64 (k 6)] ∧ Bd k := by
  obtain ⟨cs, rfl, _⟩ := okWide_arr Tryd.underlying23 hv
  obtain ⟨fuel, hf⟩ := h
  obtain ⟨k, hk, hb⟩ := open_seven Tryd.underlying23 (by kernel_rfl) hf
  refine ⟨k, ?_, hb⟩
  have h1 : cs.toList = _ := hk
  congr 1
  rw [← Array.toArray_toList (xs := cs), h1]

theorem open_pair {t : TypeId} {r : Reach} {b0 : Nat} {v : Value} {d : DataW H} {p : List MemPlace} (ht : Tryd.prog.underlying t = some (.array 2 5)) (hc : Tryd.prog.cellsOf t = 2) (hv : Value.okWide Tryd.prog W r b0 t v) (h : DataW.Trod enc Tryd.prog W base sp hd t v d p) :
    ∃ m n : Int, v = .agg #[.int .u8 m, .int .u8 n] ∧ (0 ≤ m ∧ m ≤ 255) ∧ (0 ≤ n ∧ n ≤ 255) := by
  obtain ⟨cs, rfl, hsz⟩ := okWide_arr ht hv
  obtain ⟨c0, c1, rfl⟩ := Go.Joins.array2 (hsz.trans hc)
  obtain ⟨fuel, hf⟩ := h
  obtain ⟨xs, m, _, _, hlen, hxl, hg⟩ := DataW.trod_array ht hf
  rw [show Tryd.prog.cellsOf 5 = 1 from by kernel_rfl] at hg
  have hone : ∀ i c, i < 2 → (([c0, c1] : List Value).drop (i * 1)).take 1 = [c] → ∃ n : Int, c = .int .u8 n ∧ 0 ≤ n ∧ n ≤ 255 := fun i c hi hc => by
    have h1 := hg i hi
    have h2 : (Value.agg #[c0, c1]).cells.toList = [c0, c1] := rfl
    rw [h2, hc] at h1
    have hi' : i < xs.length := by omega
    rw [List.getElem?_eq_getElem hi'] at h1
    obtain ⟨n, hn, _, hw⟩ := DataW.trod_int Tryd.underlying5 h1
    injection hn with hn
    exact ⟨n, hn, wf_u8 hw⟩
  obtain ⟨m, rfl, b0⟩ := hone 0 c0 (by omega) rfl
  obtain ⟨n, rfl, b1⟩ := hone 1 c1 (by omega) rfl
  exact ⟨m, n, rfl, b0, b1⟩

theorem open_pair' {r : Reach} {b0 : Nat} {v : Value} {d : DataW H} {p : List MemPlace} (hv : Value.okWide Tryd.prog W r b0 43 v) (h : DataW.Trod enc Tryd.prog W base sp hd 43 v d p) :
    ∃ m n : Int, v = .agg #[.int .u8 m, .int .u8 n] ∧ (0 ≤ m ∧ m ≤ 255) ∧ (0 ≤ n ∧ n ≤ 255) := open_pair Tryd.underlying43 (by kernel_rfl) hv h

theorem open_pattern {r : Reach} {b0 : Nat} {v : Value} {d : DataW H} {p : List MemPlace} (hv : Value.okWide Tryd.prog W r b0 26 v) (h : DataW.Trod enc Tryd.prog W base sp hd 26 v d p) :
    ∃ (k : Nat → Int) (a : Option Addr) (n cap : Nat) (xs : List Int), v = .agg #[.int .i64 (k 0), .int .i64 (k 1), .int .i64 (k 2), .int .i64 (k 3), .int .i64 (k 4), .int .i64 (k 5), .int .i64 (k 6), .slice a n cap] ∧ Ints .i64 W a n cap xs ∧ IB xs ∧ Bd k := by
  have hu := Tryd.underlying26
  obtain ⟨cs, rfl, hsz⟩ := okWide_struct hu hv
  obtain ⟨l⟩ := cs
  match l, hsz.trans (show Tryd.prog.cellsOf 26 = 8 from by kernel_rfl) with
  | [c0, c1, c2, c3, c4, c5, c6, c7], _ =>
    obtain ⟨fuel, hf⟩ := h
    obtain ⟨xs, n, _, _, _, hlen, hg⟩ := DataW.trod_struct hu hf
    have h0 : 0 < xs.length := by rw [hlen]; decide
    have h1 : 1 < xs.length := by rw [hlen]; decide
    have g0 : DataW.trod enc Tryd.prog W base sp hd n 23 [c0, c1, c2, c3, c4, c5, c6] = some xs[0] := (hg 0 _ rfl).trans (List.getElem?_eq_getElem h0)
    have g1 : DataW.trod enc Tryd.prog W base sp hd n 24 [c7] = some xs[1] := (hg 1 _ rfl).trans (List.getElem?_eq_getElem h1)
    obtain ⟨k, hk, hb⟩ := open_seven Tryd.underlying23 (by kernel_rfl) g0
    obtain ⟨a, m, cap, zs, rfl, hI, hB⟩ := open_days Tryd.underlying24 g1
    simp only [List.cons.injEq, and_true] at hk
    obtain ⟨rfl, rfl, rfl, rfl, rfl, rfl, rfl⟩ := hk
    exact ⟨k, a, m, cap, zs, rfl, hI, hB, hb⟩

theorem open_span {r : Reach} {b0 : Nat} {v : Value} {d : DataW H} {p : List MemPlace} (hv : Value.okWide Tryd.prog W r b0 37 v) (h : DataW.Trod enc Tryd.prog W base sp hd 37 v d p) :
    ∃ f t : Int, v = .agg #[.int .i64 f, .int .i64 t] ∧ (-9223372036854775808 ≤ f ∧ f ≤ 9223372036854775807) ∧ (-9223372036854775808 ≤ t ∧ t ≤ 9223372036854775807) := by
  obtain ⟨c0, c1, y0, y1, m, rfl, rfl, rfl, hy0, hy1⟩ := Go.Joins.open_agg2 Tryd.underlying37 (by kernel_rfl) (by kernel_rfl) hv h
  obtain ⟨f, e0, _, w0⟩ := DataW.trod_int Tryd.underlying27 hy0
  obtain ⟨t, e1, _, w1⟩ := DataW.trod_int Tryd.underlying27 hy1
  injection e0 with e0
  injection e1 with e1
  subst e0 e1
  exact ⟨f, t, rfl, wf_i64 w0, wf_i64 w1⟩
end
end Go.Proofs.YtjpjeimpmfoldaaDoor.W
