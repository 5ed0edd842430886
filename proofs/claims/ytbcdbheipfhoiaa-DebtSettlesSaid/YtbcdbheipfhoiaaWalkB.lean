/- The walks of debt: Chain and its reference, the comparison of two lists. -/
import Derived.Test.YtbcdbheipfhoiaaWalkA
import Derived.Test.YtbcdbheipfhoiaaMem
import Derived.Deep.RegionLaw
import Derived.Lib.Hide
namespace Go.Proofs.Ytbcdbheipfhoiaa.W
open Go.RowKit Go.Proofs.Ytbcdbheipfhoiaa.M

def chn : List Int → Int → List Int → Int × List Int × Int
  | [], o, acc => (o, acc, 0)
  | d :: r, o, acc => if (stl o d).2.2 = 0 then chn r (stl o d).1 (acc ++ [(stl o d).2.1]) else (0, [], (stl o d).2.2)

/-- What Chain answers. -/
def chain (due : List Int) : Int × List Int × Int := if 4096 < due.length then (0, [], 5) else chn due 0 []

theorem stl_cases (o d : Int) (h0 : 0 ≤ o) (h1 : o ≤ 1125899906842624) :
    (∃ o' p, stl o d = (o', p, 0) ∧ 0 ≤ o' ∧ o' ≤ 1125899906842624 ∧ 0 ≤ p ∧ p ≤ 1125899906842624) ∨ stl o d = (o, 0, 9) := by
  unfold stl
  rw [if_neg (by omega)]
  by_cases h3 : d < -1125899906842624 ∨ 1125899906842624 < d
  · right; rw [if_pos h3]
  rw [if_neg h3]
  by_cases h5 : 0 ≤ d - o
  · left; rw [if_pos h5]; exact ⟨_, _, rfl, by omega, by omega, by omega, by omega⟩
  rw [if_neg h5]
  by_cases h6 : 1125899906842624 < -(d - o)
  · right; rw [if_pos h6]
  · left; rw [if_neg h6]; exact ⟨_, _, rfl, by omega, by omega, by omega, by omega⟩

theorem drop_cons (xs : List Int) (k : Nat) (h : k < xs.length) : xs.drop k = xs.getD k 0 :: xs.drop (k + 1) := by
  rw [List.drop_eq_getElem_cons h]
  simp [List.getD_eq_getElem?_getD, h]

theorem info22 : (Try.prog.info? 22).map (fun i => (i.zero, i.size, i.bytes)) = some (some (.int .i64 0), 1, 8) := by kernel_rfl

def IntsOut (w w' : World) (e : Ending) (r : Int × List Int × Int) : Prop :=
  ∃ a cap, e = .returned (.tuple #[.agg #[.int .i64 r.1], .slice a r.2.1.length cap, .int .i64 r.2.2]) ∧ Ints .i64 w' a r.2.1.length cap r.2.1 ∧ Below w.heap.size w w'

theorem chain_any (a : Option Addr) (n cap : Nat) (xs : List Int) (w : World) (hx : Ints .i64 w a n cap xs) (hb : ∀ x ∈ xs, -9223372036854775808 ≤ x ∧ x ≤ 9223372036854775807) :
    Calls Try.prog 12 #[.slice a n cap] w fun e w' => IntsOut w w' e (chain xs) := by
  have hl := hx.len
  by_cases hbig : 4096 < n
  · have hc : chain xs = (0, [], 5) := by unfold chain; rw [if_pos (by omega)]
    rw [hc]; clear hc
    have hbig' : (4096 : Int) < (n : Int) := by omega
    clear hl
    go_enter Try.func12, Try.ntmps12
    go_wp2
    refine bodyPost_ret (v := .tuple #[.agg #[.int .i64 0], .slice none 0 0, .int .i64 5]) (by simp [results, Try.results12, go_sem]) rfl ⟨_, _, rfl, Ints.nil, ?_⟩
    exact (Below.refl _ _).alloc (Nat.le_refl _) _
  · have hc : chain xs = chn xs 0 [] := by unfold chain; rw [if_neg (by omega)]
    rw [hc]; clear hc
    have hbig' : ¬ (4096 : Int) < (n : Int) := by omega
    have hl' := Lib.hid hl; clear hl
    go_enter Try.func12, Try.ntmps12
    go_wp2
    go_loopw [6, 18] (fun v i wr => ∃ (k : Nat) (o : Int) (acc : List Int), k ≤ n ∧ i = .int .i64 k ∧ 0 ≤ o ∧ o ≤ 1125899906842624 ∧ acc.length = k ∧ Hid (chn xs 0 [] = chn (xs.drop k) o acc) ∧
        wr.ownsRow (w.heap.size + 2) 22 1 v acc.length (acc.map (Value.int .i64)) ∧ wr.cell? ⟨w.heap.size + 1, 0, none⟩ = some (.int .i64 o) ∧ wr.frozen? ⟨w.heap.size + 1, 0, none⟩ = false ∧
        wr.cell? ⟨w.heap.size, 0, none⟩ = some (.int .i64 0) ∧ wr.frozen? ⟨w.heap.size, 0, none⟩ = false ∧ w.heap.size + 1 < wr.heap.size ∧ Below w.heap.size w wr)
      (fun _ i _ => n - (intOf i).toNat)
    case atStart =>
      refine ⟨0, 0, [], Nat.zero_le _, rfl, by omega, by omega, rfl, rfl, World.ownsRow_nil _ _ _ _, ?_, ?_, ?_, ?_, by simp, ?_⟩
      · rw [World.cell?_alloc_at _ _ _ _ (by simp)]; rfl
      · exact World.frozen?_alloc_at _ _ _ _ (by simp)
      · rw [World.cell?_alloc_past _ _ _ (by simp), World.cell?_alloc_at _ _ _ _ rfl]; rfl
      · rw [World.frozen?_alloc_past _ _ _ (by simp)]; exact World.frozen?_alloc_at _ _ _ _ rfl
      · exact ((Below.refl _ _).alloc (Nat.le_refl _) _).alloc (by simp) _
    case round =>
      obtain ⟨k, o, acc, hk, rfl, ho0, ho1, hacc, hch, hown, hc1, hf1, hc0, hf0, hsz, hbel⟩ := hrel
      have hacc' := Lib.hid hacc; clear hacc
      by_cases hlt : k < n
      · obtain ⟨b, off, rfl, hbl, hcell⟩ := hx.at_ hlt
        have hcr : wr.cell? ⟨b, off + k, none⟩ = some (.int .i64 (xs.getD k 0)) := bc hbel hbl hcell
        have hd : -9223372036854775808 ≤ xs.getD k 0 ∧ xs.getD k 0 ≤ 9223372036854775807 := by
          have h1 : k < xs.length := by rw [hl'.out]; exact hlt
          have h2 : xs.getD k 0 = xs[k] := by simp [List.getD_eq_getElem?_getD, h1]
          rw [h2]; exact hb _ (List.getElem_mem _)
        have hch' : Hid (chn xs 0 [] = if (stl o (xs.getD k 0)).2.2 = 0 then chn (xs.drop (k + 1)) (stl o (xs.getD k 0)).1 (acc ++ [(stl o (xs.getD k 0)).2.1]) else (0, [], (stl o (xs.getD k 0)).2.2)) := by
          have h1 := hch.out
          rw [drop_cons xs k (by rw [hl'.out]; exact hlt)] at h1
          exact h1
        clear hch hcell
        generalize xs.getD k 0 = d at *
        rcases stl_cases o d ho0 ho1 with ⟨o', p, hs, hp⟩ | hs
        · have H := Lib.hid hs; clear hs
          go_wp2_with (go_at_call 10; refine (settle_to o d o' p 0 _ (by omega) hd H.out).mono ?_; rintro e w1 ⟨rfl, hb1⟩; have e1 := bc hb1 hsz hc1; have e2 := bf hb1 hsz hf1; have e3 := bc hb1 (by omega) hc0; have e4 := bf hb1 (by omega) hf0; have hz1 : w.heap.size + 1 < w1.heap.size := Nat.lt_of_lt_of_le hsz hb1.size; have hz0 : w.heap.size < w1.heap.size := Nat.lt_trans (Nat.lt_succ_self _) hz1)
          obtain ⟨i0, hi, hz0, hz1', hz2⟩ := info_parts info22
          have hown1 := own_below hown hb1
          go_region_law ((refine step_append_lies _ rfl (.tmp 34) (.tmp 36) 33 rfl (w.heap.size + 2) 22 i0 (.int .i64 0) 1 8 Try.underlying33 hi hz0 hz1' hz2 rfl (by decide) u6 acc.length (acc.map (Value.int .i64)) (by simp [Act.eval]) ((hown1.alloc _).alloc _) ⟨w1.heap.size + 1, 0, none⟩ 1 1 [.int .i64 p] (by simp [Act.eval]) rfl (World.news_of_block (cs := #[.int .i64 p]) (block_alloc_last' _ _ (by simp))) (by simp [Value.oneCell']) (by omega) (by unfold maxLen; rw [hacc'.out]; omega) (by rw [hacc'.out]; omega) (by simp; omega) _ rfl ?_; intro g cap2 w2 hown2 hgrow2 hat2 hlt2; have hB2 := below_append hown1 (((Below.refl _ _).alloc (Nat.le_refl _) _).alloc (by simp) _).drew hgrow2 (by omega); have e5 := bc hB2 (by omega) e1; have e6 := bf hB2 (by omega) e2; have e7 := bc hB2 (by omega) e3; have e8 := bf hB2 (by omega) e4; have e9 : w2.cell? ⟨w1.heap.size, 0, none⟩ = some (.int .i64 o') := append_far hown1 hgrow2 (Nat.le_refl _) (by simp; omega) (by simp)))
          all_goals
            go_wp2
            have hHN : Hid (chn xs 0 [] = chn (xs.drop (k + 1)) o' (acc ++ [p])) := by
              have h1 := hch'.out
              rw [H.out, if_pos rfl] at h1
              exact h1
            have hOWN : (w2.setCell ⟨w.heap.size + 1, 0, none⟩ (.int .i64 o')).ownsRow (w.heap.size + 2) 22 1 (.slice (some ⟨g, 0, none⟩) (acc.length + 1) cap2) (acc ++ [p]).length ((acc ++ [p]).map (Value.int .i64)) := by
              have h1 := ownsRow_setCell_below hown2 (a := ⟨w.heap.size + 1, 0, none⟩) (Nat.lt_succ_self _) (.int .i64 o')
              simpa using h1
            have hBE : Below w.heap.size w (w2.setCell ⟨w.heap.size + 1, 0, none⟩ (.int .i64 o')) :=
              ((hbel.trans (hb1.mono (by omega))).trans (hB2.mono (by omega))).setCell (Nat.le_succ _) _
            have hSZ := hB2.size
            go_roundw
            case rel =>
              exact ⟨k + 1, o', acc ++ [p], by omega, by go_num, hp.1, hp.2.1, by simp [hacc'.out], hHN, hOWN, World.cell?_setCell_same _ _ _ e5, by simp [e6], (World.cell?_setCell_other _ _ _ _ (by simp)).trans e7, by simp [e8], by simp; omega, hBE⟩
            case measure => simp [intOf]; omega
        · have H := Lib.hid hs; clear hs
          go_wp2_with (go_at_call 10; refine (settle_to o d o 0 9 _ (by omega) hd H.out).mono ?_; rintro e w1 ⟨rfl, hb1⟩; have e1 := bc hb1 hsz hc1; have e2 := bf hb1 hsz hf1; have e3 := bc hb1 (by omega) hc0; have e4 := bf hb1 (by omega) hf0; have hz1 : w.heap.size + 1 < w1.heap.size := Nat.lt_of_lt_of_le hsz hb1.size; have hz0 : w.heap.size < w1.heap.size := Nat.lt_trans (Nat.lt_succ_self _) hz1)
          have hf : ((w1.setCell ⟨w.heap.size, 0, none⟩ (.int .i64 0)).alloc (.cells #[.int .i64 o] 25)).cell? ⟨w.heap.size, 0, none⟩ = some (.int .i64 0) := by
            rw [World.cell?_alloc_past _ _ _ (by simp; omega)]
            exact World.cell?_setCell_same _ _ _ e3
          have hfin : chn xs 0 [] = (0, [], 9) := by
            have h1 := hch'.out
            rw [H.out, if_neg (by show ¬ ((9 : Int) = 0); decide)] at h1
            exact h1
          refine bodyPost_ret (v := .tuple #[.agg #[.int .i64 0], .slice none 0 0, .int .i64 9]) (by simp [results, Try.results12, go_sem, hf]) rfl ?_
          rw [hfin]
          exact ⟨_, _, rfl, Ints.nil, ((hbel.trans (hb1.mono (by omega))).setCell (Nat.le_refl _) _).alloc (by simp; omega) _⟩
      · obtain ⟨a', cap', rfl, hI⟩ := Ints.of_own hown
        have hfin : Hid (chn xs 0 [] = (o, acc, 0)) := by
          have h1 := hch.out
          rw [List.drop_of_length_le (by rw [hl'.out]; omega)] at h1
          exact h1
        clear hch
        go_wp2
        have hf : (wr.setCell ⟨w.heap.size, 0, none⟩ (.int .i64 o)).cell? ⟨w.heap.size, 0, none⟩ = some (.int .i64 o) := World.cell?_setCell_same _ _ _ hc0
        refine bodyPost_ret (v := .tuple #[.agg #[.int .i64 o], .slice a' acc.length cap', .int .i64 0]) (by simp [results, Try.results12, go_sem, hf]) rfl ?_
        rw [hfin.out]
        exact ⟨_, _, rfl, (Ints.of_own' (ownsRow_setCell_below hown (a := ⟨w.heap.size, 0, none⟩) (Nat.lt_succ_of_lt (Nat.lt_succ_self _)) _)), hbel.setCell (Nat.le_refl _) _⟩
end Go.Proofs.Ytbcdbheipfhoiaa.W
