/- The walks of debt: the reference's Chain, the comparison of two lists, the document's example. -/
import Derived.Test.YtbcdbheipfhoiaaWalkB
namespace Go.Proofs.Ytbcdbheipfhoiaa.W
open Go.RowKit Go.Proofs.Ytbcdbheipfhoiaa.M

def IntsOutR (w w' : World) (e : Ending) (r : Int × List Int × Int) : Prop :=
  ∃ a cap, e = .returned (.tuple #[.int .i64 r.1, .slice a r.2.1.length cap, .int .i64 r.2.2]) ∧ Ints .i64 w' a r.2.1.length cap r.2.1 ∧ Below w.heap.size w w'

theorem refChain_any (a : Option Addr) (n cap : Nat) (xs : List Int) (w : World) (hx : Ints .i64 w a n cap xs) (hb : ∀ x ∈ xs, -9223372036854775808 ≤ x ∧ x ≤ 9223372036854775807) :
    Calls Try.prog 13 #[.slice a n cap] w fun e w' => IntsOutR w w' e (chain xs) := by
  have hl := hx.len
  by_cases hbig : 4096 < n
  · have hc : chain xs = (0, [], 5) := by unfold chain; rw [if_pos (by omega)]
    rw [hc]; clear hc
    have hbig' : (4096 : Int) < (n : Int) := by omega
    clear hl
    go_enter Try.func13, Try.ntmps13
    go_wp2
    go_ret3
    exact ⟨_, _, rfl, Ints.nil, Below.refl _ _⟩
  · have hc : chain xs = chn xs 0 [] := by unfold chain; rw [if_neg (by omega)]
    rw [hc]; clear hc
    have hbig' : ¬ (4096 : Int) < (n : Int) := by omega
    have hl' := Lib.hid hl; clear hl
    go_enter Try.func13, Try.ntmps13
    go_wp2
    go_loopw [5, 6, 7] (fun s5 v i wr => ∃ (k : Nat) (o : Int) (acc : List Int), k ≤ n ∧ i = .int .i64 k ∧ s5 = .int .i64 o ∧ 0 ≤ o ∧ o ≤ 1125899906842624 ∧ acc.length = k ∧ Hid (chn xs 0 [] = chn (xs.drop k) o acc) ∧
        wr.ownsRow w.heap.size 22 1 v acc.length (acc.map (Value.int .i64)) ∧ Below w.heap.size w wr)
      (fun _ _ i _ => n - (intOf i).toNat)
    case atStart => exact ⟨0, 0, [], Nat.zero_le _, rfl, rfl, by omega, by omega, rfl, rfl, World.ownsRow_nil _ _ _ _, Below.refl _ _⟩
    case round =>
      obtain ⟨k, o, acc, hk, rfl, rfl, ho0, ho1, hacc, hch, hown, hbel⟩ := hrel
      have hacc' := Lib.hid hacc; clear hacc
      by_cases hlt : k < n
      · obtain ⟨b, off, rfl, hbl, hcell⟩ := hx.at_ hlt
        have hcr : wr.cell? ⟨b, off + k, none⟩ = some (.int .i64 (xs.getD k 0)) := bc hbel hbl hcell
        have hd : -9223372036854775808 ≤ xs.getD k 0 ∧ xs.getD k 0 ≤ 9223372036854775807 := by
          have h1 : k < xs.length := by rw [hl'.out]; exact hlt
          have h2 : xs.getD k 0 = xs[k] := by simp [List.getD_eq_getElem?_getD, h1]
          rw [h2]; exact hb _ (List.getElem_mem _)
        have hch' : Hid (chn xs 0 [] = if (stl o (xs.getD k 0)).2.2 = 0 then chn (xs.drop (k + 1)) (stl o (xs.getD k 0)).1 (acc ++ [(stl o (xs.getD k 0)).2.1]) else (0, [], (stl o (xs.getD k 0)).2.2)) := by
          have h1 := hch.out
          rw [drop_cons xs k (by rw [hl'.out]; exact hlt)] at h1
          exact h1
        clear hch hcell
        generalize xs.getD k 0 = d at *
        obtain ⟨i0, hi, hz0, hz1', hz2⟩ := info_parts info22
        rcases stl_cases o d ho0 ho1 with ⟨o', p, hs, hp⟩ | hs
        · have H := Lib.hid hs; clear hs
          have hHN : Hid (chn xs 0 [] = chn (xs.drop (k + 1)) o' (acc ++ [p])) := by
            have h1 := hch'.out
            rw [H.out, if_pos rfl] at h1
            exact h1
          go_wp2_with (first
            | (go_at_call 11; refine (refSettle_to o d o' p 0 _ (by omega) hd H.out).mono ?_; rintro e w1 ⟨rfl, rfl⟩)
            | (at_builtin; refine wpList_append_lies _ rfl (.tmp 34) (.tmp 36) 33 rfl w.heap.size 22 i0 (.int .i64 0) 1 8 Try.underlying33 hi hz0 hz1' hz2 rfl (by decide) u6 acc.length (acc.map (Value.int .i64)) (by simp [Act.eval]) (hown.alloc _) ⟨wr.heap.size, 0, none⟩ 1 1 [.int .i64 p] (by simp [Act.eval]) rfl (World.news_of_block (cs := #[.int .i64 p]) (block_alloc_last _ _)) (by simp [Value.oneCell']) (by omega) (by unfold maxLen; rw [hacc'.out]; omega) (by rw [hacc'.out]; omega) (by have := hbel.size; simp; omega) _ rfl ?_; intro g cap2 w2 hown2 hgrow2 hat2 hlt2))
          have hOWN : w2.ownsRow w.heap.size 22 1 (.slice (some ⟨g, 0, none⟩) (acc.length + 1) cap2) (acc ++ [p]).length ((acc ++ [p]).map (Value.int .i64)) := by simpa using hown2
          have hBE : Below w.heap.size w w2 := hbel.trans (below_append hown ((Below.refl _ _).alloc (Nat.le_refl _) _) hgrow2 hbel.size)
          go_roundw
          case rel => exact ⟨k + 1, o', acc ++ [p], by omega, by go_num, rfl, hp.1, hp.2.1, by simp [hacc'.out], hHN, hOWN, hBE⟩
          case measure => simp [intOf]; omega
        · have H := Lib.hid hs; clear hs
          have hfin : Hid (chn xs 0 [] = (0, [], 9)) := by
            have h1 := hch'.out
            rw [H.out, if_neg (by show ¬ ((9 : Int) = 0); decide)] at h1
            exact h1
          go_wp2_with (go_at_call 11; refine (refSettle_to o d o 0 9 _ (by omega) hd H.out).mono ?_; rintro e w1 ⟨rfl, rfl⟩)
          go_ret3
          rw [hfin.out]
          exact ⟨_, _, rfl, Ints.nil, hbel⟩
      · obtain ⟨a', cap', rfl, hI⟩ := Ints.of_own hown
        have hfin : Hid (chn xs 0 [] = (o, acc, 0)) := by
          have h1 := hch.out
          rw [List.drop_of_length_le (by rw [hl'.out]; omega)] at h1
          exact h1
        clear hch
        go_wp2
        go_ret3
        rw [hfin.out]
        exact ⟨_, _, rfl, hI, hbel⟩

/-- Two slices that read as one list are the same. -/
theorem same_yes (a b : Option Addr) (n ca cb : Nat) (xs : List Int) (w : World) (hx : Ints .i64 w a n ca xs) (hy : Ints .i64 w b n cb xs) :
    Calls Try.prog 14 #[.slice a n ca, .slice b n cb] w fun e w' => e = .returned (.bool true) ∧ Below w.heap.size w w' := by
  have hm : n ≤ 9223372036854775807 := by have := hx.2.1; have := hx.2.2.1; unfold maxLen at this; omega
  go_enter Try.func14, Try.ntmps14
  go_wp2
  go_loopw [13] (fun i wr => ∃ k : Nat, k ≤ n ∧ i = .int .i64 k ∧ Below w.heap.size w wr) (fun i _ => n - (intOf i).toNat)
  case atStart => exact ⟨0, Nat.zero_le _, rfl, Below.refl _ _⟩
  case round =>
    obtain ⟨k, hk, rfl, hbel⟩ := hrel
    by_cases hlt : k < n
    · obtain ⟨b1, o1, rfl, hb1, hc1⟩ := hx.at_ hlt
      obtain ⟨b2, o2, rfl, hb2, hc2⟩ := hy.at_ hlt
      have hc1' := bc hbel hb1 hc1
      have hc2' := bc hbel hb2 hc2
      clear hc1 hc2
      generalize xs.getD k 0 = d at *
      have hlt' : (k : Int) < (n : Int) := by omega
      go_wp2
      go_quiet (fail)
      go_wp2
      go_roundw
      case rel => exact ⟨k + 1, by omega, by go_num, below_drewN hbel _⟩
      case measure => simp [intOf]; omega
    · go_wp2
      go_ret
      exact ⟨rfl, hbel⟩
theorem chain_ex : chain [100, -30, 20, 50] = (0, [100, 0, 0, 40], 0) := by decide

theorem awake_any (w : World) : Calls Try.prog 9 #[] w fun e w' => e = .returned (.bool true) ∧ Below w.heap.size w w' := by
  have hI : Ints .i64 (w.alloc (.cells #[.int .i64 100, .int .i64 (-30), .int .i64 20, .int .i64 50] 22)) (some ⟨w.heap.size, 0, none⟩) 4 4 [100, -30, 20, 50] := Ints.made [100, -30, 20, 50] _ (by decide)
  go_enter Try.func9, Try.ntmps9
  go_wp2_with fail
  refine (chain_any _ _ _ _ _ hI (by decide)).mono ?_
  rw [chain_ex]
  rintro e w1 ⟨a, cap, rfl, hI1, hb1⟩
  have hz : w.heap.size + 1 ≤ w1.heap.size := by have := hb1.size; simpa using this
  have hI2 : Ints .i64 ((w1.alloc (.cells #[.int .i64 0] 25)).alloc (.cells #[.int .i64 100, .int .i64 0, .int .i64 0, .int .i64 40] 22)) (some ⟨w1.heap.size + 1, 0, none⟩) 4 4 [100, 0, 0, 40] := by
    have h := Ints.made (k := .i64) (w := w1.alloc (.cells #[.int .i64 0] 25)) [100, 0, 0, 40] 22 (by decide)
    simpa using h
  have hI3 := (hI1.alloc (.cells #[.int .i64 0] 25)).alloc (.cells #[.int .i64 100, .int .i64 0, .int .i64 0, .int .i64 40] 22)
  go_wp2_with fail
  refine (same_yes _ _ _ _ _ _ _ hI3 hI2).mono ?_
  rintro e w2 ⟨rfl, hb2⟩
  go_wp2
  go_ret
  exact ⟨rfl, bstep (balloc (balloc (bstep (balloc (Below.refl _ _) _) hb1) _) _) hb2⟩
end Go.Proofs.Ytbcdbheipfhoiaa.W
