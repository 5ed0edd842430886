/- The walk of share.Items. -/
import Derived.Test.YtbmlingbohdpkaaShI
namespace Go.Proofs.Ytbmlingbohdpkaa.W
open Go.RowKit Go.Proofs.Ytbmlingbohdpkaa.M Go.Proofs.Ytbmlingbohdpkaa.B Go.Proofs.Ytbmlingbohdpkaa.H
set_option linter.unusedVariables false

theorem infoRow : (Try.prog.info? 41).map (fun i => (i.zero, i.size, i.bytes)) = some (some (.slice none 0 0), 1, 24) := by kernel_rfl
theorem infoItem : (Try.prog.info? 47).map (fun i => (i.zero, i.size, i.bytes)) = some (some (.agg #[.string ByteArray.empty, .int .i64 0]), 2, 24) := by kernel_rfl

/-- What is wrong with items, or weights. -/
def iterr (f : Nat → Int) (n : Nat) (V : Nat → Int) (m : Nat) : Int :=
  if werr f n = 0 then (if 64 < m then 5 else if ∀ j, j < m → -1125899906842624 ≤ V j ∧ V j ≤ 1125899906842624 then 0 else 9) else werr f n
def ItOut (f : Nat → Int) (n : Nat) (C : Nat → ByteArray) (V : Nat → Int) (m : Nat) (W : World) (e : Ending) (w' : World) : Prop :=
  ∃ (g : Option Addr) (N cap : Nat), e = .returned (.tuple #[.slice g N cap, .int .i64 (iterr f n V m)]) ∧ N = (if iterr f n V m = 0 then n else 0) ∧ Rows2 w' g N m C (fun j => sparts (V j) f n) ∧ Below W.heap.size W w'
theorem it_bad {f : Nat → Int} {n : Nat} {C : Nat → ByteArray} {V : Nat → Int} {m : Nat} {W w' : World} {k : Int} (h : iterr f n V m = k) (hk : k ≠ 0) (hb : Below W.heap.size W w') : ItOut f n C V m W (.returned (.tuple #[.slice none 0 0, .int .i64 k])) w' :=
  ⟨none, 0, 0, by rw [h], by rw [h, if_neg hk], fun h => absurd h (by omega), hb⟩

/-- A block that nobody has touched, and that is none of the rows. -/
structure Clear (w1 wx : World) (G n : Nat) (S : Nat → Value) (q : Nat) : Prop where
  lt : q < w1.heap.size
  same : wx.heap[q]? = w1.heap[q]?
  ne : q ≠ G
  own : ∀ i, i < n → (S i).ownBlock ≠ some q
theorem Clear.cell {w1 wx : World} {G n q o : Nat} {S : Nat → Value} (h : Clear w1 wx G n S q) {v : Value} (hc : w1.cell? ⟨q, o, none⟩ = some v) : wx.cell? ⟨q, o, none⟩ = some v :=
  (World.cell?_of_block h.same).trans hc
theorem Clear.put {w1 wx W1 w2 : World} {G n q k : Nat} {S : Nat → Value} (h : Clear w1 wx G n S q) (hle : w1.heap.size ≤ wx.heap.size) (hb : Below wx.heap.size wx W1) (hg : W1.grownBy w2 (S k).ownBlock) (hk : k < n) {g m cap H : Nat} (hH : wx.heap.size ≤ H) (hat : (S k).ownBlock = some g ∨ g = H) :
    Clear w1 (w2.setCell ⟨G, k, none⟩ (.slice (some ⟨g, 0, none⟩) m cap)) G n (fun i => if i = k then .slice (some ⟨g, 0, none⟩) m cap else S i) q := by
  have hq : q < wx.heap.size := Nat.lt_of_lt_of_le h.lt hle
  refine ⟨h.lt, ?_, h.ne, fun i hi => ?_⟩
  · have h1 : w2.heap[q]? = wx.heap[q]? := (hg.block q (Nat.lt_of_lt_of_le hq hb.size) (fun hh => h.own k hk hh.symm)).trans (hb.block q hq)
    rw [← h.same, ← h1]
    exact Below.heap_setCell _ _ _ _ h.ne
  · by_cases e : i = k
    · subst e; rw [if_pos rfl]
      intro hh
      have e1 : g = q := by simpa [Value.ownBlock] using hh
      rcases hat with hat | hat
      · exact h.own i hi (e1 ▸ hat)
      · omega
    · rw [if_neg e]; exact h.own i hi

set_option maxRecDepth 100000 in
set_option maxHeartbeats 4000000 in
theorem Items_is (a : Option Addr) (m ca : Nat) (C : Nat → ByteArray) (V : Nat → Int) (b : Option Addr) (n cap : Nat) (f : Nat → Int) (W : World) (hl : Its W a m C V) (hV : ∀ j, j < m → -9223372036854775808 ≤ V j ∧ V j ≤ 9223372036854775807) (hx : Vec .i64 W b n cap f) (hI : ∀ i, i < n → -9223372036854775808 ≤ f i ∧ f i ≤ 9223372036854775807) :
    Calls Try.prog 18 #[.slice a m ca, .slice b n cap] W (ItOut f n C V m W) := by
  have hsum := sum_is b n cap f W hx hI
  unfold SumOut at hsum
  have hm := hl.1
  by_cases hz : werr f n = 0
  · rw [if_pos hz, hz] at hsum
    have HSUM := Lib.hid hsum
    clear hsum
    by_cases m64 : 64 < m
    · have hi : iterr f n V m = 5 := by unfold iterr; rw [if_pos hz, if_pos m64]
      have HI := Lib.hid hi
      have m64' : (64 : Int) < (m : Int) := by omega
      generalize sm f n = s at *
      clear hi hz hI hV
      go_enter Try.func18, Try.ntmps18
      go_wp2_with (go_at_call 21; refine HSUM.out.mono ?_; rintro e w1 ⟨rfl, rfl⟩)
      go_ret2
      exact it_bad HI.out (by omega) (Below.refl _ _)
    have m64' : ¬ (64 : Int) < (m : Int) := by omega
    obtain ⟨n0, n1, hf, _⟩ := werr_ok hz
    have hit : Hid (iterr f n V m = if ∀ j, j < m → -1125899906842624 ≤ V j ∧ V j ≤ 1125899906842624 then 0 else 9) := by
      show _ = _
      unfold iterr; rw [if_pos hz, if_neg m64]
    have hmk := run_make_row' (P := Try.prog) 42 41 (.slice none 0 0) 24 Try.underlying42 infoRow rfl .i64 .i64 n (by omega) (by omega)
    obtain ⟨ie, hie, he0, he1, he2⟩ := info_parts infoItem
    have HIE := Lib.hid hie
    have HF := Lib.hid hf
    have HV := Lib.hid hV
    have HI := Lib.hid hI
    have HZ := Lib.hid hz
    have hN0 := Nest.made W n 41 C (fun j => sparts (V j) f n)
    obtain ⟨P, hP⟩ : ∃ P : Nat → Nat → Int, (fun j => sparts (V j) f n) = P := ⟨_, rfl⟩
    rw [hP] at hN0
    have HP := Lib.hid hP
    clear hP
    have hB0 : Below W.heap.size W (W.alloc (.cells (madeCells #[.slice none 0 0] n) 41)) := balloc (Below.refl _ _) _
    generalize sm f n = s at *
    clear hie hf hV hI hz m64
    go_enter Try.func18, Try.ntmps18
    go_wp2_with (go_at_call 21; refine HSUM.out.mono ?_; rintro e w1 ⟨rfl, rfl⟩)
    clear hmk HSUM
    generalize W.alloc (.cells (madeCells #[.slice none 0 0] n) 41) = U at *
    obtain ⟨G, hG⟩ : ∃ g, W.heap.size = g := ⟨_, rfl⟩
    have HG := Lib.hid hG
    rw [hG] at hN0
    rw [hG]
    clear hG
    go_loopw [31] (fun s31 wx => ∃ (j : Nat) (S : Nat → Value), j ≤ m ∧ s31 = .int .i64 j ∧ Hid (∀ i, i < j → -1125899906842624 ≤ V i ∧ V i ≤ 1125899906842624) ∧ Nest wx G n (G + 1) C P j 0 S ∧ Below W.heap.size W wx) (fun i _ => m - (intOf i).toNat)
    case atStart => exact ⟨0, _, Nat.zero_le _, rfl, fun i hi => absurd hi (by omega), hN0, hB0⟩
    case round =>
      obtain ⟨j, S, hj, rfl, hok, hN, hbel⟩ := hrel
      clear hN0 hB0
      by_cases cj : j < m
      · obtain ⟨b1, o1, rfl, h1, d1, d2⟩ := (hl.step hbel).at_ cj
        have hVj := HV.out j cj
        have hB1 : Below wr.heap.size wr (wr.alloc (.cells #[.string (C j), .int .i64 (V j)] 47)) := balloc (Below.refl _ _) _
        have hx1 : Vec .i64 (wr.alloc (.cells #[.string (C j), .int .i64 (V j)] 47)) b n cap f := (hx.step hbel).step hB1
        have hsplit := Split_f (V j) b n cap f (wr.alloc (.cells #[.string (C j), .int .i64 (V j)] 47)) hVj hx1 HI.out
        unfold SpOutF at hsplit
        have hN1 := hN.below hB1
        have hxs : (wr.alloc (.cells #[.string (C j), .int .i64 (V j)] 47)).heap.size = wr.heap.size + 1 := by simp
        have hx0 : (wr.alloc (.cells #[.string (C j), .int .i64 (V j)] 47)).cell? ⟨wr.heap.size, 0, none⟩ = some (.string (C j)) := by simp
        have hown0 : ∀ i, i < n → ∀ q, (S i).ownBlock = some q → q < wr.heap.size := fun i hi q hq => ((hN.own i hi).lt q hq).2
        have hGlt := hN.lt
        by_cases fit : -1125899906842624 ≤ V j ∧ V j ≤ 1125899906842624
        · have hse : serr (V j) f n = 0 := by unfold serr; rw [if_neg (by omega), HZ.out]
          have hsl : slen (V j) f n = n := by unfold slen; rw [if_pos hse]
          rw [hse, hsl] at hsplit
          have HSP := Lib.hid hsplit
          have hok1 : Hid (∀ i, i < j + 1 → -1125899906842624 ≤ V i ∧ V i ≤ 1125899906842624) := fun i hi => by
            by_cases e : i = j
            · subst e; exact fit
            · exact hok.out i (by omega)
          have HOWN := Lib.hid hown0
          clear hsplit hse hsl hok hN hown0
          go_wp2_with fail
          refine HSP.out.mono ?_
          rintro e w1 ⟨a3, cap3, rfl, hp, hfr, hb1⟩
          have hx2 := bc hb1 (by rw [hxs]; omega) hx0
          generalize wr.alloc (.cells #[.string (C j), .int .i64 (V j)] 47) = Y at *
          have hN2 := hN1.below hb1
          have hBy : Below W.heap.size W Y := bstep hbel hB1
          have hsz1 := hb1.size
          have hcx : Clear w1 w1 G n S wr.heap.size := ⟨by omega, rfl, by omega, fun i hi hq => by have := HOWN.out i hi _ hq; omega⟩
          obtain ⟨b3, o3, rfl, h3, d3⟩ := hp.2 n0
          have hfr3 : Y.heap.size ≤ b3 := hfr _ rfl
          have hcp : Clear w1 w1 G n S b3 := ⟨h3, rfl, by omega, fun i hi hq => by have := HOWN.out i hi _ hq; omega⟩
          have hxb : Below W.heap.size W w1 := bstep hBy hb1
          have hPj : sparts (V j) f n = P j := by rw [← HP.out]
          rw [hPj] at d3
          have D3 := Lib.hid d3
          have XB := Lib.hid hx2
          obtain ⟨X, hX⟩ : ∃ X, wr.heap.size = X := ⟨_, rfl⟩
          rw [hX] at hcx XB
          rw [hX]
          clear hx2 hN1 hb1 HSP hp hfr hBy hx1 hx0 hB1 hbel d1 d2 h1 hGlt HOWN d3 hX hPj
          go_wp2_with fail
          go_loopw [47] (fun s47 wx => ∃ (k : Nat) (S2 : Nat → Value), k ≤ n ∧ s47 = .int .i64 k ∧ Nest wx G n (G + 1) C P j k S2 ∧ Clear w1 wx G n S2 X ∧ Clear w1 wx G n S2 b3 ∧ w1.heap.size ≤ wx.heap.size ∧ Below W.heap.size W wx) (fun i _ => n - (intOf i).toNat)
          case atStart => exact ⟨0, S, Nat.zero_le _, rfl, hN2, hcx, hcp, Nat.le_refl _, hxb⟩
          case round =>
            obtain ⟨k, S2, hk, rfl, hN, hc1, hc2, hsz, hbw⟩ := hrel
            clear hN2 hcx hcp hxb
            by_cases ck : k < n
            · have e1 := hc2.cell (D3.out k ck)
              have e2 := hc1.cell XB.out
              have e3 := hN.cell k ck
              have z3 := hN.frz k
              have l1 : b3 < wr.heap.size := by have := hc2.lt; omega
              have l2 : X < wr.heap.size := by have := hc1.lt; omega
              have l3 := hN.lt
              obtain ⟨p, hp⟩ : ∃ p, P j k = p := ⟨_, rfl⟩
              rw [hp] at e1
              have HPP := Lib.hid hp
              obtain ⟨sv, hsv⟩ : ∃ v, S2 k = v := ⟨_, rfl⟩
              rw [hsv] at e3
              have HSV := Lib.hid hsv
              have hown := hN.own k ck
              rw [if_neg (by omega), hsv] at hown
              have j64 : j < 64 := by omega
              have hneG : some G ≠ sv.ownBlock := fun hh => by have := (hown.lt G hh.symm).1; omega
              clear hp hsv
              go_upto_region 16 with fail
              go_region_law ((refine step_append_lies _ rfl (.tmp 57) (.tmp 62) 41 rfl (G + 1) 47 ie (.agg #[.string ByteArray.empty, .int .i64 0]) 2 24 Try.underlying41 HIE.out he0 he1 he2 rfl (by decide) sv j (XI C (fun q => P q k) j) (by simp [Act.eval]; done) (hown.alloc _) ⟨wr.heap.size, 0, none⟩ 1 1 [.string (C j), .int .i64 p] (by simp [Act.eval]; done) rfl (World.news_of_block (cs := #[.string (C j), .int .i64 p]) (block_alloc_last' _ _ (by simp))) (by simp [Value.oneCell']) (by omega) (by unfold maxLen; omega) (by omega) (by simp; omega) _ rfl ?_; intro g cap2 w2 hown2 hgrow2 hat2 hlt2; have e4 : w2.cell? ⟨G, k, none⟩ = some sv := (hgrow2.cell_far ⟨G, k, none⟩ (by simp; omega) hneG).trans (bc (balloc (Below.refl _ _) _) l3 e3); have z4 : w2.frozen? ⟨G, k, none⟩ = false := (hgrow2.frozen_far ⟨G, k, none⟩ (by simp; omega) hneG).trans (bf (balloc (Below.refl _ _) _) l3 z3); have l4 : G < w2.heap.size := by have := hgrow2.size; simp at this; omega))
              all_goals
                go_wp2_with fail
                go_round
                case rel =>
                  have hb1 : Below wr.heap.size wr (wr.alloc (.cells #[.string (C j), .int .i64 p] 47)).drew := (balloc (Below.refl _ _) _).drew
                  have hg' : (wr.alloc (.cells #[.string (C j), .int .i64 p] 47)).drew.grownBy w2 (S2 k).ownBlock := by rw [HSV.out]; exact hgrow2
                  have hat' : (S2 k).ownBlock = some g ∨ g = (wr.alloc (.cells #[.string (C j), .int .i64 p] 47)).drew.heap.size := by rw [HSV.out]; exact hat2
                  have hw' := hown2
                  rw [← HPP.out] at hw'
                  have hsw : wr.heap.size ≤ (wr.alloc (.cells #[.string (C j), .int .i64 p] 47)).drew.heap.size := by simp
                  have hsg := hgrow2.size
                  refine ⟨k + 1, _, by omega, by go_num, hN.put ck hb1 hg' hw' hsw hat', hc1.put hsz hb1 hg' ck hsw hat', hc2.put hsz hb1 hg' ck hsw hat', by simp at hsg ⊢; omega, ?_⟩
                  exact (((hbw.alloc hbw.size _).drew).grown hgrow2 (Nat.le_trans hbw.size hsw) (fun q hq => by have := (hown.lt q hq).1; have := HG.out; omega)).setCell (Nat.le_of_eq HG.out) _
                case measure => simp [intOf]; omega
            · obtain rfl : k = n := by omega
              go_wp2_with fail
              go_round
              case rel => exact ⟨j + 1, S2, by omega, by go_num, hok1, hN.turn, hbw⟩
              case measure => simp [intOf]; omega
        · have hse : serr (V j) f n = 9 := by unfold serr; rw [if_pos (by omega)]
          have hsl : slen (V j) f n = 0 := by unfold slen; rw [hse]; rfl
          rw [hse, hsl] at hsplit
          have hi : iterr f n V m = 9 := by rw [hit.out, if_neg (fun h => fit (h j cj))]
          have HSP := Lib.hid hsplit
          have HII := Lib.hid hi
          clear hsplit hse hsl hi hok hN hown0 hN1
          go_wp2_with fail
          refine HSP.out.mono ?_
          rintro e w1 ⟨a3, cap3, rfl, hp, hfr, hb1⟩
          go_wp2_with fail
          go_ret2
          exact it_bad HII.out (by omega) (bstep (bstep hbel hB1) hb1)
      · obtain rfl : j = m := by omega
        have hi : iterr f n V j = 0 := by rw [hit.out, if_pos hok.out]
        have HII := Lib.hid hi
        clear hi
        go_wp2_with fail
        go_ret2
        exact ⟨some ⟨G, 0, none⟩, n, n, by rw [HII.out]; rfl, by rw [HII.out]; rfl, by rw [HP.out]; exact hN.rows hm, hbel⟩
  · rw [if_neg hz] at hsum
    generalize hk : werr f n = k at *
    have hi : iterr f n V m = k := by unfold iterr; rw [hk, if_neg hz]
    have z' : (k == 0) = false := beq_eq_false_iff_ne.2 hz
    have HS := Lib.hid hsum
    have HI := Lib.hid hi
    have HZ := Lib.hid hz
    clear hsum hi hk hz hI hV
    go_enter Try.func18, Try.ntmps18
    go_wp2_with (go_at_call 21; refine HS.out.mono ?_; rintro e w1 ⟨rfl, rfl⟩)
    go_ret2
    exact it_bad HI.out HZ.out (Below.refl _ _)
end Go.Proofs.Ytbmlingbohdpkaa.W
