/- The facts of a person's salary that aren't taken back. -/
import Derived.Test.YtbnjgbllenndaaaGreatDoorTkI
namespace Go.Proofs.YtbnjgbllenndaaaGreatDoor.W
open Go.RowKit Go.Proofs.YtbnjgbllenndaaaGreatDoor.M Go.Proofs.YtbnjgbllenndaaaGreatDoor.S
set_option linter.unusedVariables false

def kcl (x : Nat × Fc) : List Value := .int .i64 (x.1 : Int) :: fcl x.2
theorem infoKnown : (Tryz.prog.info? 58).map (fun i => (i.zero, i.size, i.bytes)) = some (some (.agg #[.int .i64 0, .int .u32 0, .int .u32 0, .int .i64 0, .int .i64 0, .int .i64 0, .string ⟨#[]⟩, .int .i64 0, .string ⟨#[]⟩]), 9, 80) := by kernel_rfl
def KOut (xs : List (Nat × Fc)) (W : World) (e : Ending) (w' : World) : Prop := ∃ a cap, e = .returned (.slice a xs.length cap) ∧ Lst 9 w' a xs.length (fun j => kcl (xs.getD j (0, can 0))) ∧ (a = none → xs.length = 0 ∧ cap = 0) ∧ Below W.heap.size W w'
theorem own_known {w : World} {base : Nat} {e : TypeId} {v : Value} {xs : List (Nat × Fc)} (h : w.ownsRow base e 9 v xs.length (xs.flatMap kcl)) (hm : xs.length ≤ 9223372036854775807) : ∃ a cap, v = .slice a xs.length cap ∧ Lst 9 w a xs.length (fun j => kcl (xs.getD j (0, can 0))) ∧ (a = none → xs.length = 0 ∧ cap = 0) := by
  have fl : ∀ (xs : List (Nat × Fc)) (j : Nat) (x : Nat × Fc), xs[j]? = some x → ∀ i u, (kcl x)[i]? = some u → (xs.flatMap kcl)[j * 9 + i]? = some u := fun xs => by
    induction xs with
    | nil => intro j x h; simp at h
    | cons y r ih =>
      intro j x h i u hu
      cases j with
      | zero =>
        simp at h; subst h
        rw [List.flatMap_cons, Nat.zero_mul, Nat.zero_add, List.getElem?_append_left (List.getElem?_eq_some_iff.1 hu).1]
        exact hu
      | succ j =>
        have hk : (kcl y).length = 9 := rfl
        rw [List.flatMap_cons, List.getElem?_append_right (by rw [hk]; omega), hk, show (j + 1) * 9 + i - 9 = j * 9 + i by omega]
        exact ih j x (by simpa using h) i u hu
  have fll : ∀ xs : List (Nat × Fc), (xs.flatMap kcl).length = xs.length * 9 := fun xs => by
    induction xs with
    | nil => rfl
    | cons y r ih =>
      have hk : (kcl y).length = 9 := rfl
      rw [List.flatMap_cons, List.length_append, ih, hk, List.length_cons]; omega
  rcases Nat.eq_zero_or_pos xs.length with h0 | h0
  · rcases h.2 with ⟨hv, _⟩ | ⟨g, cap, cur, hv, _⟩
    · exact ⟨none, 0, by rw [hv, h0], ⟨hm, fun h => absurd h (by omega)⟩, fun _ => ⟨h0, rfl⟩⟩
    · exact ⟨_, cap, hv, ⟨hm, fun h => absurd h (by omega)⟩, (fun h => by cases h)⟩
  · obtain ⟨g, cap, hv, hb, hlt⟩ := h.form h0
    subst hv
    refine ⟨_, cap, rfl, ⟨hm, fun _ => ⟨g, 0, rfl, hlt, fun j hj i u hu => ?_⟩⟩, (fun h => by cases h)⟩
    have hx : xs[j]? = some (xs.getD j (0, can 0)) := by rw [List.getD_eq_getElem?_getD, List.getElem?_eq_getElem hj]; rfl
    have h1 := fl xs j _ hx i u hu
    have hlt2 := (List.getElem?_eq_some_iff.1 h1).1
    rw [fll] at hlt2
    rw [Nat.zero_add]
    exact (h.cellAt _ hlt2).trans h1
theorem sel_skip {F : Nat → Fc} {bk : Nat → Bool} {p : Int} {m : Nat} (h : ¬ (bk m = false ∧ (F m).per = p ∧ (F m).kind = 2)) : sel F bk p (m + 1) = sel F bk p m := by rw [sel_succ, if_neg h]
theorem sel_take {F : Nat → Fc} {bk : Nat → Bool} {p : Int} {m : Nat} (h : bk m = false ∧ (F m).per = p ∧ (F m).kind = 2) : sel F bk p (m + 1) = sel F bk p m ++ [(m + 1, F m)] := by rw [sel_succ, if_pos h]

set_option maxRecDepth 100000 in
set_option maxHeartbeats 4000000 in
theorem those_is (F : Nat → Fc) (n : Nat) (hn : n ≤ 100) (hF : Kinds F n) (a : Option Addr) (W : World) (hl : Lst 8 W a n (fun j => fcl (F j))) (pp qq : Nat) (p : Int) (hp : W.cell? ⟨pp, 0, none⟩ = some (.int .u32 p)) (hq : W.cell? ⟨qq, 0, none⟩ = some (.int .i64 2)) (hpl : pp < W.heap.size) (hql : qq < W.heap.size) :
    Calls Tryz.prog 17 #[.agg #[.slice a n n], .func (.func 18) #[] #[.pointer (some ⟨pp, 0, none⟩), .pointer (some ⟨qq, 0, none⟩)]] W (KOut (sel F (bkf F n n) p n) W) := by
  have HL := Lib.hid hl
  have HBK := Lib.hid (fun w h => back_is F n hn hF a w h)
  have HPQ := Lib.hid (And.intro hp (And.intro hq (And.intro hpl hql)))
  have hX0 := balloc (Below.refl W.heap.size W) (.cells #[.slice a n n] 46)
  have x0 : (W.alloc (.cells #[.slice a n n] 46)).cell? ⟨W.heap.size, 0, none⟩ = some (.slice a n n) := by simp
  have xs : W.heap.size < (W.alloc (.cells #[.slice a n n] 46)).heap.size := by simp
  have HX := Lib.hid (And.intro x0 (And.intro xs hX0))
  clear hl hF hp hq hpl hql x0 xs hX0
  go_enter Tryz.func17, Tryz.ntmps17
  go_wp2_with fail
  refine (HBK.out _ (HL.out.step HX.out.2.2)).mono ?_
  rintro e w1 ⟨g, rfl, hg1, hg2, hgc, hb1⟩
  have y0 := bc hb1 HX.out.2.1 HX.out.1
  have HB1 := Lib.hid (bstep HX.out.2.2 hb1)
  have HGC := Lib.hid hgc
  have HG2 : Hid (g < w1.heap.size) := hg2
  obtain ⟨bk, hbk⟩ : ∃ bk, bkf F n n = bk := ⟨_, rfl⟩
  have HBKE := Lib.hid hbk
  rw [hbk] at HGC
  clear hb1 hgc hg1 hg2 hbk HX
  go_wp2_with fail
  go_loopw [5, 14] (fun s5 s14 wx => ∃ q : Nat, q ≤ n ∧ s14 = .int .i64 q ∧ Hid (Below w1.heap.size w1 wx) ∧ wx.ownsRow w1.heap.size 58 9 s5 (sel F bk p q).length ((sel F bk p q).flatMap kcl)) (fun _ s14 _ => n - (intOf s14).toNat)
  case atStart => exact ⟨0, Nat.zero_le _, rfl, Below.refl _ _, World.ownsRow_nil _ _ _ _⟩
  case round =>
    obtain ⟨q, hq, rfl, hbw, hown⟩ := hrel
    clear y0
    have hWw : Hid (Below W.heap.size W wr) := bstep HB1.out hbw.out
    by_cases cq : q < n
    · have cq' : (q : Int) < (n : Int) := by omega
      have wq : IntKind.i64.wrap ((q : Int) + 1) = (q : Int) + 1 := IntWalk.i64_in _ (by omega)
      obtain ⟨b, o, rfl, hlt, d0, d1, d2, d3, d4, d5, d6, d7⟩ := lst_fact (HL.out.step hWw.out) cq
      have hbq := bc hbw.out HG2.out (HGC.out q cq)
      have HP := Lib.hid (bc hWw.out HPQ.out.2.2.1 HPQ.out.1)
      have HQ := Lib.hid (bc hWw.out HPQ.out.2.2.2 HPQ.out.2.1)
      have HPL : Hid (pp < wr.heap.size ∧ qq < wr.heap.size) := ⟨Nat.lt_of_lt_of_le HPQ.out.2.2.1 hWw.out.size, Nat.lt_of_lt_of_le HPQ.out.2.2.2 hWw.out.size⟩
      have hlen := sel_len F bk p q
      have HSK := Lib.hid (fun h => sel_skip (F := F) (bk := bk) (p := p) (m := q) h)
      have HST := Lib.hid (fun h => sel_take (F := F) (bk := bk) (p := p) (m := q) h)
      obtain ⟨L, hL⟩ : ∃ L, sel F bk p q = L := ⟨_, rfl⟩
      have HLL := Lib.hid hL
      rw [hL] at hown hlen HSK HST
      obtain ⟨bq, hbqe⟩ : ∃ v, bk q = v := ⟨_, rfl⟩
      rw [hbqe] at hbq HSK HST
      clear hL hbqe
      obtain ⟨x, hx⟩ : ∃ x, F q = x := ⟨_, rfl⟩
      rw [hx] at d1 d2 d3 d4 d6 HSK HST
      have HXE := Lib.hid hx
      clear hx
      obtain ⟨per, kind, fr, en, num⟩ := x
      simp only at d1 d2 d3 d4 d6 HSK HST
      have hA0 := balloc (Below.refl wr.heap.size wr) (.cells #[.int .u32 0, .int .u32 per, .int .i64 kind, .int .i64 fr, .int .i64 en, .string ⟨#[]⟩, .int .i64 num, .string ⟨#[]⟩] 38)
      have hbx := bc hA0 (Nat.lt_of_lt_of_le HG2.out hbw.out.size) hbq
      clear hbq
      have hown1 := hown.alloc (.cells #[.int .u32 0, .int .u32 per, .int .i64 kind, .int .i64 fr, .int .i64 en, .string ⟨#[]⟩, .int .i64 num, .string ⟨#[]⟩] 38)
      have HO1 := Lib.hid hown1
      have hb2 := Lib.hid (balloc hbw.out (.cells #[.int .u32 0, .int .u32 per, .int .i64 kind, .int .i64 fr, .int .i64 en, .string ⟨#[]⟩, .int .i64 num, .string ⟨#[]⟩] 38))
      have HFA := Lib.hid (fun w (h : Below wr.heap.size wr w) v hv => facts1_is ⟨per, kind, fr, en, num⟩ pp qq p w (bc h HPL.out.1 HP.out) (bc h HPL.out.2 HQ.out) (Nat.lt_of_lt_of_le HPL.out.1 h.size) (Nat.lt_of_lt_of_le HPL.out.2 h.size) v hv)
      unfold fv at HFA
      simp only at HFA
      cases bq with
      | true =>
        have hs : Hid (sel F bk p (q + 1) = L) := HSK.out (fun h => by cases h.1)
        clear hA0 hown hown1
        go_wp2_with fail
        go_roundw
        case rel => exact ⟨q + 1, by omega, by go_num, hb2.out, by rw [hs.out]; exact HO1.out⟩
        case measure => simp [intOf]; omega
      | false =>
        by_cases hv : per = p ∧ kind = 2
        · have hs : Hid (sel F bk p (q + 1) = L ++ [(q + 1, ⟨per, kind, fr, en, num⟩)]) := HST.out ⟨rfl, hv.1, hv.2⟩
          have hdec : Hid (decide (per = p ∧ kind = 2) = true) := decide_eq_true hv
          have HA0 := Lib.hid hA0
          have hWX := Lib.hid (hA0)
          obtain ⟨ie, hie, hi0, hi1, hi2⟩ := info_parts infoKnown
          clear hv hown hown1 hA0
          go_wp2_with fail
          refine (HFA.out _ HA0.out true hdec).mono ?_
          rintro e w5 ⟨rfl, hb5⟩
          have hA5 := bstep HA0.out hb5
          have HB5 := Lib.hid (bstep hbw.out hA5)
          have HO5 := Lib.hid (own_below HO1.out hb5)
          have hxl : wr.heap.size < (wr.alloc (.cells #[.int .u32 0, .int .u32 per, .int .i64 kind, .int .i64 fr, .int .i64 en, .string ⟨#[]⟩, .int .i64 num, .string ⟨#[]⟩] 38)).heap.size := by simp
          have y0 : w5.cell? ⟨wr.heap.size, 0, none⟩ = some (.int .u32 0) := bc hb5 hxl (by simp)
          have y1 : w5.cell? ⟨wr.heap.size, 1, none⟩ = some (.int .u32 per) := bc hb5 hxl (by simp)
          have y2 : w5.cell? ⟨wr.heap.size, 2, none⟩ = some (.int .i64 kind) := bc hb5 hxl (by simp)
          have y3 : w5.cell? ⟨wr.heap.size, 3, none⟩ = some (.int .i64 fr) := bc hb5 hxl (by simp)
          have y4 : w5.cell? ⟨wr.heap.size, 4, none⟩ = some (.int .i64 en) := bc hb5 hxl (by simp)
          have y5 : w5.cell? ⟨wr.heap.size, 5, none⟩ = some (.string ⟨#[]⟩) := bc hb5 hxl (by simp)
          have y6 : w5.cell? ⟨wr.heap.size, 6, none⟩ = some (.int .i64 num) := bc hb5 hxl (by simp)
          have y7 : w5.cell? ⟨wr.heap.size, 7, none⟩ = some (.string ⟨#[]⟩) := bc hb5 hxl (by simp)
          have hownA := HO5.out.alloc (.cells #[.int .i64 ((q : Int) + 1), .int .u32 0, .int .u32 per, .int .i64 kind, .int .i64 fr, .int .i64 en, .string ⟨#[]⟩, .int .i64 num, .string ⟨#[]⟩] 58)
          have hnews : ∀ j u, [Value.int .i64 ((q : Int) + 1), .int .u32 0, .int .u32 per, .int .i64 kind, .int .i64 fr, .int .i64 en, .string ⟨#[]⟩, .int .i64 num, .string ⟨#[]⟩][j]? = some u → (w5.alloc (.cells #[.int .i64 ((q : Int) + 1), .int .u32 0, .int .u32 per, .int .i64 kind, .int .i64 fr, .int .i64 en, .string ⟨#[]⟩, .int .i64 num, .string ⟨#[]⟩] 58)).cell? ((⟨w5.heap.size, 0, none⟩ : Addr).add j) = some u :=
            World.news_of_block (block_alloc_last w5 (.cells #[.int .i64 ((q : Int) + 1), .int .u32 0, .int .u32 per, .int .i64 kind, .int .i64 fr, .int .i64 en, .string ⟨#[]⟩, .int .i64 num, .string ⟨#[]⟩] 58 (0, 0)))
          have hge : w1.heap.size ≤ w5.heap.size := HB5.out.size
          clear hb5 hA5 hxl hbx
          go_wp2_with (at_builtin; refine wpList_append_lies _ rfl _ _ 42 rfl w1.heap.size 58 ie (.agg #[.int .i64 0, .int .u32 0, .int .u32 0, .int .i64 0, .int .i64 0, .int .i64 0, .string ⟨#[]⟩, .int .i64 0, .string ⟨#[]⟩]) 9 80 Tryz.underlying42 hie hi0 hi1 hi2 rfl (by decide) _ _ _ rfl hownA ⟨w5.heap.size, 0, none⟩ 1 1 [Value.int .i64 ((q : Int) + 1), .int .u32 0, .int .u32 per, .int .i64 kind, .int .i64 fr, .int .i64 en, .string ⟨#[]⟩, .int .i64 num, .string ⟨#[]⟩] rfl rfl hnews (by intro u hu; simp at hu; rcases hu with rfl | rfl | rfl | rfl | rfl | rfl | rfl | rfl | rfl <;> rfl) (by decide) (by unfold maxLen; omega) (by omega) (by simp; omega) _ rfl ?_)
          intro g6 cp6 w6 hown2 hgr hat6 hglt
          have hgr1 := grown_alloc hgr (fun j hj => (HO5.out.lt j hj).2)
          have hb6 := Lib.hid (HB5.out.grown hgr1 HB5.out.size (fun k hk => (HO5.out.lt k hk).1))
          have how6 : Hid (w6.ownsRow w1.heap.size 58 9 (.slice (some ⟨g6, 0, none⟩) (L.length + 1) cp6) (sel F bk p (q + 1)).length ((sel F bk p (q + 1)).flatMap kcl)) := by
            rw [hs.out, List.flatMap_append, List.length_append]
            exact hown2
          clear hown2 hgr hgr1 hownA hnews hat6 hglt y0 y1 y2 y3 y4 y5 y6 y7
          go_wp2_with fail
          go_roundw
          case rel => exact ⟨q + 1, by omega, by go_num, hb6.out, how6.out⟩
          case measure => simp [intOf]; omega
        · have hs : Hid (sel F bk p (q + 1) = L) := HSK.out (fun h => hv h.2)
          have hdec : Hid (decide (per = p ∧ kind = 2) = false) := decide_eq_false hv
          have HA0 := Lib.hid hA0
          clear hv hown hown1 hA0
          go_wp2_with fail
          refine (HFA.out _ HA0.out false hdec).mono ?_
          rintro e w5 ⟨rfl, hb5⟩
          have HB5 := Lib.hid (bstep hbw.out (bstep HA0.out hb5))
          have HO5 := Lib.hid (own_below HO1.out hb5)
          clear hb5 hbx
          go_wp2_with fail
          go_roundw
          case rel => exact ⟨q + 1, by omega, by go_num, HB5.out, by rw [hs.out]; exact HO5.out⟩
          case measure => simp [intOf]; omega
    · obtain rfl : q = n := by omega
      have cq' : ¬ (q : Int) < (q : Int) := by omega
      have hlen := sel_len F bk p q
      obtain ⟨a', cap', rfl, hl', hn'⟩ := own_known hown (by omega)
      have HLO := Lib.hid (And.intro hl' hn')
      clear hown hl' hn'
      go_wp2_with fail
      go_ret
      rw [HBKE.out]
      exact ⟨a', cap', rfl, HLO.out.1, HLO.out.2, hWw.out⟩
end Go.Proofs.YtbnjgbllenndaaaGreatDoor.W
