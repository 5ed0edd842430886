/- Two slips as one. -/
import Derived.Test.YtnakcmliopcabaaTeB
import Derived.StillTailTactics
import Derived.Deep.CutBlock
namespace Go.Proofs.Ytnakcmliopcabaa.S
open Go.Proofs.Ytnakcmliopcabaa.M
set_option linter.unusedVariables false
theorem idx_succ (T : Nat → Int) (m : Nat) : idx T (m + 1) = if T m ≠ 0 then idx T m ++ [m] else idx T m := rfl
theorem idx_skip {T : Nat → Int} {m : Nat} : ∀ k, (∀ j, m ≤ j → j < m + k → T j = 0) → idx T (m + k) = idx T m
  | 0, _ => rfl
  | k + 1, h => by
    show idx T ((m + k) + 1) = _
    rw [idx_succ, if_neg (by simp [h (m + k) (by omega) (by omega)])]
    exact idx_skip k (fun j h1 h2 => h j h1 (by omega))
theorem idx_to {T : Nat → Int} {m i : Nat} (hm : m ≤ i) (h : ∀ j, m ≤ j → j < i → T j = 0) : idx T i = idx T m := by
  have := idx_skip (T := T) (m := m) (i - m) (fun j h1 h2 => h j h1 (by omega))
  rwa [show m + (i - m) = i by omega] at this
theorem idx_split (T : Nat → Int) (m : Nat) : ∀ k, ∃ r, idx T (m + k) = idx T m ++ r
  | 0 => ⟨[], by simp⟩
  | k + 1 => by
    obtain ⟨r, hr⟩ := idx_split T m k
    show ∃ r, idx T ((m + k) + 1) = _
    rw [idx_succ]
    split
    · exact ⟨r ++ [m + k], by rw [hr, List.append_assoc]⟩
    · exact ⟨r, hr⟩
/-- The first number that isn't below m. -/
theorem at_head {T : Nat → Int} {m : Nat} (hm : m ≤ 28) (h : (idx T m).length < ln T) : m ≤ at_ T (idx T m).length ∧ at_ T (idx T m).length < 28 ∧ T (at_ T (idx T m).length) ≠ 0 ∧ ∀ j, m ≤ j → j < at_ T (idx T m).length → T j = 0 := by
  obtain ⟨r, hr⟩ := idx_split T m (28 - m)
  rw [show m + (28 - m) = 28 by omega] at hr
  have hin := at_in h
  have hge : m ≤ at_ T (idx T m).length := by
    rcases Nat.lt_or_ge (at_ T (idx T m).length) m with c | c
    · exfalso
      have h1 := (idx_mem T _ m).2 ⟨c, hin.2⟩
      obtain ⟨k, hk, e⟩ := List.getElem_of_mem h1
      have h2 : at_ T k = at_ T (idx T m).length := by
        unfold at_
        rw [hr, List.getD_eq_getElem?_getD, List.getElem?_append_left hk, List.getElem?_eq_getElem hk]
        rw [← hr]
        exact e
      have h3 := at_up (T := T) hk h
      omega
    · exact c
  refine ⟨hge, hin.1, hin.2, fun j h1 h2 => ?_⟩
  by_cases c : T j = 0
  · exact c
  · exfalso
    obtain ⟨k, hk, e⟩ := at_all (T := T) (i := j) (by omega) c
    rcases Nat.lt_trichotomy k (idx T m).length with c1 | c1 | c1
    · have h3 : at_ T k ∈ idx T m := by
        have : (idx T m)[k]? = some (at_ T k) := by
          have h4 := at_get hk
          rw [hr, List.getElem?_append_left c1] at h4
          exact h4
        exact List.mem_of_getElem? this
      have := ((idx_mem T _ m).1 h3).1
      omega
    · subst c1; omega
    · have := at_up (T := T) c1 hk
      omega
theorem at_end {T : Nat → Int} {m : Nat} (hm : m ≤ 28) (h : ¬ (idx T m).length < ln T) : ∀ j, m ≤ j → j < 28 → T j = 0 := fun j h1 h2 => by
  by_cases c : T j = 0
  · exact c
  · exfalso
    obtain ⟨r, hr⟩ := idx_split T m (28 - m)
    rw [show m + (28 - m) = 28 by omega] at hr
    have hl : (idx T m).length + r.length = ln T := by unfold ln; rw [hr]; simp
    have : r = [] := List.eq_nil_of_length_eq_zero (by omega)
    rw [this, List.append_nil] at hr
    have h3 := (idx_mem T j 28).2 ⟨h2, c⟩
    rw [hr] at h3
    have := ((idx_mem T j m).1 h3).1
    omega
/-- The cells of the lines of a table below m. -/
def lcu (T : Nat → Int) (m : Nat) : Nat → List Value := fun j => lc ((idx T m).getD j 0) (T ((idx T m).getD j 0))
theorem lcu_next {T : Nat → Int} {m i : Nat} (hm : m ≤ i) (hz : ∀ j, m ≤ j → j < i → T j = 0) (hi : T i ≠ 0) : (idx T (i + 1)).length = (idx T m).length + 1 ∧ XR (lcu T (i + 1)) ((idx T m).length + 1) = XR (lcu T m) (idx T m).length ++ lc i (T i) := by
  have e : idx T (i + 1) = idx T m ++ [i] := by
    show (if T i ≠ 0 then idx T i ++ [i] else idx T i) = _
    rw [if_pos hi, idx_to hm hz]
  refine ⟨by rw [e]; simp, ?_⟩
  show XR (lcu T (i + 1)) (idx T m).length ++ lcu T (i + 1) (idx T m).length = _
  congr 1
  · refine XR_congr _ (fun j hj => ?_)
    unfold lcu
    rw [e, List.getD_eq_getElem?_getD, List.getElem?_append_left hj, ← List.getD_eq_getElem?_getD]
  · unfold lcu
    rw [e, List.getD_eq_getElem?_getD, List.getElem?_append_right (Nat.le_refl _), Nat.sub_self]
    rfl
theorem lcu_same {T : Nat → Int} {m i : Nat} (hm : m ≤ i) (hz : ∀ j, m ≤ j → j < i + 1 → T j = 0) : idx T (i + 1) = idx T m := idx_to (by omega) hz
theorem lcu_all (T : Nat → Int) : lcu T 28 = lcs T := rfl
end Go.Proofs.Ytnakcmliopcabaa.S
namespace Go.Proofs.Ytnakcmliopcabaa.W
open Go.RowKit Go.Proofs.Ytnakcmliopcabaa.M Go.Proofs.Ytnakcmliopcabaa.S
set_option linter.unusedVariables false

set_option maxRecDepth 100000 in
/-- Two lines of one number, as one. -/
theorem ladd_is (i : Nat) (a b : Int) (ha : fit a) (hb : fit b) (hc : fit (a + b)) (W : World) : Calls Try.prog 32 #[lv i a, lv i b] W fun e w' => e = .returned (.tuple #[lv i (a + b), .bool true]) ∧ Below W.heap.size W w' := by
  have HA := Lib.hid (fun w => add_is a b ha hb hc w)
  clear ha hb hc
  unfold lv
  generalize prt i = p at *
  generalize cod i = s at *
  go_enter Try.func32, Try.ntmps32
  go_wp2_with fail
  refine (HA.out _).mono ?_
  rintro e w' ⟨rfl, rfl⟩
  go_wp2_with fail
  refine bodyPost_ret (v := .tuple #[.agg #[.int .i64 p, .string s, .int .i64 (a + b)], .bool true]) (by simp [results, Try.results32, go_sem]) rfl ⟨rfl, ?_⟩
  exact balloc (balloc (balloc (Below.refl _ _) _) _) _

theorem infoLine : (Try.prog.info? 45).map (fun i => (i.zero, i.size, i.bytes)) = some (some (.agg #[.int .i64 0, .string ByteArray.empty, .int .i64 0]), 3, 32) := by kernel_rfl
theorem line_one (i : Nat) (c : Int) : ∀ u ∈ lc i c, u.oneCell' = true := by
  intro u hu
  simp [lc] at hu
  rcases hu with rfl | rfl | rfl <;> rfl
theorem add_to (b off q : Nat) : (⟨b, off, none⟩ : Addr).add q = ⟨b, off + q, none⟩ := by unfold Addr.add; split <;> simp_all
/-- A list of lines without its first. -/
theorem slice_rest (b off n cap : Nat) (hn : 0 < n) (hic : n ≤ cap) (hcap : cap ≤ maxLen) :
    ∃ x : Addr, (∀ w, (Instr.slice 27 (.slice (some ⟨b, off, none⟩) n cap) (some (.int .i64 1)) none none).run Try.prog w = .ok (.slice (some x) (n - 1) (cap - 1)) w) ∧
      (∀ (w : World) (c : Nat → List Value), Lst 3 w (some ⟨b, off, none⟩) n c → Lst 3 w (some x) (n - 1) (fun j => c (1 + j))) ∧ (n ≠ 1 → x = ⟨b, off + 3, none⟩) := by
  refine ⟨if cap = 1 then ⟨b, off, none⟩ else ⟨b, off + 3, none⟩, fun w => ?_, fun w c h => ⟨by have := h.1; omega, fun h0 => ?_⟩, fun h => ?_⟩
  · have h1 : (1 : Int) ≤ (n : Int) := by omega
    by_cases e : cap = 1
    · rw [if_pos e]; subst e; go_simp
    · rw [if_neg e]; go_simp
  · obtain ⟨b', off', he, hlt, hc⟩ := h.2 (by omega)
    injection he with he
    injection he with he1 he2
    subst he1 he2
    refine ⟨b, off + 3, ?_, hlt, fun j hj z u hu => ?_⟩
    · rw [if_neg (by omega)]
    · have := hc (1 + j) (by omega) z u hu
      rw [show off + 3 + j * 3 + z = off + (1 + j) * 3 + z by omega]
      exact this
  · rw [if_neg (by omega)]

/-- The lines of a table from the p'th on. -/
def XY (W : World) (A : Nat → Int) (p : Nat) (s : Value) : Prop := ∃ xa n cx, s = .slice xa n cx ∧ n = ln A - p ∧ n ≤ cx ∧ cx ≤ maxLen ∧ Lst 3 W xa n (fun j => lcs A (p + j))
/-- Its first line, and the lines behind it. -/
theorem xy_first {W : World} {A : Nat → Int} {p n cx : Nat} {xa : Option Addr} (hn : n = ln A - p) (h0 : 0 < n) (h1 : n ≤ cx) (h2 : cx ≤ maxLen) (hl : Lst 3 W xa n (fun j => lcs A (p + j))) :
    ∃ b off, xa = some ⟨b, off, none⟩ ∧ b < W.heap.size ∧ W.cell? ⟨b, off, none⟩ = some (.int .i64 (prt (at_ A p))) ∧ W.cell? ⟨b, off + 1, none⟩ = some (.string (cod (at_ A p))) ∧ W.cell? ⟨b, off + 2, none⟩ = some (.int .i64 (A (at_ A p))) ∧
      ∃ x', (∀ w, (Instr.slice 27 (.slice xa n cx) (some (.int .i64 1)) none none).run Try.prog w = .ok (.slice (some x') (n - 1) (cx - 1)) w) ∧ XY W A (p + 1) (.slice (some x') (n - 1) (cx - 1)) := by
  obtain ⟨b, off, rfl, hlt, hc⟩ := hl.2 h0
  have hc0 := hc 0 h0
  rw [show off + 0 * 3 = off by omega] at hc0
  obtain ⟨x', hr, hl', _⟩ := slice_rest b off n cx h0 h1 h2
  refine ⟨b, off, rfl, hlt, hc0 0 _ rfl, hc0 1 _ rfl, hc0 2 _ rfl, x', hr, _, _, _, rfl, by omega, by omega, by omega, ?_⟩
  have := hl' W _ hl
  refine ⟨this.1, fun h => ?_⟩
  obtain ⟨b', o', e, hlt', hc'⟩ := this.2 h
  exact ⟨b', o', e, hlt', fun j hj z u hu => hc' j hj z u (by show (lcs A (p + (1 + j)))[z]? = some u; rw [show p + (1 + j) = p + 1 + j by omega]; exact hu)⟩
def lenOf : Value → Nat
  | .slice _ n _ => n
  | _ => 0
/-- What a round of Merge leaves: the slip that is made, in block P, of the numbers below m; all else below P as it lay. -/
structure MSt (X : World) (P : Nat) (U : Nat → Int) (m : Nat) (wx : World) (v : Value) : Prop where
  bel : Below P X wx
  hi : P < wx.heap.size
  c0 : wx.cell? ⟨P, 0, none⟩ = some (.int .i64 2026)
  c1 : wx.cell? ⟨P, 1, none⟩ = some (.int .i64 1)
  c2 : wx.cell? ⟨P, 2, none⟩ = some v
  fz : ∀ o, wx.frozen? ⟨P, o, none⟩ = false
  own : wx.ownsRow (P + 1) 45 3 v (idx U m).length (XR (lcu U m) (idx U m).length)
theorem MSt.step {X : World} {P : Nat} {U : Nat → Int} {m : Nat} {wx w' : World} {v : Value} (h : MSt X P U m wx v) (hb : Below wx.heap.size wx w') : MSt X P U m w' v :=
  ⟨h.bel.trans (hb.mono (Nat.le_of_lt h.hi)), Nat.lt_of_lt_of_le h.hi hb.size, bc hb h.hi h.c0, bc hb h.hi h.c1, bc hb h.hi h.c2, fun o => bf hb h.hi (h.fz o), own_below h.own hb⟩
theorem MSt.far {X : World} {P : Nat} {U : Nat → Int} {m : Nat} {wx : World} {v : Value} (h : MSt X P U m wx v) {g : Nat} (hg : P < g) (hv : v.ownBlock ≠ some g) (o : Nat) (u : Value) : MSt X P U m (wx.setCell ⟨g, o, none⟩ u) v :=
  ⟨h.bel.setCell (Nat.le_of_lt hg) u, by simpa using h.hi, (World.cell?_setCell_other _ _ _ _ (fun e => by injection e with e; omega)).trans h.c0, (World.cell?_setCell_other _ _ _ _ (fun e => by injection e with e; omega)).trans h.c1, (World.cell?_setCell_other _ _ _ _ (fun e => by injection e with e; omega)).trans h.c2, fun o => by rw [World.frozen?_setCell]; exact h.fz o, ownsRow_setCell_other h.own hv u⟩
theorem MSt.drew {X : World} {P : Nat} {U : Nat → Int} {m : Nat} {wx : World} {v : Value} (h : MSt X P U m wx v) : MSt X P U m wx.drew v :=
  ⟨⟨h.bel.os, h.bel.tape, h.bel.output, h.bel.size, h.bel.block⟩, h.hi, h.c0, h.c1, h.c2, h.fz, h.own⟩
theorem set3 (Q : World) (N : Nat) {a0 a1 a2 : Value} (u0 u1 u2 : Value) (g0 : Q.cell? ⟨N, 0, none⟩ = some a0) (g1 : Q.cell? ⟨N, 1, none⟩ = some a1) (g2 : Q.cell? ⟨N, 2, none⟩ = some a2) :
    (((Q.setCell ⟨N, 0, none⟩ u0).setCell ⟨N, 1, none⟩ u1).setCell ⟨N, 2, none⟩ u2).cell? ⟨N, 0, none⟩ = some u0 ∧ (((Q.setCell ⟨N, 0, none⟩ u0).setCell ⟨N, 1, none⟩ u1).setCell ⟨N, 2, none⟩ u2).cell? ⟨N, 1, none⟩ = some u1 ∧ (((Q.setCell ⟨N, 0, none⟩ u0).setCell ⟨N, 1, none⟩ u1).setCell ⟨N, 2, none⟩ u2).cell? ⟨N, 2, none⟩ = some u2 := by
  have n01 : (⟨N, 1, none⟩ : Addr) ≠ ⟨N, 0, none⟩ := by simp
  have n02 : (⟨N, 2, none⟩ : Addr) ≠ ⟨N, 0, none⟩ := by simp
  have n12 : (⟨N, 2, none⟩ : Addr) ≠ ⟨N, 1, none⟩ := by simp
  have h0 : (Q.setCell ⟨N, 0, none⟩ u0).cell? ⟨N, 0, none⟩ = some u0 := World.cell?_setCell_same _ _ _ g0
  have h1 : (Q.setCell ⟨N, 0, none⟩ u0).cell? ⟨N, 1, none⟩ = some a1 := (World.cell?_setCell_other _ _ _ _ n01.symm).trans g1
  have h2 : (Q.setCell ⟨N, 0, none⟩ u0).cell? ⟨N, 2, none⟩ = some a2 := (World.cell?_setCell_other _ _ _ _ n02.symm).trans g2
  have k1 := World.cell?_setCell_same (Q.setCell ⟨N, 0, none⟩ u0) ⟨N, 1, none⟩ u1 h1
  have k2 := (World.cell?_setCell_other (Q.setCell ⟨N, 0, none⟩ u0) ⟨N, 1, none⟩ ⟨N, 2, none⟩ u1 n12.symm).trans h2
  exact ⟨(World.cell?_setCell_other _ _ _ _ n02).trans ((World.cell?_setCell_other _ _ _ _ n01).trans h0), (World.cell?_setCell_other _ _ _ _ n12).trans k1, World.cell?_setCell_same _ _ _ k2⟩
theorem keepM {R w' : World} {b1 b2 o1 o2 : Nat} {x0 x1 x2 y0 y1 y2 : Value} (h : Below R.heap.size R w') (h1 : b1 < R.heap.size) (h2 : b2 < R.heap.size) (f0 : R.cell? ⟨b1, o1, none⟩ = some x0) (f1 : R.cell? ⟨b1, o1 + 1, none⟩ = some x1) (f2 : R.cell? ⟨b1, o1 + 2, none⟩ = some x2) (g0 : R.cell? ⟨b2, o2, none⟩ = some y0) (g1 : R.cell? ⟨b2, o2 + 1, none⟩ = some y1) (g2 : R.cell? ⟨b2, o2 + 2, none⟩ = some y2) :
    Below R.heap.size R w' ∧ w'.cell? ⟨b1, o1, none⟩ = some x0 ∧ w'.cell? ⟨b1, o1 + 1, none⟩ = some x1 ∧ w'.cell? ⟨b1, o1 + 2, none⟩ = some x2 ∧ w'.cell? ⟨b2, o2, none⟩ = some y0 ∧ w'.cell? ⟨b2, o2 + 1, none⟩ = some y1 ∧ w'.cell? ⟨b2, o2 + 2, none⟩ = some y2 :=
  ⟨h, bc h h1 f0, bc h h1 f1, bc h h1 f2, bc h h2 g0, bc h h2 g1, bc h h2 g2⟩
theorem bset3 {R w : World} {M : Nat} {u0 u1 u2 : Value} (h : Below R.heap.size R w) (hM : R.heap.size ≤ M) : Below R.heap.size R (((w.setCell ⟨M, 0, none⟩ u0).setCell ⟨M, 1, none⟩ u1).setCell ⟨M, 2, none⟩ u2) :=
  ((h.setCell (p := ⟨M, 0, none⟩) hM u0).setCell (p := ⟨M, 1, none⟩) hM u1).setCell (p := ⟨M, 2, none⟩) hM u2
theorem MSt.skip {X : World} {P : Nat} {U : Nat → Int} {m i : Nat} {wx : World} {v : Value} (h : MSt X P U m wx v) (hm : m ≤ i) (hz : ∀ j, m ≤ j → j < i + 1 → U j = 0) : MSt X P U (i + 1) wx v := by
  have e : idx U (i + 1) = idx U m := lcu_same hm hz
  have e2 : lcu U (i + 1) = lcu U m := by unfold lcu; rw [e]
  refine ⟨h.bel, h.hi, h.c0, h.c1, h.c2, h.fz, ?_⟩
  rw [e2, e]; exact h.own
theorem MSt.grown {X : World} {P : Nat} {U : Nat → Int} {m : Nat} {wx w6 : World} {v : Value} (h : MSt X P U m wx v) (hg : wx.grownBy w6 v.ownBlock) :
    Below P X w6 ∧ P < w6.heap.size ∧ w6.cell? ⟨P, 0, none⟩ = some (.int .i64 2026) ∧ w6.cell? ⟨P, 1, none⟩ = some (.int .i64 1) ∧ w6.cell? ⟨P, 2, none⟩ = some v ∧ ∀ o, w6.frozen? ⟨P, o, none⟩ = false := by
  have hne : some P ≠ v.ownBlock := fun e => by have := (h.own.lt P e.symm).1; omega
  have hbk := hg.block P h.hi hne
  refine ⟨h.bel.grown hg (Nat.le_of_lt h.hi) (fun j hj => by have := (h.own.lt j hj).1; omega), Nat.lt_of_lt_of_le h.hi hg.size, (World.cell?_of_block (a := ⟨P, 0, none⟩) hbk).trans h.c0, (World.cell?_of_block (a := ⟨P, 1, none⟩) hbk).trans h.c1, (World.cell?_of_block (a := ⟨P, 2, none⟩) hbk).trans h.c2, fun o => ?_⟩
  have := h.fz o
  unfold World.frozen? at this ⊢
  simp only at this ⊢
  rw [hbk]; exact this
theorem MSt.app {X : World} {P : Nat} {U : Nat → Int} {m i : Nat} {wx w6 : World} {v v' : Value} (h : MSt X P U m wx v) (hg : wx.grownBy w6 v.ownBlock) (hown : w6.ownsRow (P + 1) 45 3 v' ((idx U m).length + 1) (XR (lcu U m) (idx U m).length ++ lc i (U i))) (hm : m ≤ i) (hz : ∀ j, m ≤ j → j < i → U j = 0) (hi : U i ≠ 0) :
    MSt X P U (i + 1) (w6.setCell ⟨P, 2, none⟩ v') v' := by
  obtain ⟨a, b, c0, c1, c2, f⟩ := h.grown hg
  have hv : v'.ownBlock ≠ some P := fun e => by have := (hown.lt P e).1; omega
  obtain ⟨l1, l2⟩ := lcu_next hm hz hi
  refine ⟨a.setCell (p := ⟨P, 2, none⟩) (Nat.le_refl _) v', by simpa using b, (World.cell?_setCell_other _ _ _ _ (by simp)).trans c0, (World.cell?_setCell_other _ _ _ _ (by simp)).trans c1, World.cell?_setCell_same _ _ _ c2, fun o => by rw [World.frozen?_setCell]; exact f o, ?_⟩
  rw [l1, l2]
  exact ownsRow_setCell_other hown hv v'
/-- What the switch leaves: the next line, in block N; both lists behind it. -/
def MCut (W X : World) (P N : Nat) (A D : Nat → Int) (m : Nat) (v : Value) (lim : Nat) (s10 s11 : Value) (wx : World) : Prop :=
  ∃ i : Nat, m ≤ i ∧ i < 28 ∧ (∀ j, m ≤ j → j < i → A j + D j = 0) ∧ XY W A (idx A (i + 1)).length s10 ∧ XY W D (idx D (i + 1)).length s11 ∧ MSt X P (fun i => A i + D i) m wx v ∧
    (wx.cell? ⟨N, 0, none⟩ = some (.int .i64 (prt i)) ∧ wx.cell? ⟨N, 1, none⟩ = some (.string (cod i)) ∧ wx.cell? ⟨N, 2, none⟩ = some (.int .i64 (A i + D i))) ∧ N < wx.heap.size ∧ lenOf s10 + lenOf s11 < lim
theorem mcut_mk {W X Q : World} {P N : Nat} {A D : Nat → Int} {m : Nat} {v : Value} {lim : Nat} {s10 s11 : Value} {i : Nat} {c : Int} {a0 a1 a2 : Value} (hmi : m ≤ i) (hi : i < 28) (hz : ∀ j, m ≤ j → j < i → A j + D j = 0) (hx : XY W A (idx A (i + 1)).length s10) (hy : XY W D (idx D (i + 1)).length s11) (hst : MSt X P (fun i => A i + D i) m Q v) (hPN : P < N) (hown : v.ownBlock ≠ some N)
    (g0 : Q.cell? ⟨N, 0, none⟩ = some a0) (g1 : Q.cell? ⟨N, 1, none⟩ = some a1) (g2 : Q.cell? ⟨N, 2, none⟩ = some a2) (gs : N < Q.heap.size) (hc : c = A i + D i) (hlen : lenOf s10 + lenOf s11 < lim) :
    MCut W X P N A D m v lim s10 s11 (((Q.setCell ⟨N, 0, none⟩ (.int .i64 (prt i))).setCell ⟨N, 1, none⟩ (.string (cod i))).setCell ⟨N, 2, none⟩ (.int .i64 c)).drew := by
  subst hc
  have h := set3 Q N (.int .i64 (prt i)) (.string (cod i)) (.int .i64 (A i + D i)) g0 g1 g2
  exact ⟨i, hmi, hi, hz, hx, hy, (((hst.far hPN hown _ _).far hPN hown _ _).far hPN hown _ _).drew, h, by simpa using gs, hlen⟩
set_option maxRecDepth 100000 in
set_option maxHeartbeats 8000000 in
theorem merge_is (A D : Nat → Int) (hA : small BB A) (hD : small BB D) (hU : small BB (fun i => A i + D i)) (a1 a2 : Option Addr) (cap1 cap2 : Nat) (W : World) (h1 : Lst 3 W a1 (ln A) (lcs A)) (h2 : Lst 3 W a2 (ln D) (lcs D)) (hc1 : ln A ≤ cap1 ∧ cap1 ≤ maxLen) (hc2 : ln D ≤ cap2 ∧ cap2 ≤ maxLen) :
    Calls Try.prog 18 #[sv a1 (ln A) cap1, sv a2 (ln D) cap2] W fun e w' => ∃ a cap, e = .returned (.tuple #[sv a (ln fun i => A i + D i) cap, .int .i64 0]) ∧ Lst 3 w' a (ln fun i => A i + D i) (lcs fun i => A i + D i) ∧ (ln (fun i => A i + D i) ≤ cap ∧ cap ≤ maxLen) ∧ Below W.heap.size W w' ∧ ∀ x, a = some x → W.heap.size ≤ x.block := by
  have HC1 := Lib.hid (fun (w : World) h => scheck_is A hA a1 cap1 w h)
  have HC2 := Lib.hid (fun (w : World) h => scheck_is D hD a2 cap2 w h)
  have H1 := Lib.hid h1
  have H2 := Lib.hid h2
  unfold sv
  go_enter Try.func18, Try.ntmps18
  have hU0 : Below W.heap.size W ((((W.alloc (.cells #[.int .i64 2026, .int .i64 1, .slice a1 (ln A) cap1] 29)).alloc (.cells #[.int .i64 2026, .int .i64 1, .slice a2 (ln D) cap2] 29)).alloc (.cells #[.int .i64 0, .int .i64 0, .slice none 0 0] 29)).alloc (.cells #[.int .i64 2026, .int .i64 1, .slice a1 (ln A) cap1, .int .i64 2026, .int .i64 1, .slice a2 (ln D) cap2] 29)) := balloc (balloc (balloc (balloc (Below.refl _ _) _) _) _) _
  have p10 : ((((W.alloc (.cells #[.int .i64 2026, .int .i64 1, .slice a1 (ln A) cap1] 29)).alloc (.cells #[.int .i64 2026, .int .i64 1, .slice a2 (ln D) cap2] 29)).alloc (.cells #[.int .i64 0, .int .i64 0, .slice none 0 0] 29)).alloc (.cells #[.int .i64 2026, .int .i64 1, .slice a1 (ln A) cap1, .int .i64 2026, .int .i64 1, .slice a2 (ln D) cap2] 29)).cell? ⟨W.heap.size, 0, none⟩ = some (.int .i64 2026) := by go_simp
  have p11 : ((((W.alloc (.cells #[.int .i64 2026, .int .i64 1, .slice a1 (ln A) cap1] 29)).alloc (.cells #[.int .i64 2026, .int .i64 1, .slice a2 (ln D) cap2] 29)).alloc (.cells #[.int .i64 0, .int .i64 0, .slice none 0 0] 29)).alloc (.cells #[.int .i64 2026, .int .i64 1, .slice a1 (ln A) cap1, .int .i64 2026, .int .i64 1, .slice a2 (ln D) cap2] 29)).cell? ⟨W.heap.size, 1, none⟩ = some (.int .i64 1) := by go_simp
  have p12 : ((((W.alloc (.cells #[.int .i64 2026, .int .i64 1, .slice a1 (ln A) cap1] 29)).alloc (.cells #[.int .i64 2026, .int .i64 1, .slice a2 (ln D) cap2] 29)).alloc (.cells #[.int .i64 0, .int .i64 0, .slice none 0 0] 29)).alloc (.cells #[.int .i64 2026, .int .i64 1, .slice a1 (ln A) cap1, .int .i64 2026, .int .i64 1, .slice a2 (ln D) cap2] 29)).cell? ⟨W.heap.size, 2, none⟩ = some (.slice a1 (ln A) cap1) := by go_simp
  have p20 : ((((W.alloc (.cells #[.int .i64 2026, .int .i64 1, .slice a1 (ln A) cap1] 29)).alloc (.cells #[.int .i64 2026, .int .i64 1, .slice a2 (ln D) cap2] 29)).alloc (.cells #[.int .i64 0, .int .i64 0, .slice none 0 0] 29)).alloc (.cells #[.int .i64 2026, .int .i64 1, .slice a1 (ln A) cap1, .int .i64 2026, .int .i64 1, .slice a2 (ln D) cap2] 29)).cell? ⟨W.heap.size + 1, 0, none⟩ = some (.int .i64 2026) := by go_simp
  have p21 : ((((W.alloc (.cells #[.int .i64 2026, .int .i64 1, .slice a1 (ln A) cap1] 29)).alloc (.cells #[.int .i64 2026, .int .i64 1, .slice a2 (ln D) cap2] 29)).alloc (.cells #[.int .i64 0, .int .i64 0, .slice none 0 0] 29)).alloc (.cells #[.int .i64 2026, .int .i64 1, .slice a1 (ln A) cap1, .int .i64 2026, .int .i64 1, .slice a2 (ln D) cap2] 29)).cell? ⟨W.heap.size + 1, 1, none⟩ = some (.int .i64 1) := by go_simp
  have p22 : ((((W.alloc (.cells #[.int .i64 2026, .int .i64 1, .slice a1 (ln A) cap1] 29)).alloc (.cells #[.int .i64 2026, .int .i64 1, .slice a2 (ln D) cap2] 29)).alloc (.cells #[.int .i64 0, .int .i64 0, .slice none 0 0] 29)).alloc (.cells #[.int .i64 2026, .int .i64 1, .slice a1 (ln A) cap1, .int .i64 2026, .int .i64 1, .slice a2 (ln D) cap2] 29)).cell? ⟨W.heap.size + 1, 2, none⟩ = some (.slice a2 (ln D) cap2) := by go_simp
  have p40 : ((((W.alloc (.cells #[.int .i64 2026, .int .i64 1, .slice a1 (ln A) cap1] 29)).alloc (.cells #[.int .i64 2026, .int .i64 1, .slice a2 (ln D) cap2] 29)).alloc (.cells #[.int .i64 0, .int .i64 0, .slice none 0 0] 29)).alloc (.cells #[.int .i64 2026, .int .i64 1, .slice a1 (ln A) cap1, .int .i64 2026, .int .i64 1, .slice a2 (ln D) cap2] 29)).cell? ⟨W.heap.size + 2, 0, none⟩ = some (.int .i64 0) := by go_simp
  have p41 : ((((W.alloc (.cells #[.int .i64 2026, .int .i64 1, .slice a1 (ln A) cap1] 29)).alloc (.cells #[.int .i64 2026, .int .i64 1, .slice a2 (ln D) cap2] 29)).alloc (.cells #[.int .i64 0, .int .i64 0, .slice none 0 0] 29)).alloc (.cells #[.int .i64 2026, .int .i64 1, .slice a1 (ln A) cap1, .int .i64 2026, .int .i64 1, .slice a2 (ln D) cap2] 29)).cell? ⟨W.heap.size + 2, 1, none⟩ = some (.int .i64 0) := by go_simp
  have p42 : ((((W.alloc (.cells #[.int .i64 2026, .int .i64 1, .slice a1 (ln A) cap1] 29)).alloc (.cells #[.int .i64 2026, .int .i64 1, .slice a2 (ln D) cap2] 29)).alloc (.cells #[.int .i64 0, .int .i64 0, .slice none 0 0] 29)).alloc (.cells #[.int .i64 2026, .int .i64 1, .slice a1 (ln A) cap1, .int .i64 2026, .int .i64 1, .slice a2 (ln D) cap2] 29)).cell? ⟨W.heap.size + 2, 2, none⟩ = some (.slice none 0 0) := by go_simp
  have p4f : ∀ o, ((((W.alloc (.cells #[.int .i64 2026, .int .i64 1, .slice a1 (ln A) cap1] 29)).alloc (.cells #[.int .i64 2026, .int .i64 1, .slice a2 (ln D) cap2] 29)).alloc (.cells #[.int .i64 0, .int .i64 0, .slice none 0 0] 29)).alloc (.cells #[.int .i64 2026, .int .i64 1, .slice a1 (ln A) cap1, .int .i64 2026, .int .i64 1, .slice a2 (ln D) cap2] 29)).frozen? ⟨W.heap.size + 2, o, none⟩ = false := fun o => by go_simp
  have t0 : ((((W.alloc (.cells #[.int .i64 2026, .int .i64 1, .slice a1 (ln A) cap1] 29)).alloc (.cells #[.int .i64 2026, .int .i64 1, .slice a2 (ln D) cap2] 29)).alloc (.cells #[.int .i64 0, .int .i64 0, .slice none 0 0] 29)).alloc (.cells #[.int .i64 2026, .int .i64 1, .slice a1 (ln A) cap1, .int .i64 2026, .int .i64 1, .slice a2 (ln D) cap2] 29)).cell? ⟨W.heap.size + 3, 0, none⟩ = some (.int .i64 2026) := by go_simp
  have t1 : ((((W.alloc (.cells #[.int .i64 2026, .int .i64 1, .slice a1 (ln A) cap1] 29)).alloc (.cells #[.int .i64 2026, .int .i64 1, .slice a2 (ln D) cap2] 29)).alloc (.cells #[.int .i64 0, .int .i64 0, .slice none 0 0] 29)).alloc (.cells #[.int .i64 2026, .int .i64 1, .slice a1 (ln A) cap1, .int .i64 2026, .int .i64 1, .slice a2 (ln D) cap2] 29)).cell? ⟨W.heap.size + 3, 1, none⟩ = some (.int .i64 1) := by go_simp
  have t2 : ((((W.alloc (.cells #[.int .i64 2026, .int .i64 1, .slice a1 (ln A) cap1] 29)).alloc (.cells #[.int .i64 2026, .int .i64 1, .slice a2 (ln D) cap2] 29)).alloc (.cells #[.int .i64 0, .int .i64 0, .slice none 0 0] 29)).alloc (.cells #[.int .i64 2026, .int .i64 1, .slice a1 (ln A) cap1, .int .i64 2026, .int .i64 1, .slice a2 (ln D) cap2] 29)).cell? ⟨W.heap.size + 3, 2, none⟩ = some (.slice a1 (ln A) cap1) := by go_simp
  have t3 : ((((W.alloc (.cells #[.int .i64 2026, .int .i64 1, .slice a1 (ln A) cap1] 29)).alloc (.cells #[.int .i64 2026, .int .i64 1, .slice a2 (ln D) cap2] 29)).alloc (.cells #[.int .i64 0, .int .i64 0, .slice none 0 0] 29)).alloc (.cells #[.int .i64 2026, .int .i64 1, .slice a1 (ln A) cap1, .int .i64 2026, .int .i64 1, .slice a2 (ln D) cap2] 29)).cell? ⟨W.heap.size + 3, 3, none⟩ = some (.int .i64 2026) := by go_simp
  have t4 : ((((W.alloc (.cells #[.int .i64 2026, .int .i64 1, .slice a1 (ln A) cap1] 29)).alloc (.cells #[.int .i64 2026, .int .i64 1, .slice a2 (ln D) cap2] 29)).alloc (.cells #[.int .i64 0, .int .i64 0, .slice none 0 0] 29)).alloc (.cells #[.int .i64 2026, .int .i64 1, .slice a1 (ln A) cap1, .int .i64 2026, .int .i64 1, .slice a2 (ln D) cap2] 29)).cell? ⟨W.heap.size + 3, 4, none⟩ = some (.int .i64 1) := by go_simp
  have t5 : ((((W.alloc (.cells #[.int .i64 2026, .int .i64 1, .slice a1 (ln A) cap1] 29)).alloc (.cells #[.int .i64 2026, .int .i64 1, .slice a2 (ln D) cap2] 29)).alloc (.cells #[.int .i64 0, .int .i64 0, .slice none 0 0] 29)).alloc (.cells #[.int .i64 2026, .int .i64 1, .slice a1 (ln A) cap1, .int .i64 2026, .int .i64 1, .slice a2 (ln D) cap2] 29)).cell? ⟨W.heap.size + 3, 5, none⟩ = some (.slice a2 (ln D) cap2) := by go_simp
  have hsz : ((((W.alloc (.cells #[.int .i64 2026, .int .i64 1, .slice a1 (ln A) cap1] 29)).alloc (.cells #[.int .i64 2026, .int .i64 1, .slice a2 (ln D) cap2] 29)).alloc (.cells #[.int .i64 0, .int .i64 0, .slice none 0 0] 29)).alloc (.cells #[.int .i64 2026, .int .i64 1, .slice a1 (ln A) cap1, .int .i64 2026, .int .i64 1, .slice a2 (ln D) cap2] 29)).heap.size = W.heap.size + 4 := by simp
  go_wp2_with fail
  generalize ((((W.alloc (.cells #[.int .i64 2026, .int .i64 1, .slice a1 (ln A) cap1] 29)).alloc (.cells #[.int .i64 2026, .int .i64 1, .slice a2 (ln D) cap2] 29)).alloc (.cells #[.int .i64 0, .int .i64 0, .slice none 0 0] 29)).alloc (.cells #[.int .i64 2026, .int .i64 1, .slice a1 (ln A) cap1, .int .i64 2026, .int .i64 1, .slice a2 (ln D) cap2] 29)) = U at *
  have hPW : W.heap.size + 3 < U.heap.size := by omega
  have HJ : Hid (∀ j, j < 2 → ∀ wx, Below U.heap.size U wx → ∃ x n c, wx.cell? ⟨W.heap.size + 3, j * 3, none⟩ = some (.int .i64 2026) ∧ wx.cell? ⟨W.heap.size + 3, j * 3 + 1, none⟩ = some (.int .i64 1) ∧ wx.cell? ⟨W.heap.size + 3, j * 3 + 2, none⟩ = some (.slice x n c) ∧ ∀ w, Below W.heap.size W w → Calls Try.prog 16 #[.agg #[.int .i64 2026, .int .i64 1, .slice x n c]] w fun e w' => e = .returned (.int .i64 0) ∧ Below w.heap.size w w') := fun j hj wx hb => by
    rcases (by omega : j = 0 ∨ j = 1) with rfl | rfl
    · exact ⟨a1, _, cap1, bc hb hPW t0, bc hb hPW t1, bc hb hPW t2, fun w h => HC1.out w (H1.out.step h)⟩
    · exact ⟨a2, _, cap2, bc hb hPW t3, bc hb hPW t4, bc hb hPW t5, fun w h => HC2.out w (H2.out.step h)⟩
  have HP := Lib.hid (And.intro p10 (And.intro p11 (And.intro p12 (And.intro p20 (And.intro p21 (And.intro p22 (And.intro p40 (And.intro p41 (And.intro p42 p4f)))))))))
  have HU0 := Lib.hid hU0
  clear p10 p11 p12 p20 p21 p22 p40 p41 p42 p4f t0 t1 t2 t3 t4 t5 hU0 HC1 HC2
  go_loopw [19] (fun s19 wx => ∃ j : Nat, j ≤ 2 ∧ s19 = .int .i64 j ∧ Hid (Below U.heap.size U wx)) (fun s19 _ => 2 - (intOf s19).toNat)
  case atStart => exact ⟨0, by omega, rfl, Below.refl _ _⟩
  case round =>
    obtain ⟨j, hj, rfl, hbw⟩ := hrel
    by_cases cj : j < 2
    · have cj' : (j : Int) < 2 := by omega
      obtain ⟨x, n, c, d0, d1, d2, hck⟩ := HJ.out j cj wr hbw.out
      have wj : IntKind.i64.wrap ((j : Int) + 1) = (j : Int) + 1 := IntWalk.i64_in _ (by omega)
      have hB1 := Lib.hid (balloc hbw.out (.cells #[.int .i64 2026, .int .i64 1, .slice x n c] 29))
      have hCK := Lib.hid (hck _ (bstep HU0.out hB1.out))
      clear hck
      go_wp2_with fail
      refine hCK.out.mono ?_
      rintro e w3 ⟨rfl, hb3⟩
      have hB3 := Lib.hid (bstep hB1.out hb3)
      clear hb3
      go_wp2_with fail
      go_roundw
      case rel => exact ⟨j + 1, by omega, by go_num, hB3.out⟩
      case measure => simp [intOf]; omega
    · obtain rfl : j = 2 := by omega
      clear HJ
      have c10 := bc hbw.out (show W.heap.size < U.heap.size by omega) HP.out.1
      have c11 := bc hbw.out (show W.heap.size < U.heap.size by omega) HP.out.2.1
      have c12 := bc hbw.out (show W.heap.size < U.heap.size by omega) HP.out.2.2.1
      have c20 := bc hbw.out (show W.heap.size + 1 < U.heap.size by omega) HP.out.2.2.2.1
      have c21 := bc hbw.out (show W.heap.size + 1 < U.heap.size by omega) HP.out.2.2.2.2.1
      have c22 := bc hbw.out (show W.heap.size + 1 < U.heap.size by omega) HP.out.2.2.2.2.2.1
      have q1 : W.heap.size < wr.heap.size := by have := hbw.out.size; omega
      have q2 : W.heap.size + 1 < wr.heap.size := by have := hbw.out.size; omega
      go_upto_region 11 with fail
      have e0 : (wr.alloc (.cells #[.int .i64 2026, .int .i64 1, .slice none 0 0] 29)).cell? ⟨wr.heap.size, 0, none⟩ = some (.int .i64 2026) := by simp
      have e1 : (wr.alloc (.cells #[.int .i64 2026, .int .i64 1, .slice none 0 0] 29)).cell? ⟨wr.heap.size, 1, none⟩ = some (.int .i64 1) := by simp
      have e2 : (wr.alloc (.cells #[.int .i64 2026, .int .i64 1, .slice none 0 0] 29)).cell? ⟨wr.heap.size, 2, none⟩ = some (.slice none 0 0) := by simp
      have ef : ∀ o, (wr.alloc (.cells #[.int .i64 2026, .int .i64 1, .slice none 0 0] 29)).frozen? ⟨wr.heap.size, o, none⟩ = false := fun o => World.frozen?_alloc_at _ _ _ _ rfl
      have es : wr.heap.size < (wr.alloc (.cells #[.int .i64 2026, .int .i64 1, .slice none 0 0] 29)).heap.size := by simp
      have es2 : wr.heap.size + 1 ≤ (wr.alloc (.cells #[.int .i64 2026, .int .i64 1, .slice none 0 0] 29)).heap.size := by simp
      have hbX := Lib.hid (balloc hbw.out (.cells #[.int .i64 2026, .int .i64 1, .slice none 0 0] 29))
      have c12' := bc (balloc (Below.refl wr.heap.size wr) (.cells #[.int .i64 2026, .int .i64 1, .slice none 0 0] 29)) q1 c12
      have c22' := bc (balloc (Below.refl wr.heap.size wr) (.cells #[.int .i64 2026, .int .i64 1, .slice none 0 0] 29)) q2 c22
      clear c10 c11 c12 c20 c21 c22
      generalize wr.alloc (.cells #[.int .i64 2026, .int .i64 1, .slice none 0 0] 29) = X0 at *
      have HE := Lib.hid (And.intro e0 (And.intro e1 (And.intro e2 (And.intro ef es))))
      clear e0 e1 e2 ef es
      go_quiet (fail)
      go_wp2_with fail
      have HBX : Hid (Below U.heap.size U (X0.drewN nq)) := below_drewN hbX.out nq
      have hst0 : Hid (MSt (X0.drewN nq) wr.heap.size (fun i => A i + D i) 0 (X0.drewN nq) (.slice none 0 0)) := ⟨Below.refl _ _, HE.out.2.2.2.2, HE.out.1, HE.out.2.1, HE.out.2.2.1, HE.out.2.2.2.1, World.ownsRow_nil _ _ _ _⟩
      have hP9 : W.heap.size + 4 ≤ wr.heap.size := by have := hbw.out.size; omega
      have hXs : wr.heap.size < (X0.drewN nq).heap.size := HE.out.2.2.2.2
      clear c12' c22' q1 q2 hbX HE es2 hbw
      generalize X0.drewN nq = X at *
      generalize wr.heap.size = P at *
      have hx0 : Hid (XY W A (idx A 0).length (.slice a1 (ln A) cap1)) := ⟨a1, ln A, cap1, rfl, rfl, hc1.1, hc1.2, ⟨h1.1, fun h => by
        obtain ⟨b, o, e, hlt, hc⟩ := h1.2 h
        exact ⟨b, o, e, hlt, fun j hj z u hu => hc j hj z u (by have hu' : (lcs A (0 + j))[z]? = some u := hu; rw [Nat.zero_add] at hu'; exact hu')⟩⟩⟩
      have hy0 : Hid (XY W D (idx D 0).length (.slice a2 (ln D) cap2)) := ⟨a2, ln D, cap2, rfl, rfl, hc2.1, hc2.2, ⟨h2.1, fun h => by
        obtain ⟨b, o, e, hlt, hc⟩ := h2.2 h
        exact ⟨b, o, e, hlt, fun j hj z u hu => hc j hj z u (by have hu' : (lcs D (0 + j))[z]? = some u := hu; rw [Nat.zero_add] at hu'; exact hu')⟩⟩⟩
      clear h1 h2 hc1 hc2 H1 H2
      have HSA := Lib.hid hA
      have HSD := Lib.hid hD
      have HSU := Lib.hid hU
      clear hA hD hU
      go_loopw [10, 11] (fun s10 s11 wx => ∃ (m : Nat) (v : Value), m ≤ 28 ∧ Hid (XY W A (idx A m).length s10) ∧ Hid (XY W D (idx D m).length s11) ∧ Hid (MSt X P (fun i => A i + D i) m wx v)) (fun s10 s11 _ => lenOf s10 + lenOf s11)
      case atStart => exact ⟨0, _, by omega, hx0.out, hy0.out, hst0.out⟩
      case round =>
        obtain ⟨m, v, hm, hx, hy, hst⟩ := hrel
        clear hx0 hy0 hst0
        obtain ⟨xa, nx, cx, rfl, hnx, hcx, hcx2, hlx⟩ := hx.out
        obtain ⟨ya, ny, cy, rfl, hny, hcy, hcy2, hly⟩ := hy.out
        have HNX := Lib.hid hnx
        have HNY := Lib.hid hny
        clear hnx hny
        have hWX : Below W.heap.size W wr := (HU0.out.trans ((HBX.out.mono HU0.out.size).trans (hst.out.bel.mono (by omega))))
        have HWX := Lib.hid hWX
        clear hWX
        by_cases hnone : nx = 0 ∧ ny = 0
        · obtain ⟨rfl, rfl⟩ := hnone
          have zA := at_end (T := A) hm (by have := HNX.out; omega)
          have zD := at_end (T := D) hm (by have := HNY.out; omega)
          have hfin := hst.out
          have hall : idx (fun i => A i + D i) 28 = idx (fun i => A i + D i) m := idx_to hm (fun j h1 h2 => by show A j + D j = 0; rw [zA j h1 h2, zD j h1 h2]; rfl)
          have hown := hfin.own
          have hlc : lcu (fun i => A i + D i) m = lcs (fun i => A i + D i) := by rw [← lcu_all]; unfold lcu; rw [hall]
          have hln : (idx (fun i => A i + D i) m).length = ln (fun i => A i + D i) := by unfold ln; rw [hall]
          rw [hlc, hln] at hown
          have hln28 := ln_le (fun i => A i + D i)
          have hcap : ∃ a cap, v = .slice a (ln fun i => A i + D i) cap ∧ ln (fun i => A i + D i) ≤ cap ∧ cap ≤ maxLen := by
            rcases hown.2 with ⟨hv, h0⟩ | ⟨g', cap', cur, hv, _, _, k1, k2, _⟩
            · exact ⟨none, 0, by rw [hv, h0], by omega, Nat.zero_le _⟩
            · exact ⟨_, cap', hv, k1, k2⟩
          obtain ⟨a', cap', rfl, hcp1, hcp2⟩ := hcap
          obtain ⟨a3, cap3, he3, hl3⟩ := own_lst (z := 3) (fun q => rfl) hown (by omega)
          injection he3 with e1 _ e3
          subst e1 e3
          have p40 := bc hfin.bel (show W.heap.size + 2 < P by omega) (bc HBX.out (show W.heap.size + 2 < U.heap.size by omega) HP.out.2.2.2.2.2.2.1)
          have p41 := bc hfin.bel (show W.heap.size + 2 < P by omega) (bc HBX.out (show W.heap.size + 2 < U.heap.size by omega) HP.out.2.2.2.2.2.2.2.1)
          have p42 := bc hfin.bel (show W.heap.size + 2 < P by omega) (bc HBX.out (show W.heap.size + 2 < U.heap.size by omega) HP.out.2.2.2.2.2.2.2.2.1)
          have p4f : ∀ o, wr.frozen? ⟨W.heap.size + 2, o, none⟩ = false := fun o => bf hfin.bel (show W.heap.size + 2 < P by omega) (bf HBX.out (show W.heap.size + 2 < U.heap.size by omega) (HP.out.2.2.2.2.2.2.2.2.2 o))
          have h0 := hfin.c0
          have h1 := hfin.c1
          have h2 := hfin.c2
          have hPs := hfin.hi
          have hL := Lib.hid hl3
          have hO := Lib.hid hown
          have n448 : ¬ (448 : Int) < ((ln fun i => A i + D i : Nat) : Int) := by omega
          clear hall hlc hln hlx hly hx hy HNX HNY zA zD hst hfin hown hl3
          go_wp2_with fail
          obtain ⟨y0, y1, y2⟩ := set3 wr (W.heap.size + 1 + 1) (.int .i64 2026) (.int .i64 1) (.slice a' (ln fun i => A i + D i) cap') p40 p41 p42
          have hBz : Below W.heap.size W (((wr.setCell ⟨W.heap.size + 1 + 1, 0, none⟩ (.int .i64 2026)).setCell ⟨W.heap.size + 1 + 1, 1, none⟩ (.int .i64 1)).setCell ⟨W.heap.size + 1 + 1, 2, none⟩ (.slice a' (ln fun i => A i + D i) cap')) := ((HWX.out.setCell (p := ⟨W.heap.size + 1 + 1, 0, none⟩) (by show W.heap.size ≤ W.heap.size + 1 + 1; omega) _).setCell (p := ⟨W.heap.size + 1 + 1, 1, none⟩) (by show W.heap.size ≤ W.heap.size + 1 + 1; omega) _).setCell (p := ⟨W.heap.size + 1 + 1, 2, none⟩) (by show W.heap.size ≤ W.heap.size + 1 + 1; omega) _
          have hnb : (Value.slice a' (ln fun i => A i + D i) cap').ownBlock ≠ some (W.heap.size + 1 + 1) := fun e => by have := (hO.out.lt _ e).1; omega
          have hOz := ownsRow_setCell_other (a := ⟨W.heap.size + 1 + 1, 2, none⟩) (ownsRow_setCell_other (a := ⟨W.heap.size + 1 + 1, 1, none⟩) (ownsRow_setCell_other (a := ⟨W.heap.size + 1 + 1, 0, none⟩) hO.out hnb (.int .i64 2026)) hnb (.int .i64 1)) hnb (.slice a' (ln fun i => A i + D i) cap')
          obtain ⟨a3, cap3, he3, hlz⟩ := own_lst (z := 3) (fun q => rfl) hOz (by omega)
          injection he3 with e1 _ e3
          subst e1 e3
          generalize (((wr.setCell ⟨W.heap.size + 1 + 1, 0, none⟩ (.int .i64 2026)).setCell ⟨W.heap.size + 1 + 1, 1, none⟩ (.int .i64 1)).setCell ⟨W.heap.size + 1 + 1, 2, none⟩ (.slice a' (ln fun i => A i + D i) cap')) = Y at *
          exact bodyPost_ret (v := .tuple #[.agg #[.int .i64 2026, .int .i64 1, .slice a' (ln fun i => A i + D i) cap'], .int .i64 0]) (by simp [results, Try.results18, go_sem, y0, y1, y2]) rfl ⟨a', cap', rfl, hlz, ⟨hcp1, hcp2⟩, hBz, fun x hx => by subst hx; have h9 := (hO.out.lt x.block rfl).1; omega⟩
        · have HX : Hid (0 < nx → m ≤ at_ A (idx A m).length ∧ at_ A (idx A m).length < 28 ∧ A (at_ A (idx A m).length) ≠ 0 ∧ ∀ j, m ≤ j → j < at_ A (idx A m).length → A j = 0) := fun h => at_head hm (by have := HNX.out; omega)
          have HX0 : Hid (¬ 0 < nx → ∀ j, m ≤ j → j < 28 → A j = 0) := fun h => at_end hm (by have := HNX.out; omega)
          have HY : Hid (0 < ny → m ≤ at_ D (idx D m).length ∧ at_ D (idx D m).length < 28 ∧ D (at_ D (idx D m).length) ≠ 0 ∧ ∀ j, m ≤ j → j < at_ D (idx D m).length → D j = 0) := fun h => at_head hm (by have := HNY.out; omega)
          have HY0 : Hid (¬ 0 < ny → ∀ j, m ≤ j → j < 28 → D j = 0) := fun h => at_end hm (by have := HNY.out; omega)
          have HXF := Lib.hid (fun h => xy_first HNX.out h hcx hcx2 hlx)
          have HYF := Lib.hid (fun h => xy_first HNY.out h hcy hcy2 hly)
          clear hlx hly
          have hnn : ¬ nx = 0 → (0 : Int) < (nx : Int) := fun h => by omega
          clear hnn
          go_upto_region 12 with fail
          go_cut [59] (fun s59 wx => s59 = .bool true ∧ wx = wr)
          case first =>
            by_cases ax : 0 < nx
            · have ax' : (0 : Int) < (nx : Int) := by omega
              go_wp2_with fail
              go_meet
              exact ⟨rfl, rfl⟩
            · have ax' : ¬ (0 : Int) < (nx : Int) := by omega
              have ay' : decide (0 < ny) = true := decide_eq_true (by omega)
              have ax'' : decide (0 < nx) = false := decide_eq_false ax
              go_wp2_with fail
              go_meet
              exact ⟨rfl, rfl⟩
          case rest =>
            obtain ⟨rfl, rfl⟩ := hcut
            go_upto_block 4 with fail
            have n0 : (wc.alloc (.cells #[.int .i64 0, .string ⟨#[]⟩, .int .i64 0] 45)).cell? ⟨wc.heap.size, 0, none⟩ = some (.int .i64 0) := by simp
            have n1 : (wc.alloc (.cells #[.int .i64 0, .string ⟨#[]⟩, .int .i64 0] 45)).cell? ⟨wc.heap.size, 1, none⟩ = some (.string ⟨#[]⟩) := by simp
            have n2 : (wc.alloc (.cells #[.int .i64 0, .string ⟨#[]⟩, .int .i64 0] 45)).cell? ⟨wc.heap.size, 2, none⟩ = some (.int .i64 0) := by simp
            have nf : ∀ o, (wc.alloc (.cells #[.int .i64 0, .string ⟨#[]⟩, .int .i64 0] 45)).frozen? ⟨wc.heap.size, o, none⟩ = false := fun o => World.frozen?_alloc_at _ _ _ _ rfl
            have ns : wc.heap.size < (wc.alloc (.cells #[.int .i64 0, .string ⟨#[]⟩, .int .i64 0] 45)).heap.size := by simp
            have hPN : P < wc.heap.size := hst.out.hi
            have hownN : Hid (v.ownBlock ≠ some wc.heap.size) := fun h => by have := (hst.out.own.lt _ h).2; omega
            have hstN := Lib.hid (hst.out.step (balloc (Below.refl _ _) (.cells #[.int .i64 0, .string ⟨#[]⟩, .int .i64 0] 45)))
            have HWN := Lib.hid (balloc HWX.out (.cells #[.int .i64 0, .string ⟨#[]⟩, .int .i64 0] 45))
            clear hst HWX
            generalize wc.alloc (.cells #[.int .i64 0, .string ⟨#[]⟩, .int .i64 0] 45) = V at *
            generalize wc.heap.size = N at *
            have HN := Lib.hid (And.intro n0 (And.intro n1 (And.intro n2 (And.intro nf ns))))
            clear n0 n1 n2 nf ns
            have HNW : Hid (W.heap.size ≤ N) := by show _ ≤ _; omega
            go_cut [10, 11] (fun s10 s11 wx => MCut W X P N A D m v (nx + ny) s10 s11 wx)
            case first =>
              by_cases ay : 0 < ny
              · by_cases ax : 0 < nx
                · obtain ⟨b1, o1, rfl, hlt1, x0, x1, x2, x', hxs, hx1⟩ := HXF.out ax
                  obtain ⟨xm, x28, xn, xz⟩ := HX.out ax
                  obtain ⟨i, hi⟩ : ∃ i, at_ A (idx A m).length = i := ⟨_, rfl⟩
                  rw [hi] at x0 x1 x2 xm x28 xn xz
                  have x0 := bc HWN.out hlt1 x0
                  have x1 := bc HWN.out hlt1 x1
                  have x2 := bc HWN.out hlt1 x2
                  have hlv1 : b1 < V.heap.size := Nat.lt_of_lt_of_le hlt1 HWN.out.size
                  have hNb1 : N ≠ b1 := by have := HNW.out; omega
                  have hlenA := (lcu_next xm xz xn).1
                  obtain ⟨b2, o2, rfl, hlt2, y0, y1, y2, y', hys, hyr⟩ := HYF.out ay
                  obtain ⟨ym, y28, yn, yz⟩ := HY.out ay
                  obtain ⟨k, hk⟩ : ∃ k, at_ D (idx D m).length = k := ⟨_, rfl⟩
                  rw [hk] at y0 y1 y2 ym y28 yn yz
                  have y0 := bc HWN.out hlt2 y0
                  have y1 := bc HWN.out hlt2 y1
                  have y2 := bc HWN.out hlt2 y2
                  have hlv2 : b2 < V.heap.size := Nat.lt_of_lt_of_le hlt2 HWN.out.size
                  have hNb2 : N ≠ b2 := by have := HNW.out; omega
                  have hlenD := (lcu_next ym yz yn).1
                  have n0 := HN.out.1
                  have n1 := HN.out.2.1
                  have n2 := HN.out.2.2.1
                  have nf := HN.out.2.2.2.1
                  have ns := HN.out.2.2.2.2
                  have ax' : (0 : Int) < (nx : Int) := by omega
                  have ay' : (0 : Int) < (ny : Int) := by omega
                  have ax3 : ((nx : Int) == 0) = false := by rw [beq_eq_false_iff_ne]; omega
                  have ay3 : ((ny : Int) == 0) = false := by rw [beq_eq_false_iff_ne]; omega
                  have ax4 : (nx == 0) = false := by rw [beq_eq_false_iff_ne]; omega
                  have ay4 : (ny == 0) = false := by rw [beq_eq_false_iff_ne]; omega
                  by_cases c : i < k
                  · have HLS := Lib.hid (fun w => less_is i k (A i) (D k) true (decide_eq_true c) w)
                    have HLT := Lib.hid (fun w => less_is k i (D k) (A i) false (decide_eq_false (by omega)) w)
                    unfold lv at HLS HLT
                    have hD0 : D i = 0 := yz i (by omega) (by omega)
                    have hsame : idx D (i + 1) = idx D m := lcu_same xm (fun j h1 h2 => yz j h1 (by omega))
                    have hyy := hy.out
                    go_upto_region 18 with fail
                    go_still_tail 14, (by kernel_rfl)
                    change wpList _ _ _ _ _ V.drew
                    have hbd := Lib.hid ((Below.refl V.heap.size V).drew)
                    generalize V.drew = V2 at hbd ⊢
                    go_wp2_with fail
                    refine (HLS.out _).mono ?_
                    rintro e w3 ⟨rfl, hb3⟩
                    have hbz := bstep hbd.out hb3
                    have x0 := bc hbz hlv1 x0
                    have x1 := bc hbz hlv1 x1
                    have x2 := bc hbz hlv1 x2
                    have y0 := bc hbz hlv2 y0
                    have y1 := bc hbz hlv2 y1
                    have y2 := bc hbz hlv2 y2
                    have n0 := bc hbz ns n0
                    have n1 := bc hbz ns n1
                    have n2 := bc hbz ns n2
                    have nf := fun o => bf hbz ns (nf o)
                    have ns := Nat.lt_of_lt_of_le ns hbz.size
                    have hlv1 := Nat.lt_of_lt_of_le hlv1 hbz.size
                    have hlv2 := Nat.lt_of_lt_of_le hlv2 hbz.size
                    have hstN : Hid (MSt X P (fun i => A i + D i) m w3 v) := hstN.out.step hbz
                    clear hb3 hbz hbd
                    generalize hw3 : w3 = Q' at *
                    clear hw3
                    go_upto_region 19 with fail
                    go_region_held3 (fun w' => w'.cell? ⟨b1, o1, none⟩ = some (.int .i64 (prt i)) ∧ w'.cell? ⟨b1, o1 + 1, none⟩ = some (.string (cod i)) ∧ w'.cell? ⟨b1, o1 + 2, none⟩ = some (.int .i64 (A i)))
                      (first | exact ⟨x0, x1, x2⟩ | go_keep)
                      (fail)
                    go_wp2_with fail
                    go_meet
                    exact mcut_mk (i := i) (by omega) (by omega) (fun j h1 h2 => by rw [xz j h1 h2, yz j h1 (by omega)]; rfl) (by rw [hlenA]; exact hx1) (by rw [hsame]; exact hyy) hstN.out hPN hownN.out n0 n1 n2 ns (by rw [hD0, Int.add_zero]) (by simp only [lenOf]; omega)
                  · by_cases c2 : k < i
                    · have HLS := Lib.hid (fun w => less_is i k (A i) (D k) false (decide_eq_false (by omega)) w)
                      have HLT := Lib.hid (fun w => less_is k i (D k) (A i) true (decide_eq_true c2) w)
                      unfold lv at HLS HLT
                      have hA0 : A k = 0 := xz k (by omega) (by omega)
                      have hsame : idx A (k + 1) = idx A m := lcu_same ym (fun j h1 h2 => xz j h1 (by omega))
                      have hxx := hx.out
                      go_upto_region 18 with fail
                      go_still_tail 14, (by kernel_rfl)
                      change wpList _ _ _ _ _ V.drew
                      have hbd := Lib.hid ((Below.refl V.heap.size V).drew)
                      generalize V.drew = V2 at hbd ⊢
                      go_wp2_with fail
                      refine (HLS.out _).mono ?_
                      rintro e w3 ⟨rfl, hb3⟩
                      have hbz := bstep hbd.out hb3
                      have x0 := bc hbz hlv1 x0
                      have x1 := bc hbz hlv1 x1
                      have x2 := bc hbz hlv1 x2
                      have y0 := bc hbz hlv2 y0
                      have y1 := bc hbz hlv2 y1
                      have y2 := bc hbz hlv2 y2
                      have n0 := bc hbz ns n0
                      have n1 := bc hbz ns n1
                      have n2 := bc hbz ns n2
                      have nf := fun o => bf hbz ns (nf o)
                      have ns := Nat.lt_of_lt_of_le ns hbz.size
                      have hlv1 := Nat.lt_of_lt_of_le hlv1 hbz.size
                      have hlv2 := Nat.lt_of_lt_of_le hlv2 hbz.size
                      have hstN : Hid (MSt X P (fun i => A i + D i) m w3 v) := hstN.out.step hbz
                      clear hb3 hbz hbd
                      generalize hw3 : w3 = Q' at *
                      clear hw3
                      go_upto_region 20 with fail
                      go_still_tail 10, (by kernel_rfl)
                      change wpList _ _ _ _ _ Q'.drew
                      have hbd := Lib.hid ((Below.refl Q'.heap.size Q').drew)
                      generalize Q'.drew = V2 at hbd ⊢
                      go_wp2_with fail
                      refine (HLT.out _).mono ?_
                      rintro e w3 ⟨rfl, hb3⟩
                      have hbz := bstep hbd.out hb3
                      have x0 := bc hbz hlv1 x0
                      have x1 := bc hbz hlv1 x1
                      have x2 := bc hbz hlv1 x2
                      have y0 := bc hbz hlv2 y0
                      have y1 := bc hbz hlv2 y1
                      have y2 := bc hbz hlv2 y2
                      have n0 := bc hbz ns n0
                      have n1 := bc hbz ns n1
                      have n2 := bc hbz ns n2
                      have nf := fun o => bf hbz ns (nf o)
                      have ns := Nat.lt_of_lt_of_le ns hbz.size
                      have hlv1 := Nat.lt_of_lt_of_le hlv1 hbz.size
                      have hlv2 := Nat.lt_of_lt_of_le hlv2 hbz.size
                      have hstN : Hid (MSt X P (fun i => A i + D i) m w3 v) := hstN.out.step hbz
                      clear hb3 hbz hbd
                      generalize hw3 : w3 = R' at *
                      clear hw3
                      go_upto_region 21 with fail
                      go_region_held3 (fun w' => w'.cell? ⟨b2, o2, none⟩ = some (.int .i64 (prt k)) ∧ w'.cell? ⟨b2, o2 + 1, none⟩ = some (.string (cod k)) ∧ w'.cell? ⟨b2, o2 + 2, none⟩ = some (.int .i64 (D k)))
                        (first | exact ⟨y0, y1, y2⟩ | go_keep)
                        (fail)
                      go_wp2_with fail
                      go_meet
                      exact mcut_mk (i := k) (by omega) (by omega) (fun j h1 h2 => by rw [yz j h1 h2, xz j h1 (by omega)]; rfl) (by rw [hsame]; exact hxx) (by rw [hlenD]; exact hyr) hstN.out hPN hownN.out n0 n1 n2 ns (by rw [hA0, Int.zero_add]) (by simp only [lenOf]; omega)
                    · have HLS := Lib.hid (fun w => less_is i k (A i) (D k) false (decide_eq_false (by omega)) w)
                      have HLT := Lib.hid (fun w => less_is k i (D k) (A i) false (decide_eq_false (by omega)) w)
                      unfold lv at HLS HLT
                      obtain rfl : k = i := by omega
                      have hsa := HSA.out k x28
                      have hsd := HSD.out k x28
                      have hsu := HSU.out k x28
                      simp only [BB] at hsa hsd hsu
                      have HAD := Lib.hid (fun w => ladd_is k (A k) (D k) (by unfold fit; omega) (by unfold fit; omega) (by unfold fit; omega) w)
                      unfold lv at HAD
                      clear hsa hsd hsu
                      go_upto_region 18 with fail
                      go_still_tail 14, (by kernel_rfl)
                      change wpList _ _ _ _ _ V.drew
                      have hbd := Lib.hid ((Below.refl V.heap.size V).drew)
                      generalize V.drew = V2 at hbd ⊢
                      go_wp2_with fail
                      refine (HLS.out _).mono ?_
                      rintro e w3 ⟨rfl, hb3⟩
                      have hbz := bstep hbd.out hb3
                      have x0 := bc hbz hlv1 x0
                      have x1 := bc hbz hlv1 x1
                      have x2 := bc hbz hlv1 x2
                      have y0 := bc hbz hlv2 y0
                      have y1 := bc hbz hlv2 y1
                      have y2 := bc hbz hlv2 y2
                      have n0 := bc hbz ns n0
                      have n1 := bc hbz ns n1
                      have n2 := bc hbz ns n2
                      have nf := fun o => bf hbz ns (nf o)
                      have ns := Nat.lt_of_lt_of_le ns hbz.size
                      have hlv1 := Nat.lt_of_lt_of_le hlv1 hbz.size
                      have hlv2 := Nat.lt_of_lt_of_le hlv2 hbz.size
                      have hstN : Hid (MSt X P (fun i => A i + D i) m w3 v) := hstN.out.step hbz
                      clear hb3 hbz hbd
                      generalize hw3 : w3 = Q' at *
                      clear hw3
                      go_upto_region 20 with fail
                      go_still_tail 10, (by kernel_rfl)
                      change wpList _ _ _ _ _ Q'.drew
                      have hbd := Lib.hid ((Below.refl Q'.heap.size Q').drew)
                      generalize Q'.drew = V2 at hbd ⊢
                      go_wp2_with fail
                      refine (HLT.out _).mono ?_
                      rintro e w3 ⟨rfl, hb3⟩
                      have hbz := bstep hbd.out hb3
                      have x0 := bc hbz hlv1 x0
                      have x1 := bc hbz hlv1 x1
                      have x2 := bc hbz hlv1 x2
                      have y0 := bc hbz hlv2 y0
                      have y1 := bc hbz hlv2 y1
                      have y2 := bc hbz hlv2 y2
                      have n0 := bc hbz ns n0
                      have n1 := bc hbz ns n1
                      have n2 := bc hbz ns n2
                      have nf := fun o => bf hbz ns (nf o)
                      have ns := Nat.lt_of_lt_of_le ns hbz.size
                      have hlv1 := Nat.lt_of_lt_of_le hlv1 hbz.size
                      have hlv2 := Nat.lt_of_lt_of_le hlv2 hbz.size
                      have hstN : Hid (MSt X P (fun i => A i + D i) m w3 v) := hstN.out.step hbz
                      clear hb3 hbz hbd
                      generalize hw3 : w3 = R' at *
                      clear hw3
                      have hl1' : b1 < R'.heap.size + 1 := by omega
                      have hl2' : b2 < R'.heap.size + 1 := by omega
                      go_upto_region 14 with fail
                      go_cut [13, 14] (fun s13 s14 wx => ∃ M, s13 = .pointer (some ⟨M, 0, none⟩) ∧ s14 = .bool true ∧ Hid (Below R'.heap.size R' wx) ∧ wx.cell? ⟨M, 0, none⟩ = some (.int .i64 (prt k)) ∧ wx.cell? ⟨M, 1, none⟩ = some (.string (cod k)) ∧ wx.cell? ⟨M, 2, none⟩ = some (.int .i64 (A k + D k)) ∧ R'.heap.size ≤ M)
                      case first =>
                        go_region_held3 (fun w' => Below R'.heap.size R' w' ∧ w'.cell? ⟨b1, o1, none⟩ = some (.int .i64 (prt k)) ∧ w'.cell? ⟨b1, o1 + 1, none⟩ = some (.string (cod k)) ∧ w'.cell? ⟨b1, o1 + 2, none⟩ = some (.int .i64 (A k)) ∧ w'.cell? ⟨b2, o2, none⟩ = some (.int .i64 (prt k)) ∧ w'.cell? ⟨b2, o2 + 1, none⟩ = some (.string (cod k)) ∧ w'.cell? ⟨b2, o2 + 2, none⟩ = some (.int .i64 (D k)))
                          (first | exact keepM ((Below.refl _ _).drew) hlv1 hlv2 x0 x1 x2 y0 y1 y2 | exact keepM (hbR3) hlv1 hlv2 x0 x1 x2 y0 y1 y2 | exact keepM (balloc hbR3 _) hlv1 hlv2 x0 x1 x2 y0 y1 y2 | exact keepM (bset3 hbR3 (by first | exact Nat.le_refl _ | omega)) hlv1 hlv2 x0 x1 x2 y0 y1 y2 | exact keepM (balloc (And.left (by assumption)) _) hlv1 hlv2 x0 x1 x2 y0 y1 y2 | exact keepM ((balloc (And.left (by assumption)) _).drew) hlv1 hlv2 x0 x1 x2 y0 y1 y2 | exact keepM ((balloc hbR3 _).drew) hlv1 hlv2 x0 x1 x2 y0 y1 y2 | exact keepM ((bset3 hbR3 (by first | exact Nat.le_refl _ | omega)).drew) hlv1 hlv2 x0 x1 x2 y0 y1 y2)
                          ((go_at_call 32; refine (HAD.out _).mono ?_; rintro e w3 ⟨rfl, hb3⟩; have hbR3 : Below R'.heap.size R' w3 := bstep (And.left (by assumption)) hb3; obtain ⟨hc3, hf3⟩ := bcell hb3))
                        all_goals
                          go_wp2_with fail
                          go_meet
                          first
                          | exact ⟨_, rfl, rfl, balloc hbR3 _, by simp, by simp, by simp, hbR3.size⟩
                          | exact ⟨_, rfl, rfl, bset3 hbR3 (Nat.le_refl _), (set3 w3 _ _ _ _ (bc hb3 (by simp) (by simp; rfl)) (bc hb3 (by simp) (by simp; rfl)) (bc hb3 (by simp) (by simp; rfl))).1, (set3 w3 _ _ _ _ (bc hb3 (by simp) (by simp; rfl)) (bc hb3 (by simp) (by simp; rfl)) (bc hb3 (by simp) (by simp; rfl))).2.1, (set3 w3 _ _ _ _ (bc hb3 (by simp) (by simp; rfl)) (bc hb3 (by simp) (by simp; rfl)) (bc hb3 (by simp) (by simp; rfl))).2.2, Nat.le_refl _⟩
                      case rest =>
                        obtain ⟨M, rfl, rfl, hbM, m0, m1, m2, hRM⟩ := hcut
                        have n0 := bc hbM.out ns n0
                        have n1 := bc hbM.out ns n1
                        have n2 := bc hbM.out ns n2
                        have nf := fun o => bf hbM.out ns (nf o)
                        have hNM : N ≠ M := by omega
                        have ns := Nat.lt_of_lt_of_le ns hbM.out.size
                        have hstN : Hid (MSt X P (fun i => A i + D i) m wc v) := hstN.out.step hbM.out
                        clear hbM hRM x0 x1 x2 y0 y1 y2 hlv1 hlv2 hl1' hl2'
                        go_upto_region 17 with fail
                        go_region_held3 (fun w' => w'.cell? ⟨M, 0, none⟩ = some (.int .i64 (prt k)) ∧ w'.cell? ⟨M, 1, none⟩ = some (.string (cod k)) ∧ w'.cell? ⟨M, 2, none⟩ = some (.int .i64 (A k + D k)))
                          (first | exact ⟨m0, m1, m2⟩ | go_keep)
                          (fail)
                        go_wp2_with fail
                        go_meet
                        exact mcut_mk (i := k) (by omega) (by omega) (fun j h1 h2 => by rw [xz j h1 h2, yz j h1 h2]; rfl) (by rw [hlenA]; exact hx1) (by rw [hlenD]; exact hyr) hstN.out hPN hownN.out n0 n1 n2 ns rfl (by simp only [lenOf]; omega)
                · have ay : 0 < ny := by omega
                  have ax0 : nx = 0 := by omega
                  subst ax0
                  obtain ⟨b2, o2, rfl, hlt2, y0, y1, y2, y', hys, hyr⟩ := HYF.out ay
                  obtain ⟨ym, y28, yn, yz⟩ := HY.out ay
                  obtain ⟨k, hk⟩ : ∃ k, at_ D (idx D m).length = k := ⟨_, rfl⟩
                  rw [hk] at y0 y1 y2 ym y28 yn yz
                  have y0 := bc HWN.out hlt2 y0
                  have y1 := bc HWN.out hlt2 y1
                  have y2 := bc HWN.out hlt2 y2
                  have hlv2 : b2 < V.heap.size := Nat.lt_of_lt_of_le hlt2 HWN.out.size
                  have hNb2 : N ≠ b2 := by have := HNW.out; omega
                  have hlenD := (lcu_next ym yz yn).1
                  have n0 := HN.out.1
                  have n1 := HN.out.2.1
                  have n2 := HN.out.2.2.1
                  have nf := HN.out.2.2.2.1
                  have ns := HN.out.2.2.2.2
                  have az := HX0.out (by omega)
                  have ay' : (0 : Int) < (ny : Int) := by omega
                  have ay'' : (ny == 0) = false := by rw [beq_eq_false_iff_ne]; omega
                  have ay3 : ((ny : Int) == 0) = false := by rw [beq_eq_false_iff_ne]; omega
                  have hA0 : A k = 0 := az k (by omega) (by omega)
                  have hsame : idx A (k + 1) = idx A m := lcu_same ym (fun j h1 h2 => az j h1 (by omega))
                  go_wp2_with fail
                  go_quiet (fail)
                  have y0 : (V.drewN nq).cell? ⟨b2, o2, none⟩ = some (.int .i64 (prt k)) := y0
                  have y1 : (V.drewN nq).cell? ⟨b2, o2 + 1, none⟩ = some (.string (cod k)) := y1
                  have y2 : (V.drewN nq).cell? ⟨b2, o2 + 2, none⟩ = some (.int .i64 (D k)) := y2
                  have n0 : (V.drewN nq).cell? ⟨N, 0, none⟩ = some (.int .i64 0) := n0
                  have n1 : (V.drewN nq).cell? ⟨N, 1, none⟩ = some (.string ⟨#[]⟩) := n1
                  have n2 : (V.drewN nq).cell? ⟨N, 2, none⟩ = some (.int .i64 0) := n2
                  have nf : ∀ o, (V.drewN nq).frozen? ⟨N, o, none⟩ = false := nf
                  have ns : N < (V.drewN nq).heap.size := ns
                  have hstN : Hid (MSt X P (fun i => A i + D i) m (V.drewN nq) v) := hstN.out.step (below_drewN (Below.refl _ _) nq)
                  have hlv2 : b2 < (V.drewN nq).heap.size := hlv2
                  have HNW : Hid (W.heap.size ≤ N) := HNW
                  clear HWN HN
                  generalize V.drewN nq = V' at *
                  go_wp2_with fail
                  go_quiet (fail)
                  have y0 : (V'.drewN nq).cell? ⟨b2, o2, none⟩ = some (.int .i64 (prt k)) := y0
                  have y1 : (V'.drewN nq).cell? ⟨b2, o2 + 1, none⟩ = some (.string (cod k)) := y1
                  have y2 : (V'.drewN nq).cell? ⟨b2, o2 + 2, none⟩ = some (.int .i64 (D k)) := y2
                  have n0 : (V'.drewN nq).cell? ⟨N, 0, none⟩ = some (.int .i64 0) := n0
                  have n1 : (V'.drewN nq).cell? ⟨N, 1, none⟩ = some (.string ⟨#[]⟩) := n1
                  have n2 : (V'.drewN nq).cell? ⟨N, 2, none⟩ = some (.int .i64 0) := n2
                  have nf : ∀ o, (V'.drewN nq).frozen? ⟨N, o, none⟩ = false := nf
                  have ns : N < (V'.drewN nq).heap.size := ns
                  have hstN : Hid (MSt X P (fun i => A i + D i) m (V'.drewN nq) v) := hstN.out.step (below_drewN (Below.refl _ _) nq)
                  have hlv2 : b2 < (V'.drewN nq).heap.size := hlv2
                  have HNW : Hid (W.heap.size ≤ N) := HNW
                  generalize V'.drewN nq = Q at *
                  go_upto_region 21 with fail
                  go_region_held3 (fun w' => w'.cell? ⟨b2, o2, none⟩ = some (.int .i64 (prt k)) ∧ w'.cell? ⟨b2, o2 + 1, none⟩ = some (.string (cod k)) ∧ w'.cell? ⟨b2, o2 + 2, none⟩ = some (.int .i64 (D k)))
                    (first | exact ⟨y0, y1, y2⟩ | go_keep)
                    (fail)
                  go_wp2_with fail
                  go_meet
                  exact mcut_mk (i := k) (by omega) (by omega) (fun j h1 h2 => by rw [yz j h1 h2, az j h1 (by omega)]; rfl) (by rw [hsame]; exact hx.out) (by rw [hlenD]; exact hyr) hstN.out hPN hownN.out n0 n1 n2 ns (by rw [hA0, Int.zero_add]) (by simp only [lenOf]; omega)
              · have ax : 0 < nx := by omega
                have ay0 : ny = 0 := by omega
                subst ay0
                obtain ⟨b1, o1, rfl, hlt1, x0, x1, x2, x', hxs, hx1⟩ := HXF.out ax
                obtain ⟨xm, x28, xn, xz⟩ := HX.out ax
                obtain ⟨i, hi⟩ : ∃ i, at_ A (idx A m).length = i := ⟨_, rfl⟩
                rw [hi] at x0 x1 x2 xm x28 xn xz
                have x0 := bc HWN.out hlt1 x0
                have x1 := bc HWN.out hlt1 x1
                have x2 := bc HWN.out hlt1 x2
                have hlv1 : b1 < V.heap.size := Nat.lt_of_lt_of_le hlt1 HWN.out.size
                have hNb1 : N ≠ b1 := by have := HNW.out; omega
                have hlenA := (lcu_next xm xz xn).1
                have n0 := HN.out.1
                have n1 := HN.out.2.1
                have n2 := HN.out.2.2.1
                have nf := HN.out.2.2.2.1
                have ns := HN.out.2.2.2.2
                have dz := HY0.out (by omega)
                have ax' : (0 : Int) < (nx : Int) := by omega
                have hD0 : D i = 0 := dz i (by omega) (by omega)
                have hsame : idx D (i + 1) = idx D m := lcu_same xm (fun j h1 h2 => dz j h1 (by omega))
                go_wp2_with fail
                go_quiet (fail)
                have x0 : (V.drewN nq).cell? ⟨b1, o1, none⟩ = some (.int .i64 (prt i)) := x0
                have x1 : (V.drewN nq).cell? ⟨b1, o1 + 1, none⟩ = some (.string (cod i)) := x1
                have x2 : (V.drewN nq).cell? ⟨b1, o1 + 2, none⟩ = some (.int .i64 (A i)) := x2
                have n0 : (V.drewN nq).cell? ⟨N, 0, none⟩ = some (.int .i64 0) := n0
                have n1 : (V.drewN nq).cell? ⟨N, 1, none⟩ = some (.string ⟨#[]⟩) := n1
                have n2 : (V.drewN nq).cell? ⟨N, 2, none⟩ = some (.int .i64 0) := n2
                have nf : ∀ o, (V.drewN nq).frozen? ⟨N, o, none⟩ = false := nf
                have ns : N < (V.drewN nq).heap.size := ns
                have hstN : Hid (MSt X P (fun i => A i + D i) m (V.drewN nq) v) := hstN.out.step (below_drewN (Below.refl _ _) nq)
                have hlv1 : b1 < (V.drewN nq).heap.size := hlv1
                have HNW : Hid (W.heap.size ≤ N) := HNW
                clear HWN HN
                generalize V.drewN nq = Q at *
                go_upto_region 19 with fail
                go_region_held3 (fun w' => w'.cell? ⟨b1, o1, none⟩ = some (.int .i64 (prt i)) ∧ w'.cell? ⟨b1, o1 + 1, none⟩ = some (.string (cod i)) ∧ w'.cell? ⟨b1, o1 + 2, none⟩ = some (.int .i64 (A i)))
                  (first | exact ⟨x0, x1, x2⟩ | go_keep)
                  (fail)
                go_wp2_with fail
                go_meet
                exact mcut_mk (i := i) (by omega) (by omega) (fun j h1 h2 => by rw [xz j h1 h2, dz j h1 (by omega)]; rfl) (by rw [hlenA]; exact hx1) (by rw [hsame]; exact hy.out) hstN.out hPN hownN.out n0 n1 n2 ns (by rw [hD0, Int.add_zero]) (by simp only [lenOf]; omega)
            case rest =>
              obtain ⟨i, hmi, hi28, hz, hx', hy', hst', hN', hNs, hlen⟩ := hcut
              obtain ⟨m0, m1, m2⟩ := hN'
              have HX' := Lib.hid hx'
              have HY' := Lib.hid hy'
              have HST' := Lib.hid hst'
              have HZ' := Lib.hid hz
              have HLEN : Hid (lenOf u10 + lenOf u11 < lenOf (.slice xa nx cx) + lenOf (.slice ya ny cy)) := hlen
              clear hx' hy' hst' hz hlen HXF HYF HX HY HX0 HY0 HN hstN HWN
              by_cases c0 : A i + D i = 0
              · rw [c0] at m2
                have hnx := Lib.hid (HST'.out.skip hmi (fun j h1 h2 => by
                  by_cases e : j = i
                  · subst e; exact c0
                  · exact HZ'.out j h1 (by omega)))
                clear c0
                go_wp2_with fail
                go_roundw
                case rel => exact ⟨i + 1, v, by omega, HX'.out, HY'.out, hnx.out⟩
                case measure => exact HLEN.out
              · have z0 : (A i + D i != 0) = true := by rw [bne_iff_ne]; exact c0
                have hc2 := HST'.out.c2
                have hfz := HST'.out.fz 2
                have hPw := HST'.out.hi
                obtain ⟨ie, hie, hi0, hi1, hi2⟩ := info_parts infoLine
                have hownA := HST'.out.own.alloc (.cells #[.int .i64 (prt i), .string (cod i), .int .i64 (A i + D i)] 45)
                have hnews : ∀ j u, [Value.int .i64 (prt i), .string (cod i), .int .i64 (A i + D i)][j]? = some u → (wc.alloc (.cells #[.int .i64 (prt i), .string (cod i), .int .i64 (A i + D i)] 45)).cell? ((⟨wc.heap.size, 0, none⟩ : Addr).add j) = some u :=
                  World.news_of_block (block_alloc_last wc (.cells #[.int .i64 (prt i), .string (cod i), .int .i64 (A i + D i)] 45 (0, 0)))
                have hil := idx_len (fun i => A i + D i) m
                have HC0 := Lib.hid c0
                have hP1 : P + 1 ≤ wc.heap.size := hPw
                clear c0
                go_wp2_with (at_builtin; refine wpList_append_lies _ rfl _ _ 27 rfl (P + 1) 45 ie (.agg #[.int .i64 0, .string ByteArray.empty, .int .i64 0]) 3 32 Try.underlying27 hie hi0 hi1 hi2 rfl (by decide) _ _ _ rfl hownA ⟨wc.heap.size, 0, none⟩ 1 1 [.int .i64 (prt i), .string (cod i), .int .i64 (A i + D i)] rfl rfl hnews (by intro u hu; simp at hu; rcases hu with rfl | rfl | rfl <;> rfl) (by decide) (by unfold maxLen; omega) (by omega) (by simp; omega) _ rfl ?_)
                intro g6 cp6 w6 hown2 hgr hat hglt
                have hgr2 := grown_alloc hgr (fun j hj => (HST'.out.own.lt j hj).2)
                obtain ⟨_, hP6, _, _, c26, f26⟩ := HST'.out.grown hgr2
                have f262 := f26 2
                have hnx := Lib.hid (HST'.out.app hgr2 hown2 hmi HZ'.out HC0.out)
                clear hown2 hgr hgr2 hownA hnews f26 hat
                go_wp2_with fail
                refine ⟨?_, ?measure⟩
                (repeat apply Exists.intro)
                refine ⟨?rel, rfl⟩
                case rel => exact ⟨i + 1, _, by omega, HX'.out, HY'.out, hnx.out⟩
                case measure => exact HLEN.out
end Go.Proofs.Ytnakcmliopcabaa.W
