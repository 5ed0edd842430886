/- WeekFrees: the walk behind the checks. -/
import Derived.Test.YtjpjeimpmfoldaaDoorWkN
import Derived.Deep.RegionHeld2
namespace Go.Proofs.YtjpjeimpmfoldaaDoor.W
open Go.RowKit Go.Proofs.YtjpjeimpmfoldaaDoor.M Go.Proofs.YtjpjeimpmfoldaaDoor.WL
set_option linter.unusedVariables false

theorem own_blk {w : World} {base g : Nat} {e : TypeId} {k : IntKind} (hb : w.heap[g]? = some (.cells #[] e (0, 0))) (hg : base ≤ g) : w.ownsRow base e 1 (.slice (some ⟨g, 0, none⟩) 0 0) 0 (([] : List Int).map (Value.int k)) :=
  ⟨rfl, .inr ⟨g, 0, #[], rfl, hg, hb, Nat.le_refl _, Nat.zero_le _, rfl, rfl⟩⟩
theorem blk_lt {w : World} {g : Nat} {o : Obj} (hb : w.heap[g]? = some o) : g < w.heap.size := by
  rcases Nat.lt_or_ge g w.heap.size with h | h
  · exact h
  · rw [Array.getElem?_eq_none h] at hb; cases hb
theorem ints_blk {w : World} {g : Nat} {d : Int} {e : TypeId} (hb : w.heap[g]? = some (.cells #[.int .i64 d] e (0, 0))) : Ints .i64 w (some ⟨g, 0, none⟩) 1 1 [d] :=
  ints_one (blk_lt hb) ((cell_of_row w g 0 _ e (0, 0) hb).trans rfl)
theorem blk_old {w : World} {g : Nat} {o u : Obj} (hb : w.heap[g]? = some u) : (w.alloc o).heap[g]? = some u := by
  have h := blk_lt hb
  show (w.heap.push o)[g]? = some u
  rw [Array.getElem?_push, if_neg (by omega)]
  exact hb
theorem blk_drew {w : World} {g : Nat} {u : Obj} (hb : w.heap[g]? = some u) : w.drew.heap[g]? = some u := hb
theorem blk_top {w : World} {g : Nat} {u : Obj} (h : g = w.heap.size) : (w.alloc u).heap[g]? = some u := block_alloc_last' w u h
theorem blk_grown {w w' : World} {row : Option Nat} {g : Nat} {u : Obj} (hg : w.grownBy w' row) (hb : w.heap[g]? = some u) (hne : some g ≠ row) : w'.heap[g]? = some u := (hg.block g (blk_lt hb) hne).trans hb
theorem blk_far {w : World} {g : Nat} {p : Addr} {v : Value} {u : Obj} (hb : w.heap[g]? = some u) (h : g ≠ p.block) : (w.setCell p v).heap[g]? = some u := (Below.heap_setCell w p v g h).trans hb

theorem own_ne {w : World} {base g : Nat} {e e' : TypeId} {v : Value} {n : Nat} {xs : List Value} {cs : Array Value} {fr : Nat × Nat} (h : w.ownsRow base e 1 v n xs) (hb : w.heap[g]? = some (.cells cs e' fr)) (he : e' ≠ e) : some g ≠ v.ownBlock := fun hh => by
  rcases h.2 with ⟨hv, _⟩ | ⟨g', cap, cur, hv, _, hh2, _⟩
  · subst hv; cases hh
  · subst hv
    have e1 : g = g' := by simpa [Value.ownBlock] using hh
    subst e1
    rw [hb] at hh2
    injection hh2 with h3
    injection h3 with _ h4
    exact he h4
theorem grow_ne {w w' : World} {base g : Nat} {e e' : TypeId} {v : Value} {n : Nat} {xs : List Value} {cs : Array Value} {fr : Nat × Nat} (h : w.ownsRow base e 1 v n xs) (hb : w.heap[g]? = some (.cells cs e' fr)) (he : e' ≠ e) (hg : w.grownBy w' v.ownBlock) : w'.heap[g]? = some (.cells cs e' fr) := blk_grown hg hb (own_ne h hb he)
theorem balloc_drew {a b : World} (h : Below a.heap.size a b.drew) (o : Obj) : Below a.heap.size a (b.alloc o).drew := balloc h o
theorem ints_far {k : IntKind} {w : World} {a : Option Addr} {n cap g o : Nat} {ys : List Int} {v : Value} (h : Ints k w a n cap ys) (hne : ∀ b off, a = some ⟨b, off, none⟩ → g ≠ b) : Ints k (w.setCell ⟨g, o, none⟩ v) a n cap ys :=
  ⟨h.1, h.2.1, h.2.2.1, fun hn => by
    obtain ⟨b, off, ha, hlt, hc⟩ := h.2.2.2 hn
    exact ⟨b, off, ha, by simpa using hlt, fun j hj => (World.cell?_setCell_other _ _ _ _ (fun hh => hne b off ha (by injection hh with h1))).trans (hc j hj)⟩⟩
theorem fin_new {V w : World} {a : Option Addr} {n cap : Nat} {ys : List Int} {v0 v1 v2 v3 v4 v5 v6 v7 : Value} {P : TypeId} (hI : Ints .i64 w a n cap ys) (hB : Below V.heap.size V w) :
    V.heap.size ≤ w.heap.size ∧ w.heap.size < (w.alloc (.cells #[v0, v1, v2, v3, v4, v5, v6, v7] P)).heap.size ∧ (∀ i, i < 8 → (w.alloc (.cells #[v0, v1, v2, v3, v4, v5, v6, v7] P)).cell? ⟨w.heap.size, i, none⟩ = (#[v0, v1, v2, v3, v4, v5, v6, v7] : Array Value)[i]?) ∧ Ints .i64 (w.alloc (.cells #[v0, v1, v2, v3, v4, v5, v6, v7] P)) a n cap ys ∧ Below V.heap.size V (w.alloc (.cells #[v0, v1, v2, v3, v4, v5, v6, v7] P)) :=
  ⟨hB.size, by simp, fun i _ => World.cell?_alloc_at _ _ _ _ rfl, hI.alloc _, balloc hB _⟩
theorem fin_set {V w : World} {g : Nat} {a : Option Addr} {n cap : Nat} {ys : List Int} {v0 v1 v2 v3 v4 v5 v6 v7 z0 z1 z2 z3 z4 z5 z6 z7 : Value} {P D : TypeId} (y : w.heap[g]? = some (.cells #[z0, z1, z2, z3, z4, z5, z6, z7] P (0, 0))) (hne : P ≠ D) (ho : w.ownsRow V.heap.size D 1 (.slice a n cap) n (ys.map (Value.int .i64))) (hI : Ints .i64 w a n cap ys) (hg : V.heap.size ≤ g) (hB : Below V.heap.size V w) :
    V.heap.size ≤ g ∧ g < ((((((((w.setCell ⟨g, 0, none⟩ v0).setCell ⟨g, 1, none⟩ v1).setCell ⟨g, 2, none⟩ v2).setCell ⟨g, 3, none⟩ v3).setCell ⟨g, 4, none⟩ v4).setCell ⟨g, 5, none⟩ v5).setCell ⟨g, 6, none⟩ v6).setCell ⟨g, 7, none⟩ v7).heap.size ∧ (∀ i, i < 8 → ((((((((w.setCell ⟨g, 0, none⟩ v0).setCell ⟨g, 1, none⟩ v1).setCell ⟨g, 2, none⟩ v2).setCell ⟨g, 3, none⟩ v3).setCell ⟨g, 4, none⟩ v4).setCell ⟨g, 5, none⟩ v5).setCell ⟨g, 6, none⟩ v6).setCell ⟨g, 7, none⟩ v7).cell? ⟨g, i, none⟩ = (#[v0, v1, v2, v3, v4, v5, v6, v7] : Array Value)[i]?) ∧ Ints .i64 ((((((((w.setCell ⟨g, 0, none⟩ v0).setCell ⟨g, 1, none⟩ v1).setCell ⟨g, 2, none⟩ v2).setCell ⟨g, 3, none⟩ v3).setCell ⟨g, 4, none⟩ v4).setCell ⟨g, 5, none⟩ v5).setCell ⟨g, 6, none⟩ v6).setCell ⟨g, 7, none⟩ v7) a n cap ys ∧ Below V.heap.size V ((((((((w.setCell ⟨g, 0, none⟩ v0).setCell ⟨g, 1, none⟩ v1).setCell ⟨g, 2, none⟩ v2).setCell ⟨g, 3, none⟩ v3).setCell ⟨g, 4, none⟩ v4).setCell ⟨g, 5, none⟩ v5).setCell ⟨g, 6, none⟩ v6).setCell ⟨g, 7, none⟩ v7) := by
  have hx : ∀ b off, a = some ⟨b, off, none⟩ → g ≠ b := fun b off ha hh => own_ne ho y hne (by subst ha; rw [hh]; rfl)
  have c : ∀ i, w.cell? ⟨g, i, none⟩ = (#[z0, z1, z2, z3, z4, z5, z6, z7] : Array Value)[i]? := fun i => cell_of_row _ _ _ _ _ _ y
  have c0 : w.cell? ⟨g, 0, none⟩ = some z0 := c 0
  have c1 : w.cell? ⟨g, 1, none⟩ = some z1 := c 1
  have c2 : w.cell? ⟨g, 2, none⟩ = some z2 := c 2
  have c3 : w.cell? ⟨g, 3, none⟩ = some z3 := c 3
  have c4 : w.cell? ⟨g, 4, none⟩ = some z4 := c 4
  have c5 : w.cell? ⟨g, 5, none⟩ = some z5 := c 5
  have c6 : w.cell? ⟨g, 6, none⟩ = some z6 := c 6
  have c7 : w.cell? ⟨g, 7, none⟩ = some z7 := c 7
  refine ⟨hg, by simpa using blk_lt y, fun i hi => ?_, ?_, ?_⟩
  · have other : ∀ (W : World) (p q : Nat) (v : Value) (u : Option Value), p ≠ q → W.cell? ⟨g, q, none⟩ = u → (W.setCell ⟨g, p, none⟩ v).cell? ⟨g, q, none⟩ = u := fun W p q v u h hh => (World.cell?_setCell_other _ _ _ _ (fun e => h (by injection e))).trans hh
    rcases (by omega : i = 0 ∨ i = 1 ∨ i = 2 ∨ i = 3 ∨ i = 4 ∨ i = 5 ∨ i = 6 ∨ i = 7) with rfl | rfl | rfl | rfl | rfl | rfl | rfl | rfl
    · exact (other _ _ _ _ _ (by omega) (other _ _ _ _ _ (by omega) (other _ _ _ _ _ (by omega) (other _ _ _ _ _ (by omega) (other _ _ _ _ _ (by omega) (other _ _ _ _ _ (by omega) (other _ _ _ _ _ (by omega) (World.cell?_setCell_same _ _ _ (u := z0) c0))))))))
    · exact (other _ _ _ _ _ (by omega) (other _ _ _ _ _ (by omega) (other _ _ _ _ _ (by omega) (other _ _ _ _ _ (by omega) (other _ _ _ _ _ (by omega) (other _ _ _ _ _ (by omega) (World.cell?_setCell_same _ _ _ (u := z1) (other _ _ _ _ _ (by omega) c1))))))))
    · exact (other _ _ _ _ _ (by omega) (other _ _ _ _ _ (by omega) (other _ _ _ _ _ (by omega) (other _ _ _ _ _ (by omega) (other _ _ _ _ _ (by omega) (World.cell?_setCell_same _ _ _ (u := z2) (other _ _ _ _ _ (by omega) (other _ _ _ _ _ (by omega) c2))))))))
    · exact (other _ _ _ _ _ (by omega) (other _ _ _ _ _ (by omega) (other _ _ _ _ _ (by omega) (other _ _ _ _ _ (by omega) (World.cell?_setCell_same _ _ _ (u := z3) (other _ _ _ _ _ (by omega) (other _ _ _ _ _ (by omega) (other _ _ _ _ _ (by omega) c3))))))))
    · exact (other _ _ _ _ _ (by omega) (other _ _ _ _ _ (by omega) (other _ _ _ _ _ (by omega) (World.cell?_setCell_same _ _ _ (u := z4) (other _ _ _ _ _ (by omega) (other _ _ _ _ _ (by omega) (other _ _ _ _ _ (by omega) (other _ _ _ _ _ (by omega) c4))))))))
    · exact (other _ _ _ _ _ (by omega) (other _ _ _ _ _ (by omega) (World.cell?_setCell_same _ _ _ (u := z5) (other _ _ _ _ _ (by omega) (other _ _ _ _ _ (by omega) (other _ _ _ _ _ (by omega) (other _ _ _ _ _ (by omega) (other _ _ _ _ _ (by omega) c5))))))))
    · exact (other _ _ _ _ _ (by omega) (World.cell?_setCell_same _ _ _ (u := z6) (other _ _ _ _ _ (by omega) (other _ _ _ _ _ (by omega) (other _ _ _ _ _ (by omega) (other _ _ _ _ _ (by omega) (other _ _ _ _ _ (by omega) (other _ _ _ _ _ (by omega) c6))))))))
    · exact (World.cell?_setCell_same _ _ _ (u := z7) (other _ _ _ _ _ (by omega) (other _ _ _ _ _ (by omega) (other _ _ _ _ _ (by omega) (other _ _ _ _ _ (by omega) (other _ _ _ _ _ (by omega) (other _ _ _ _ _ (by omega) (other _ _ _ _ _ (by omega) c7))))))))
  · exact ints_far (ints_far (ints_far (ints_far (ints_far (ints_far (ints_far (ints_far hI hx) hx) hx) hx) hx) hx) hx) hx
  · exact bset (bset (bset (bset (bset (bset (bset (bset hB hg _) hg _) hg _) hg _) hg _) hg _) hg _) hg _
theorem lay {p q : Prop} (hp : p) (h : p → q) : q := h hp
theorem blk_t00 {w : World} {u : Obj} : (w.alloc u).heap[w.heap.size]? = some u := blk_top rfl
theorem blk_t10 {w : World} {u o : Obj} : ((w.alloc u).alloc o).heap[w.heap.size]? = some u := blk_old blk_t00
theorem blk_t11 {w : World} {u o : Obj} : ((w.alloc o).alloc u).heap[w.heap.size + 1]? = some u := blk_top (by simp)
theorem blk_t20 {w : World} {u o o' : Obj} : (((w.alloc u).alloc o).alloc o').heap[w.heap.size]? = some u := blk_old blk_t10
theorem blk_t21 {w : World} {u o o' : Obj} : (((w.alloc o').alloc u).alloc o).heap[w.heap.size + 1]? = some u := blk_old blk_t11
theorem blk_t22 {w : World} {u o o' : Obj} : (((w.alloc o').alloc o).alloc u).heap[w.heap.size + 2]? = some u := blk_top (by simp)
theorem lay_blk {K : Act → World → Prop} {a : Act} {w : World} {u : Obj} (s : Operand) {g : Nat} (h : a.eval s = .pointer (some ⟨g, 0, none⟩)) (hp : w.heap[g]? = some u) (k : w.heap[g]? = some u → K a w) : K a w := k hp
theorem lay_sl {K : Act → World → Prop} {a : Act} {w : World} {u : Obj} (s : Operand) {g m c : Nat} (h : a.eval s = .slice (some ⟨g, 0, none⟩) m c) (hp : w.heap[g]? = some u) (k : w.heap[g]? = some u → K a w) : K a w := k hp
theorem lay_pat {K : Act → World → Prop} {a : Act} {w : World} {P : TypeId} (s : Operand) {g : Nat} (h : a.eval s = .pointer (some ⟨g, 0, none⟩)) (y : w.heap[g]? = some (.cells #[.int .i64 0, .int .i64 0, .int .i64 0, .int .i64 0, .int .i64 0, .int .i64 0, .int .i64 0, .slice none 0 0] P (0, 0)))
    (k : w.heap[g]? = some (.cells #[.int .i64 0, .int .i64 0, .int .i64 0, .int .i64 0, .int .i64 0, .int .i64 0, .int .i64 0, .slice none 0 0] P (0, 0)) → w.cell? ⟨g, 0, none⟩ = some (.int .i64 0) → w.cell? ⟨g, 1, none⟩ = some (.int .i64 0) → w.cell? ⟨g, 2, none⟩ = some (.int .i64 0) → w.cell? ⟨g, 3, none⟩ = some (.int .i64 0) → w.cell? ⟨g, 4, none⟩ = some (.int .i64 0) → w.cell? ⟨g, 5, none⟩ = some (.int .i64 0) → w.cell? ⟨g, 6, none⟩ = some (.int .i64 0) → w.cell? ⟨g, 7, none⟩ = some (.slice none 0 0) → (∀ o, w.frozen? ⟨g, o, none⟩ = false) → g < w.heap.size → K a w) : K a w :=
  have c : ∀ i, w.cell? ⟨g, i, none⟩ = (#[.int .i64 0, .int .i64 0, .int .i64 0, .int .i64 0, .int .i64 0, .int .i64 0, .int .i64 0, .slice none 0 0] : Array Value)[i]? := fun i => cell_of_row _ _ _ _ _ _ y
  k y (c 0) (c 1) (c 2) (c 3) (c 4) (c 5) (c 6) (c 7) (fun o => frozen_of_row _ _ _ _ _ y) (blk_lt y)
theorem szS {V w' : World} (h : Below V.heap.size V w' ∧ ∀ b o, b < V.heap.size → w'.cell? ⟨b, o, none⟩ = V.cell? ⟨b, o, none⟩) : V.heap.size ≤ w'.heap.size := h.1.size
theorem grS {V W w' : World} {row : Option Nat} (h : Below V.heap.size V W ∧ ∀ b o, b < V.heap.size → W.cell? ⟨b, o, none⟩ = V.cell? ⟨b, o, none⟩) (hg : W.grownBy w' row) (hr : ∀ k, row = some k → V.heap.size ≤ k) : Below V.heap.size V w' := h.1.grown hg h.1.size hr
theorem keepS {V w' : World} (h : Below V.heap.size V w') : Below V.heap.size V w' ∧ ∀ b o, b < V.heap.size → w'.cell? ⟨b, o, none⟩ = V.cell? ⟨b, o, none⟩ := ⟨h, (bcell h).1⟩

/-- What holds behind the span has been chosen. -/
structure Chosen (k : Nat → Int) (a : Option Addr) (n cap : Nat) (F T : Int) (w wx : World) : Prop where
  bel : Below w.heap.size w wx
  size : w.heap.size + 1 < wx.heap.size
  pat : ∀ i, i < 8 → wx.cell? ⟨w.heap.size, i, none⟩ = (#[.int .i64 (k 0), .int .i64 (k 1), .int .i64 (k 2), .int .i64 (k 3), .int .i64 (k 4), .int .i64 (k 5), .int .i64 (k 6), .slice a n cap] : Array Value)[i]?
  from_ : wx.cell? ⟨w.heap.size + 1, 0, none⟩ = some (.int .i64 F)
  to_ : wx.cell? ⟨w.heap.size + 1, 1, none⟩ = some (.int .i64 T)
  bF : -9223372036854775808 ≤ F ∧ F ≤ 9223372036854775807
  bT : -9223372036854775808 ≤ T ∧ T ≤ 9223372036854775807

set_option maxRecDepth 100000 in
set_option maxHeartbeats 40000000 in
theorem frees_main (k : Nat → Int) (a : Option Addr) (n cap : Nat) (xs : List Int) (d f t : Int) (w : World) (ht : Tab w) (hx : Ints .i64 w a n cap xs) (hb : IB xs) (hz : a = none → cap = 0) (hd : -9223372036854775808 ≤ d ∧ d ≤ 9223372036854775807) (_hf : -9223372036854775808 ≤ f ∧ f ≤ 9223372036854775807) (_ht : -9223372036854775808 ≤ t ∧ t ≤ 9223372036854775807) (big : ¬ 300 < n) (hk : chk k xs = 0) (h0 : -25567 ≤ d) (h1 : d ≤ 84005) (hlast : 0 < n → xs.getD (n - 1) 0 < d) :
    Calls Tryd.prog 6 #[.agg #[.int .i64 (k 0), .int .i64 (k 1), .int .i64 (k 2), .int .i64 (k 3), .int .i64 (k 4), .int .i64 (k 5), .int .i64 (k 6), .slice a n cap], .int .i64 d, .agg #[.int .i64 f, .int .i64 t]] w fun e w' => e = .returned (.bool true) ∧ Below w.heap.size w w' := by
  have hx1 := (hx.alloc (.cells #[.int .i64 (k 0), .int .i64 (k 1), .int .i64 (k 2), .int .i64 (k 3), .int .i64 (k 4), .int .i64 (k 5), .int .i64 (k 6), .slice a n cap] 26)).alloc (.cells #[.int .i64 f, .int .i64 t] 37)
  have hb0 := balloc (balloc (Below.refl w.heap.size w) (.cells #[.int .i64 (k 0), .int .i64 (k 1), .int .i64 (k 2), .int .i64 (k 3), .int .i64 (k 4), .int .i64 (k 5), .int .i64 (k 6), .slice a n cap] 26)) (.cells #[.int .i64 f, .int .i64 t] 37)
  have hk' := Lib.hid hk
  have hL := hx1.len
  have hall := Lib.hid (all_lt (chk_zero hk).2.2.2 (by rw [hL]; exact hlast))
  have HL := Lib.hid hL
  have hlast' := Lib.hid hlast
  clear hk hL hlast
  go_enter Tryd.func6, Tryd.ntmps6
  go_upto_region 1 with fail
  go_cut [41] (fun s41 wx => s41 = .bool false ∧ Below (((w.alloc (.cells #[.int .i64 (k 0), .int .i64 (k 1), .int .i64 (k 2), .int .i64 (k 3), .int .i64 (k 4), .int .i64 (k 5), .int .i64 (k 6), .slice a n cap] 26)).alloc (.cells #[.int .i64 f, .int .i64 t] 37))).heap.size (((w.alloc (.cells #[.int .i64 (k 0), .int .i64 (k 1), .int .i64 (k 2), .int .i64 (k 3), .int .i64 (k 4), .int .i64 (k 5), .int .i64 (k 6), .slice a n cap] 26)).alloc (.cells #[.int .i64 f, .int .i64 t] 37))) wx)
  case first =>
    go_wp2_with fail
    refine (great_no k a n cap _ big).mono ?_
    rintro e w1 ⟨rfl, hb1⟩
    obtain ⟨hc, hf'⟩ := bcell hb1
    go_wp2_with fail
    refine (rcheck_any k a n cap xs _ (hx1.next hb1 (Nat.le_refl _)) hb).mono ?_
    rintro e w2 ⟨rfl, hb2⟩
    rw [hk'.out]
    have h12 := bstep hb1 hb2
    clear hc hf'
    obtain ⟨hc, hf'⟩ := bcell h12
    by_cases n0 : n = 0
    · subst n0
      go_wp2_with (go_at_call 19; refine (rin_yes d _ h0 h1).mono ?_; rintro e w' ⟨rfl, rfl⟩)
      go_meet
      exact ⟨rfl, h12⟩
    · have np : 0 < n := by omega
      have hl := hlast'.out np
      obtain ⟨b, off, rfl, hbl, hcell⟩ := hx1.at_ (j := n - 1) (by omega)
      generalize xs.getD (n - 1) 0 = x at *
      have hcl := bc h12 hbl hcell
      go_wp2_with (go_at_call 19; refine (rin_yes d _ h0 h1).mono ?_; rintro e w' ⟨rfl, rfl⟩)
      go_meet
      exact ⟨by rw [decide_eq_false (by omega)], h12⟩
  case rest =>
    obtain ⟨rfl, hbc⟩ := hcut
    obtain ⟨hc, hf'⟩ := bcell hbc
    go_upto_region 3 with fail
    go_cut [55] (fun s55 wx => ∃ bb : Bool, s55 = .bool bb ∧ wx = wc)
    case first =>
      go_wp2_with fail
      all_goals
        go_meet
        exact ⟨_, rfl, rfl⟩
    case rest =>
      obtain ⟨bb, rfl, rfl⟩ := hcut
      have hch : Chosen k a n cap f t w wc := ⟨bstep hb0 hbc, by have := hbc.size; simp at this; omega, fun i hi => by rw [hc _ _ (by simp; omega)]; go_simp, by rw [hc _ _ (by simp)]; go_simp, by rw [hc _ _ (by simp)]; go_simp, _hf, _ht⟩
      have Hch := Lib.hid hch
      clear hch
      go_upto_if 55 with fail
      go_cut [] (fun wx => ∃ F T : Int, Chosen k a n cap F T w wx)
      case first =>
        cases bb
        · go_wp2_with fail
          go_meet
          exact ⟨f, t, Hch.out⟩
        · go_wp2_with fail
          go_meet
          have h := Hch.out
          refine ⟨d - 3, d + 9, ⟨bset (bset h.bel (by simp) _) (by simp) _, by simpa using h.size, fun i hi => ?_, ?_, ?_, by omega, by omega⟩⟩
          · rw [World.cell?_setCell_other _ _ _ _ (by simp), World.cell?_setCell_other _ _ _ _ (by simp)]; exact h.pat i hi
          · rw [World.cell?_setCell_other _ _ _ _ (by simp)]; exact World.cell?_setCell_same _ _ _ h.from_
          · exact World.cell?_setCell_same _ _ _ (u := .int .i64 t) (by rw [World.cell?_setCell_other _ _ _ _ (by simp)]; exact h.to_)
      case rest =>
        obtain ⟨F, T, hch⟩ := hcut
        clear hc hf' Hch
        have hzc : w.heap.size < wc.heap.size := by have := hch.size; omega
        have hxW := hx.next hch.bel (Nat.le_refl _)
        have htW := ht.step hch.bel
        have g0 : wc.cell? ⟨w.heap.size, 0, none⟩ = some (.int .i64 (k 0)) := hch.pat 0 (by omega)
        have g1 : wc.cell? ⟨w.heap.size, 1, none⟩ = some (.int .i64 (k 1)) := hch.pat 1 (by omega)
        have g2 : wc.cell? ⟨w.heap.size, 2, none⟩ = some (.int .i64 (k 2)) := hch.pat 2 (by omega)
        have g3 : wc.cell? ⟨w.heap.size, 3, none⟩ = some (.int .i64 (k 3)) := hch.pat 3 (by omega)
        have g4 : wc.cell? ⟨w.heap.size, 4, none⟩ = some (.int .i64 (k 4)) := hch.pat 4 (by omega)
        have g5 : wc.cell? ⟨w.heap.size, 5, none⟩ = some (.int .i64 (k 5)) := hch.pat 5 (by omega)
        have g6 : wc.cell? ⟨w.heap.size, 6, none⟩ = some (.int .i64 (k 6)) := hch.pat 6 (by omega)
        have g7 : wc.cell? ⟨w.heap.size, 7, none⟩ = some (.slice a n cap) := hch.pat 7 (by omega)
        have s0 := hch.from_
        have s1 := hch.to_
        have hcz := hch.size
        have hOLD := Lib.hid (fun (w' : World) (h : Below wc.heap.size wc w') => show Below w.heap.size w w' ∧ Tab w' ∧ Ints .i64 w' a n cap xs ∧ w.heap.size < w'.heap.size ∧ w.heap.size + 1 < w'.heap.size ∧ w'.cell? ⟨w.heap.size + 1, 0, none⟩ = some (.int .i64 F) ∧ w'.cell? ⟨w.heap.size + 1, 1, none⟩ = some (.int .i64 T) ∧ (w'.cell? ⟨w.heap.size, 0, none⟩ = some (.int .i64 (k 0)) ∧ w'.cell? ⟨w.heap.size, 1, none⟩ = some (.int .i64 (k 1)) ∧ w'.cell? ⟨w.heap.size, 2, none⟩ = some (.int .i64 (k 2)) ∧ w'.cell? ⟨w.heap.size, 3, none⟩ = some (.int .i64 (k 3)) ∧ w'.cell? ⟨w.heap.size, 4, none⟩ = some (.int .i64 (k 4)) ∧ w'.cell? ⟨w.heap.size, 5, none⟩ = some (.int .i64 (k 5)) ∧ w'.cell? ⟨w.heap.size, 6, none⟩ = some (.int .i64 (k 6)) ∧ w'.cell? ⟨w.heap.size, 7, none⟩ = some (.slice a n cap)) from
          ⟨bstep hch.bel h, htW.step h, hxW.next h (Nat.le_refl _), Nat.lt_of_lt_of_le hzc h.size, Nat.lt_of_lt_of_le hcz h.size, bc h hcz s0, bc h hcz s1, bc h hzc g0, bc h hzc g1, bc h hzc g2, bc h hzc g3, bc h hzc g4, bc h hzc g5, bc h hzc g6, bc h hzc g7⟩)
        have hbF := hch.bF
        have hbT := hch.bT
        obtain ⟨i0, hi, hz0, hz1', hz2⟩ := info_parts infoDay
        have HI := Lib.hid hi
        have n300 : n ≤ 300 := by omega
        clear hi hch
        go_upto_region 5 with fail
        go_cut [7] (fun s7 wx => ∃ (g : Nat) (a2 : Option Addr) (cap2 : Nat), s7 = .pointer (some ⟨g, 0, none⟩) ∧ wc.heap.size ≤ g ∧ g < wx.heap.size ∧ (∀ i, i < 8 → wx.cell? ⟨g, i, none⟩ = (#[.int .i64 (k 0), .int .i64 (k 1), .int .i64 (k 2), .int .i64 (k 3), .int .i64 (k 4), .int .i64 (k 5), .int .i64 (k 6), .slice a2 (n + 1) cap2] : Array Value)[i]?) ∧ Ints .i64 wx a2 (n + 1) cap2 (xs ++ [d]) ∧ Below wc.heap.size wc wx)
        case first =>
          go_region_held2 (fun w' => Below wc.heap.size wc w' ∧ ∀ b o, b < wc.heap.size → w'.cell? ⟨b, o, none⟩ = wc.cell? ⟨b, o, none⟩)
            ((refine keepS ?_; first | with_reducible exact (Below.refl _ _).drew | with_reducible exact hB1 | with_reducible exact hB2 | with_reducible exact balloc (And.left (by assumption)) _ | with_reducible exact balloc_drew (And.left (by assumption)) _ | with_reducible exact balloc hB2 _ | ((repeat (with_reducible refine bset ?_ ?_ _; rotate_left; (first | exact Nat.le_refl _ | (have hq1 := hB1.size; have hq2 := hB2.size; dsimp only; omega)))); first | with_reducible exact hB2 | with_reducible exact balloc hB2 _)))
            (first | (refine step_append_ints rfl (.tmp 63) (.tmp 65) 24 rfl wc.heap.size 27 i0 (.int .i64 0) 8 Tryd.underlying24 HI.out hz0 hz1' hz2 rfl _ 0 [] rfl (own_blk (by first | with_reducible exact blk_t00 | with_reducible exact blk_t10 | with_reducible exact blk_t11 | with_reducible exact blk_t20 | with_reducible exact blk_t21 | with_reducible exact blk_t22 | with_reducible exact blk_drew blk_t00 | with_reducible exact blk_drew blk_t10 | with_reducible exact blk_drew blk_t11 | with_reducible exact blk_drew blk_t20 | with_reducible exact blk_drew blk_t21 | with_reducible exact blk_drew blk_t22) (by first | exact Nat.le_refl _ | omega)) a n cap xs rfl (hxW.next (And.left (by assumption)) (Nat.le_refl _)) hz (by unfold maxLen; omega) (by omega) (szS (by assumption)) ?_; intro v1 w3 hown1 hgr1; have hB1 : Below wc.heap.size wc w3 := grS (by assumption) hgr1 (fun q hq => by simp [Act.eval, Value.ownBlock] at hq; omega); rw [Nat.zero_add, List.nil_append] at hown1; obtain ⟨a1, c1, hv1, hI1⟩ := own_ints hown1; subst hv1; (try (refine lay_blk (u := .cells #[.int .i64 0, .int .i64 0, .int .i64 0, .int .i64 0, .int .i64 0, .int .i64 0, .int .i64 0, .slice none 0 0] 26 (0, 0)) (.tmp 7) rfl (blk_grown hgr1 (by first | with_reducible exact blk_t00 | with_reducible exact blk_t10 | with_reducible exact blk_t11 | with_reducible exact blk_t20 | with_reducible exact blk_t21 | with_reducible exact blk_t22 | with_reducible exact blk_drew blk_t00 | with_reducible exact blk_drew blk_t10 | with_reducible exact blk_drew blk_t11 | with_reducible exact blk_drew blk_t20 | with_reducible exact blk_drew blk_t21 | with_reducible exact blk_drew blk_t22) (by simp [Act.eval, Value.ownBlock] <;> omega)) ?_; intro z7)); (try (refine lay_sl (u := .cells #[.int .i64 d] 27 (0, 0)) (.tmp 68) rfl (blk_grown hgr1 (by first | with_reducible exact blk_t00 | with_reducible exact blk_t10 | with_reducible exact blk_t11 | with_reducible exact blk_t20 | with_reducible exact blk_t21 | with_reducible exact blk_t22 | with_reducible exact blk_drew blk_t00 | with_reducible exact blk_drew blk_t10 | with_reducible exact blk_drew blk_t11 | with_reducible exact blk_drew blk_t20 | with_reducible exact blk_drew blk_t21 | with_reducible exact blk_drew blk_t22) (by simp [Act.eval, Value.ownBlock] <;> omega)) ?_; intro e68)); skip) | (refine step_append_ints rfl (.tmp 66) (.tmp 68) 24 rfl wc.heap.size 27 i0 (.int .i64 0) 8 Tryd.underlying24 HI.out hz0 hz1' hz2 rfl (.slice a1 n c1) n xs rfl (by first | with_reducible exact hown1 | with_reducible exact hown1.alloc _ | with_reducible exact (hown1.alloc _).alloc _ | with_reducible exact hown1.drew | with_reducible exact (hown1.alloc _).drew | with_reducible exact ((hown1.alloc _).alloc _).drew) _ 1 1 [d] rfl (ints_blk (by first | with_reducible exact e68 | with_reducible exact blk_old e68 | with_reducible exact blk_old (blk_old e68) | with_reducible exact blk_t00 | with_reducible exact blk_t10 | with_reducible exact blk_t11 | with_reducible exact blk_t20 | with_reducible exact blk_t21 | with_reducible exact blk_t22 | with_reducible exact blk_drew blk_t00 | with_reducible exact blk_drew blk_t10 | with_reducible exact blk_drew blk_t11 | with_reducible exact blk_drew blk_t20 | with_reducible exact blk_drew blk_t21 | with_reducible exact blk_drew blk_t22 | with_reducible exact blk_drew (e68) | with_reducible exact blk_drew (blk_old e68) | with_reducible exact blk_drew (blk_old (blk_old e68)))) (fun h => by cases h) (by unfold maxLen; omega) (by omega) (szS (by assumption)) ?_; intro v2 w5 hown2 hgr2; have hB2 : Below wc.heap.size wc w5 := grS (by assumption) hgr2 (fun q hq => (hown1.lt q hq).1); obtain ⟨a2, c2, hv2, hI2⟩ := own_ints hown2; subst hv2; (try (refine lay_pat (P := 26) (.tmp 7) rfl (grow_ne (base := wc.heap.size) (e := 27) (n := n) (xs := xs.map (Value.int .i64)) (by first | with_reducible exact hown1 | with_reducible exact hown1.alloc _ | with_reducible exact (hown1.alloc _).alloc _ | with_reducible exact hown1.drew | with_reducible exact (hown1.alloc _).drew | with_reducible exact ((hown1.alloc _).alloc _).drew) (by first | with_reducible exact z7 | with_reducible exact blk_old z7 | with_reducible exact blk_old (blk_old z7) | with_reducible exact blk_t00 | with_reducible exact blk_t10 | with_reducible exact blk_t11 | with_reducible exact blk_t20 | with_reducible exact blk_t21 | with_reducible exact blk_t22 | with_reducible exact blk_drew blk_t00 | with_reducible exact blk_drew blk_t10 | with_reducible exact blk_drew blk_t11 | with_reducible exact blk_drew blk_t20 | with_reducible exact blk_drew blk_t21 | with_reducible exact blk_drew blk_t22 | with_reducible exact blk_drew (z7) | with_reducible exact blk_drew (blk_old z7) | with_reducible exact blk_drew (blk_old (blk_old z7))) (by decide) hgr2) ?_; intro y7 y7c0 y7c1 y7c2 y7c3 y7c4 y7c5 y7c6 y7c7 y7f y7l)); skip))
          all_goals
            go_wp2_with fail
            go_meet
            first
              | with_reducible exact ⟨_, a2, c2, rfl, fin_new hI2 hB2⟩
              | (refine ⟨_, a2, c2, rfl, ?_⟩; with_reducible exact fin_set (by assumption) (by decide) hown2 hI2 (by have := hB1.size; have := hB2.size; omega) hB2)
        case rest =>
          obtain ⟨g, a2, cap2, rfl, hg, hgl, hpat, hI2, hBx⟩ := hcut
          clear g0 g1 g2 g3 g4 g5 g6 g7 s0 s1 hzc hcz hxW htW hg
          obtain ⟨hWB, hTab, hI1, hz1, hz2, s0, s1, g0, g1, g2, g3, g4, g5, g6, g7⟩ := hOLD.out _ hBx
          have q0 : wc.cell? ⟨g, 0, none⟩ = some (.int .i64 (k 0)) := hpat 0 (by omega)
          have q1 : wc.cell? ⟨g, 1, none⟩ = some (.int .i64 (k 1)) := hpat 1 (by omega)
          have q2 : wc.cell? ⟨g, 2, none⟩ = some (.int .i64 (k 2)) := hpat 2 (by omega)
          have q3 : wc.cell? ⟨g, 3, none⟩ = some (.int .i64 (k 3)) := hpat 3 (by omega)
          have q4 : wc.cell? ⟨g, 4, none⟩ = some (.int .i64 (k 4)) := hpat 4 (by omega)
          have q5 : wc.cell? ⟨g, 5, none⟩ = some (.int .i64 (k 5)) := hpat 5 (by omega)
          have q6 : wc.cell? ⟨g, 6, none⟩ = some (.int .i64 (k 6)) := hpat 6 (by omega)
          have q7 : wc.cell? ⟨g, 7, none⟩ = some (.slice a2 (n + 1) cap2) := hpat 7 (by omega)
          have hlaw := WL.frees hk'.out (by rw [HL.out]; exact n300) d ⟨h0, h1⟩ hall.out F T
          have hb2 : IB (xs ++ [d]) := fun x hx => by
            rcases List.mem_append.1 hx with h | h
            · exact hb x h
            · simp at h; subst h; exact hd
          obtain ⟨less, hless⟩ : ∃ v, (if F ≤ d ∧ d < T then on k xs d else 0) = v := ⟨_, rfl⟩
          rw [hless] at hlaw
          have hmb := mins_bd k xs F T
          have hob := on_bd k xs d
          have hlb : -2000 ≤ less ∧ less ≤ 2000 := by rw [← hless]; split <;> omega
          obtain ⟨law1, law2, law3⟩ := hlaw
          have HC : Hid (∀ V X : World, Below wc.heap.size wc V → Below V.heap.size V X → Calls Tryd.prog 14 #[.agg #[.int .i64 (k 0), .int .i64 (k 1), .int .i64 (k 2), .int .i64 (k 3), .int .i64 (k 4), .int .i64 (k 5), .int .i64 (k 6), .slice a2 (n + 1) cap2]] X fun e w' => e = .returned (.int .i64 0) ∧ Below V.heap.size V w') := fun V X hV h => by
            have h2 := check_any k a2 (n + 1) cap2 (xs ++ [d]) X (hI2.next (bstep hV h) (Nat.le_refl _)) hb2
            rw [law1] at h2
            exact h2.mono fun _ _ ⟨he, hx⟩ => ⟨he, bstep h hx⟩
          have HM2 : Hid (∀ V X : World, Below wc.heap.size wc V → Below V.heap.size V X → Calls Tryd.prog 17 #[.agg #[.int .i64 (k 0), .int .i64 (k 1), .int .i64 (k 2), .int .i64 (k 3), .int .i64 (k 4), .int .i64 (k 5), .int .i64 (k 6), .slice a2 (n + 1) cap2], .agg #[.int .i64 F, .int .i64 T]] X fun e w' => e = .returned (.int .i64 (mins k xs F T - less)) ∧ Below V.heap.size V w') := fun V X hV h => by
            have h2 := minutes_from (W := V) k a2 (n + 1) cap2 (xs ++ [d]) F T X h (hTab.step hV) (hI2.next hV (Nat.le_refl _)) hb2 hbF hbT
            rw [law2] at h2
            exact h2
          have HM1 : Hid (∀ V X : World, Below wc.heap.size wc V → Below V.heap.size V X → Calls Tryd.prog 17 #[.agg #[.int .i64 (k 0), .int .i64 (k 1), .int .i64 (k 2), .int .i64 (k 3), .int .i64 (k 4), .int .i64 (k 5), .int .i64 (k 6), .slice a n cap], .agg #[.int .i64 F, .int .i64 T]] X fun e w' => e = .returned (.int .i64 (mins k xs F T)) ∧ Below V.heap.size V w') := fun V X hV h => minutes_from (W := V) k a n cap xs F T X h (hTab.step hV) (hI1.next hV (Nat.le_refl _)) hb hbF hbT
          have HO2 : Hid (∀ V X : World, Below wc.heap.size wc V → Below V.heap.size V X → Calls Tryd.prog 15 #[.agg #[.int .i64 (k 0), .int .i64 (k 1), .int .i64 (k 2), .int .i64 (k 3), .int .i64 (k 4), .int .i64 (k 5), .int .i64 (k 6), .slice a2 (n + 1) cap2], .int .i64 d] X fun e w' => e = .returned (.int .i64 0) ∧ Below V.heap.size V w') := fun V X hV h => by
            have h2 := On_any k a2 (n + 1) cap2 (xs ++ [d]) d X (hI2.next (bstep hV h) (Nat.le_refl _)) hb2
            rw [law3] at h2
            exact h2.mono fun _ _ ⟨he, hx⟩ => ⟨he, bstep h hx⟩
          have HO1 : Hid (∀ V X : World, Below wc.heap.size wc V → Below V.heap.size V X → Calls Tryd.prog 15 #[.agg #[.int .i64 (k 0), .int .i64 (k 1), .int .i64 (k 2), .int .i64 (k 3), .int .i64 (k 4), .int .i64 (k 5), .int .i64 (k 6), .slice a n cap], .int .i64 d] X fun e w' => e = .returned (.int .i64 (on k xs d)) ∧ Below V.heap.size V w') := fun V X hV h =>
            (On_any k a n cap xs d X (hI1.next (bstep hV h) (Nat.le_refl _)) hb).mono fun _ _ ⟨he, hx⟩ => ⟨he, bstep h hx⟩
          have HAW : Hid (∀ V X : World, Below wc.heap.size wc V → Below V.heap.size V X → Calls Tryd.prog 11 #[] X fun e w' => e = .returned (.bool true) ∧ Below V.heap.size V w') := fun V X hV h => awake_from (W := V) X h (hTab.step hV)
          have HLS := Lib.hid hless
          clear hpat hI1 hI2 hless law1 law2 law3 hTab hOLD hob
          generalize mins k xs F T = mm at *
          have hwr : IntKind.i64.wrap (mm - less) = mm - less := IntWalk.i64_in _ (by omega)
          obtain ⟨qb, hqb⟩ : ∃ q : Bool, decide (F ≤ d ∧ d < T) = q := ⟨_, rfl⟩
          have HQB := Lib.hid hqb
          clear hqb
          go_upto_region 7 with fail
          go_cut [80] (fun s80 wx => s80 = .bool qb ∧ wx = wc)
          case first =>
            by_cases f1 : F ≤ d
            · by_cases f2 : d < T
              · have hv : Hid (qb = true) := by show _ = _; rw [← HQB.out]; exact decide_eq_true ⟨f1, f2⟩
                go_wp2_with fail
                go_meet
                exact ⟨by rw [hv.out], rfl⟩
              · have hv : Hid (qb = false) := by show _ = _; rw [← HQB.out]; exact decide_eq_false (fun h => f2 h.2)
                have f2' : decide (d < T) = false := decide_eq_false f2
                go_wp2_with fail
                go_meet
                exact ⟨by rw [hv.out], rfl⟩
            · have hv : Hid (qb = false) := by show _ = _; rw [← HQB.out]; exact decide_eq_false (fun h => f1 h.1)
              have f1' : decide (F ≤ d) = false := decide_eq_false f1
              go_wp2_with fail
              go_meet
              exact ⟨by rw [hv.out], rfl⟩
          case rest =>
            obtain ⟨rfl, rfl⟩ := hcut
            go_upto_if 80 with fail
            go_cut [8] (fun s8 wx => s8 = .int .i64 less ∧ Below wc.heap.size wc wx)
            case first =>
              cases qb
              · have hl0 : less = 0 := by rw [← HLS.out, if_neg (of_decide_eq_false HQB.out)]
                go_wp2_with fail
                go_meet
                exact ⟨by rw [hl0], Below.refl _ _⟩
              · have hl0 : on k xs d = less := by rw [← HLS.out, if_pos (of_decide_eq_true HQB.out)]
                have ho := Lib.hid (HO1.out wc wc (Below.refl _ _) (Below.refl _ _))
                rw [hl0] at ho
                go_wp2_with fail
                refine ho.out.mono ?_
                rintro e w3 ⟨rfl, hb3⟩
                go_wp2_with fail
                go_meet
                exact ⟨rfl, hb3⟩
            case rest =>
              obtain ⟨rfl, hbn⟩ := hcut
              have hC := Lib.hid (fun X h => HC.out wc X hbn h)
              have hM1 := Lib.hid (fun X h => HM1.out wc X hbn h)
              have hM2 := Lib.hid (fun X h => HM2.out wc X hbn h)
              have hO2 := Lib.hid (fun X h => HO2.out wc X hbn h)
              have hAW := Lib.hid (fun X h => HAW.out wc X hbn h)
              have g0 := bc hbn hz1 g0
              have g1 := bc hbn hz1 g1
              have g2 := bc hbn hz1 g2
              have g3 := bc hbn hz1 g3
              have g4 := bc hbn hz1 g4
              have g5 := bc hbn hz1 g5
              have g6 := bc hbn hz1 g6
              have g7 := bc hbn hz1 g7
              have s0 := bc hbn hz2 s0
              have s1 := bc hbn hz2 s1
              have q0 := bc hbn hgl q0
              have q1 := bc hbn hgl q1
              have q2 := bc hbn hgl q2
              have q3 := bc hbn hgl q3
              have q4 := bc hbn hgl q4
              have q5 := bc hbn hgl q5
              have q6 := bc hbn hgl q6
              have q7 := bc hbn hgl q7
              have hz1 : w.heap.size < wc.heap.size := Nat.lt_of_lt_of_le hz1 hbn.size
              have hz2 : w.heap.size + 1 < wc.heap.size := Nat.lt_of_lt_of_le hz2 hbn.size
              have hgl : g < wc.heap.size := Nat.lt_of_lt_of_le hgl hbn.size
              have hWF := bstep hWB hbn
              clear HC HM1 HM2 HO1 HO2 HAW hWB hbn
              go_upto_region 9 with fail
              go_region_held3 (fun w' => Below wc.heap.size wc w' ∧ ∀ b o, b < wc.heap.size → w'.cell? ⟨b, o, none⟩ = wc.cell? ⟨b, o, none⟩)
                (first | exact ⟨(Below.refl _ _).drew, fun _ _ _ => rfl⟩ | exact ⟨hb1, (bcell hb1).1⟩)
                (first | (go_at_call 14; refine (hC.out _ (And.left (by assumption))).mono ?_; rintro e w1 ⟨rfl, hb1⟩) | (go_at_call_of 17 a; refine (hM1.out _ (And.left (by assumption))).mono ?_; rintro e w1 ⟨rfl, hb1⟩) | (go_at_call_of 17 a2; refine (hM2.out _ (And.left (by assumption))).mono ?_; rintro e w1 ⟨rfl, hb1⟩) | (go_at_call 15; refine (hO2.out _ (And.left (by assumption))).mono ?_; rintro e w1 ⟨rfl, hb1⟩) | (go_at_call 11; refine (hAW.out _ (And.left (by assumption))).mono ?_; rintro e w1 ⟨rfl, hb1⟩))
              go_wp2
              go_ret
              exact ⟨rfl, bstep hWF hb1⟩
end Go.Proofs.YtjpjeimpmfoldaaDoor.W
