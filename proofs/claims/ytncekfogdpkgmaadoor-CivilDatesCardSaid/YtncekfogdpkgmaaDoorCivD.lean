/- The walk of the law of civil on dates. -/
import Derived.Test.YtncekfogdpkgmaaDoorCivS
import Derived.Test.YtncekfogdpkgmaaDoorCivW
namespace Go.Proofs.YtncekfogdpkgmaaDoor.W
open Go.RowKit Go.Proofs.YtncekfogdpkgmaaDoor.M

theorem held_next {w w' : World} {B : Nat} {u v : Value} (h : B < w.heap.size ∧ w.cell? ⟨B, 0, none⟩ = some u ∧ w.cell? ⟨B, 1, none⟩ = some v ∧ Tab w) (hb : Below w.heap.size w w') :
    B < w'.heap.size ∧ w'.cell? ⟨B, 0, none⟩ = some u ∧ w'.cell? ⟨B, 1, none⟩ = some v ∧ Tab w' :=
  ⟨Nat.lt_of_lt_of_le h.1 hb.size, bc hb h.1 h.2.1, bc hb h.1 h.2.2.1, h.2.2.2.step hb⟩

set_option maxHeartbeats 1000000 in
theorem dates (y m k : Int) (w : World) (ht : Tab w) (_hy : -9223372036854775808 ≤ y ∧ y ≤ 9223372036854775807) (_hm : -9223372036854775808 ≤ m ∧ m ≤ 9223372036854775807) :
    Calls Tryd.prog 3 #[.agg #[.int .i64 y, .int .i64 m, .int .i64 k]] w fun e w' => e = .returned (.bool true) ∧ Below w.heap.size w w' := by
  have ht0 := ht.alloc (.cells #[.int .i64 y, .int .i64 m, .int .i64 k] 23)
  by_cases h : k < 1 ∨ Cal.MD y m < k
  · go_enter Tryd.func3, Tryd.ntmps3
    go_wp2_with fail
    refine (of_no _ _ _ _ ht0 _hy _hm h).mono ?_
    rintro e w1 ⟨rfl, hb1⟩
    have ht1 := ht0.step hb1
    obtain ⟨hc1, hf1⟩ := bcell hb1
    have hz1 : w.heap.size < w1.heap.size := by have := hb1.size; simp at this; omega
    go_wp2_with fail
    refine (rof_no _ _ _ _ _hy _hm h).mono ?_
    rintro e w2 ⟨rfl, hb2⟩
    have h0 : w.heap.size < w2.heap.size ∧ w2.cell? ⟨w.heap.size, 0, none⟩ = some (.int .i64 y) ∧ w2.cell? ⟨w.heap.size, 1, none⟩ = some (.int .i64 m) ∧ Tab w2 :=
      held_next ⟨hz1, by rw [hc1 _ _ (by simp)]; simp, by rw [hc1 _ _ (by simp)]; simp, ht1⟩ hb2
    have hbw : Hid (Below w.heap.size w w2) := bstep (bstep (balloc (Below.refl _ _) _) hb1) hb2
    clear hc1 hf1 hz1 hb1 hb2 ht1 ht0 ht h
    go_wp2_with fail
    go_region_held3 (fun w' => w.heap.size < w'.heap.size ∧ w'.cell? ⟨w.heap.size, 0, none⟩ = some (.int .i64 y) ∧ w'.cell? ⟨w.heap.size, 1, none⟩ = some (.int .i64 m) ∧ Tab w')
      (first | exact h0 | exact held_next (by assumption) (by assumption))
      (first
        | (go_at_call 14; refine (monthdays_any _ _ _ (by go_split_ands; assumption) _hy _hm).mono ?_; rintro e w3 ⟨rfl, rfl⟩)
        | (go_at_call 15; refine (rmonth_any _ _ _ _hy _hm).mono ?_; rintro e w3 ⟨rfl, hb3⟩)
        | (go_at_call 16; refine (awake_any _ (by go_split_ands; assumption)).mono ?_; rintro e w4 ⟨rfl, hb4⟩))
    go_wp2
    go_ret
    exact ⟨rfl, bstep (bstep hbw.out (below_drew' hb3)) hb4⟩
  · have hv : Cal.Valid y m k := by
      unfold Cal.MD at h
      by_cases g : 1900 ≤ y ∧ y ≤ 2199 ∧ 1 ≤ m ∧ m ≤ 12
      · rw [if_pos g] at h; exact ⟨g.1, g.2.1, g.2.2.1, g.2.2.2, by omega, by omega⟩
      · rw [if_neg g] at h; omega
    have hof := of_yes _ _ _ _ ht0 hv
    have hrof := fun W => rof_yes y m k W hv
    generalize Cal.day y m k = D at hof hrof
    have e0 : (D == D) = true := by simp
    go_enter Tryd.func3, Tryd.ntmps3
    go_wp2_with fail
    refine hof.mono ?_
    rintro e w1 ⟨rfl, hb1⟩
    have ht1 := ht0.step hb1
    obtain ⟨hc1, hf1⟩ := bcell hb1
    have hz1 : w.heap.size < w1.heap.size := by have := hb1.size; simp at this; omega
    go_wp2_with fail
    refine (hrof _).mono ?_
    rintro e w2 ⟨rfl, hb2⟩
    have h0 : w.heap.size < w2.heap.size ∧ w2.cell? ⟨w.heap.size, 0, none⟩ = some (.int .i64 y) ∧ w2.cell? ⟨w.heap.size, 1, none⟩ = some (.int .i64 m) ∧ Tab w2 :=
      held_next ⟨hz1, by rw [hc1 _ _ (by simp)]; simp, by rw [hc1 _ _ (by simp)]; simp, ht1⟩ hb2
    have hbw : Hid (Below w.heap.size w w2) := bstep (bstep (balloc (Below.refl _ _) _) hb1) hb2
    clear hc1 hf1 hz1 hb1 hb2 ht1 ht0 ht h hv hof hrof
    go_wp2_with fail
    refine wp_region_noPanic ?_
    refine wp_region_held_drew (S := fun w' => w.heap.size < w'.heap.size ∧ w'.cell? ⟨w.heap.size, 0, none⟩ = some (.int .i64 y) ∧ w'.cell? ⟨w.heap.size, 1, none⟩ = some (.int .i64 m) ∧ Tab w') (by kernel_rfl) (by exact h0) (fun hHa => ?_)
    refine wpAnyH_take (i := 0) (oi := ({ dst := some 23, op := Op.move (Operand.tmp 3), type := 24, pos := "law.go:21", after := #[], guard := none })) (v := ?_) rfl (by kernel_rfl) (by kernel_rfl) (by kernel_rfl) (fun _ _ _ h => h) (Or.inl ⟨by rfl, ?_⟩) hHa ?_
    rotate_left 1
    focus ((intro w hSw); (try dsimp only at hSw); go_simp; (try with_reducible rfl))
    try simp only [Act.put, List.setIfInBounds_toArray, List.set_cons_zero, List.set_cons_succ]
    refine wpAnyH_take (i := 1) (oi := ({ dst := some 24, op := Op.move (Operand.tmp 5), type := 24, pos := "law.go:21", after := #[], guard := none })) (v := ?_) rfl (by kernel_rfl) (by kernel_rfl) (by kernel_rfl) (fun _ _ _ h => h) (Or.inl ⟨by rfl, ?_⟩) hHa ?_
    rotate_left 1
    focus ((intro w hSw); (try dsimp only at hSw); go_simp; (try with_reducible rfl))
    try simp only [Act.put, List.setIfInBounds_toArray, List.set_cons_zero, List.set_cons_succ]
    refine wpAnyH_take (i := 2) (oi := ({ dst := some 25, op := Op.binOp BinOp.eql 24 (Operand.tmp 23) (Operand.tmp 24) 24, type := 4, pos := "law.go:21", after := #[{ on := 0, ground := Ground.data }, { on := 1, ground := Ground.data }], guard := none })) (v := ?_) rfl (by kernel_rfl) (by kernel_rfl) (by kernel_rfl) (fun _ _ _ h => h) (Or.inl ⟨by rfl, ?_⟩) hHa ?_
    rotate_left 1
    focus ((intro w hSw); (try dsimp only at hSw); go_simp; (try with_reducible rfl))
    try simp only [Act.put, List.setIfInBounds_toArray, List.set_cons_zero, List.set_cons_succ]
    refine wpAnyH_take (i := 3) (oi := ({ dst := some 26, op := Op.move (Operand.tmp 25), type := 4, pos := "law.go:21", after := #[{ on := 2, ground := Ground.data }], guard := none })) (v := ?_) rfl (by kernel_rfl) (by kernel_rfl) (by kernel_rfl) (fun _ _ _ h => h) (Or.inl ⟨by rfl, ?_⟩) hHa ?_
    rotate_left 1
    focus ((intro w hSw); (try dsimp only at hSw); go_simp; (try with_reducible rfl))
    try simp only [Act.put, List.setIfInBounds_toArray, List.set_cons_zero, List.set_cons_succ]
    refine wpAnyH_take (i := 4) (oi := ({ dst := some 27, op := Op.move (Operand.tmp 4), type := 25, pos := "law.go:21", after := #[{ on := 3, ground := Ground.guard }], guard := some (3, true) })) (v := ?_) rfl (by kernel_rfl) (by kernel_rfl) (by kernel_rfl) (fun _ _ _ h => h) (Or.inl ⟨by rfl, ?_⟩) hHa ?_
    rotate_left 1
    focus ((intro w hSw); (try dsimp only at hSw); go_simp; (try with_reducible rfl))
    try simp only [Act.put, List.setIfInBounds_toArray, List.set_cons_zero, List.set_cons_succ]
    refine wpAnyH_take (i := 5) (oi := ({ dst := some 28, op := Op.binOp BinOp.eql 25 (Operand.tmp 27) (Operand.const (Value.int IntKind.i64 0)) 25, type := 4, pos := "law.go:21", after := #[{ on := 4, ground := Ground.data }, { on := 3, ground := Ground.guard }], guard := some (3, true) })) (v := ?_) rfl (by kernel_rfl) (by kernel_rfl) (by kernel_rfl) (fun _ _ _ h => h) (Or.inl ⟨by rfl, ?_⟩) hHa ?_
    rotate_left 1
    focus ((intro w hSw); (try dsimp only at hSw); go_simp; (try with_reducible rfl))
    try simp only [Act.put, List.setIfInBounds_toArray, List.set_cons_zero, List.set_cons_succ]
    refine wpAnyH_take (i := 6) (oi := ({ dst := some 29, op := Op.move (Operand.tmp 6), type := 4, pos := "law.go:21", after := #[{ on := 3, ground := Ground.guard }], guard := some (3, true) })) (v := ?_) rfl (by kernel_rfl) (by kernel_rfl) (by kernel_rfl) (fun _ _ _ h => h) (Or.inl ⟨by rfl, ?_⟩) hHa ?_
    rotate_left 1
    focus ((intro w hSw); (try dsimp only at hSw); go_simp; (try with_reducible rfl))
    try simp only [Act.put, List.setIfInBounds_toArray, List.set_cons_zero, List.set_cons_succ]
    refine wpAnyH_take (i := 7) (oi := ({ dst := some 30, op := Op.binOp BinOp.eql 4 (Operand.tmp 28) (Operand.tmp 29) 4, type := 4, pos := "law.go:21", after := #[{ on := 5, ground := Ground.data }, { on := 6, ground := Ground.data }, { on := 3, ground := Ground.guard }], guard := some (3, true) })) (v := ?_) rfl (by kernel_rfl) (by kernel_rfl) (by kernel_rfl) (fun _ _ _ h => h) (Or.inl ⟨by rfl, ?_⟩) hHa ?_
    rotate_left 1
    focus ((intro w hSw); (try dsimp only at hSw); go_simp; (try with_reducible rfl))
    try simp only [Act.put, List.setIfInBounds_toArray, List.set_cons_zero, List.set_cons_succ]
    refine wpAnyH_take (i := 8) (oi := ({ dst := some 31, op := Op.pick (Operand.tmp 26) (Operand.tmp 30) (Operand.const (Value.bool false)), type := 4, pos := "law.go:21", after := #[{ on := 3, ground := Ground.data }, { on := 7, ground := Ground.data }], guard := none })) (v := ?_) rfl (by kernel_rfl) (by kernel_rfl) (by kernel_rfl) (fun _ _ _ h => h) (Or.inl ⟨by rfl, ?_⟩) hHa ?_
    rotate_left 1
    focus ((intro w hSw); (try dsimp only at hSw); go_simp; (try with_reducible rfl))
    try simp only [Act.put, List.setIfInBounds_toArray, List.set_cons_zero, List.set_cons_succ]
    refine wpAnyH_take (i := 9) (oi := ({ dst := some 32, op := Op.move (Operand.tmp 31), type := 4, pos := "law.go:21", after := #[{ on := 8, ground := Ground.data }, { on := 3, ground := Ground.chain }], guard := none })) (v := ?_) rfl (by kernel_rfl) (by kernel_rfl) (by kernel_rfl) (fun _ _ _ h => h) (Or.inl ⟨by rfl, ?_⟩) hHa ?_
    rotate_left 1
    focus ((intro w hSw); (try dsimp only at hSw); go_simp; (try with_reducible rfl))
    try simp only [Act.put, List.setIfInBounds_toArray, List.set_cons_zero, List.set_cons_succ]
    refine wpAnyH_take (i := 10) (oi := ({ dst := some 33, op := Op.move (Operand.tmp 6), type := 4, pos := "law.go:21", after := #[{ on := 9, ground := Ground.guard }], guard := some (9, true) })) (v := ?_) rfl (by kernel_rfl) (by kernel_rfl) (by kernel_rfl) (fun _ _ _ h => h) (Or.inl ⟨by rfl, ?_⟩) hHa ?_
    rotate_left 1
    focus ((intro w hSw); (try dsimp only at hSw); go_simp; (try with_reducible rfl))
    try simp only [Act.put, List.setIfInBounds_toArray, List.set_cons_zero, List.set_cons_succ]
    refine wpAnyH_take (i := 11) (oi := ({ dst := some 34, op := Op.move (Operand.tmp 33), type := 4, pos := "law.go:21", after := #[{ on := 10, ground := Ground.data }, { on := 9, ground := Ground.chain }, { on := 9, ground := Ground.guard }], guard := some (9, true) })) (v := ?_) rfl (by kernel_rfl) (by kernel_rfl) (by kernel_rfl) (fun _ _ _ h => h) (Or.inl ⟨by rfl, ?_⟩) hHa ?_
    rotate_left 1
    focus ((intro w hSw); (try dsimp only at hSw); go_simp; (try with_reducible rfl))
    try simp only [Act.put, List.setIfInBounds_toArray, List.set_cons_zero, List.set_cons_succ]
    refine wpAnyH_ready (rs := [12]) (by kernel_rfl) (by simp) ?_
    refine AllReadyH.cons (o := ({ dst := some 35, op := Op.move (Operand.tmp 4), type := 25, pos := "law.go:21", after := #[{ on := 11, ground := Ground.guard }], guard := some (11, false) })) rfl (fun K hK => ?_) AllReadyH.nil
    go_simp
    refine hK.out _ _ (by exact hHa) (fun hHb => ?_)
    clear hK K hHa
    try simp only [Act.put, List.setIfInBounds_toArray, List.set_cons_zero, List.set_cons_succ]
    refine wpAnyH_ready (rs := [13]) (by kernel_rfl) (by simp) ?_
    refine AllReadyH.cons (o := ({ dst := some 36, op := Op.binOp BinOp.eql 25 (Operand.tmp 35) (Operand.const (Value.int IntKind.i64 15)) 25, type := 4, pos := "law.go:21", after := #[{ on := 12, ground := Ground.data }, { on := 11, ground := Ground.guard }], guard := some (11, false) })) rfl (fun K hK => ?_) AllReadyH.nil
    go_simp
    refine hK.out _ _ (by exact hHb) (fun hHa => ?_)
    clear hK K hHb
    try simp only [Act.put, List.setIfInBounds_toArray, List.set_cons_zero, List.set_cons_succ]
    refine wpAnyH_take (i := 14) (oi := ({ dst := some 37, op := Op.pick (Operand.tmp 34) (Operand.const (Value.bool true)) (Operand.tmp 36), type := 4, pos := "law.go:21", after := #[{ on := 11, ground := Ground.data }, { on := 13, ground := Ground.data }, { on := 9, ground := Ground.guard }], guard := some (9, true) })) (v := ?_) rfl (by kernel_rfl) (by kernel_rfl) (by kernel_rfl) (fun _ _ _ h => h) (Or.inl ⟨by rfl, ?_⟩) hHa ?_
    rotate_left 1
    focus ((intro w hSw); (try dsimp only at hSw); go_simp; (try with_reducible rfl))
    try simp only [Act.put, List.setIfInBounds_toArray, List.set_cons_zero, List.set_cons_succ]
    refine wpAnyH_take (i := 15) (oi := ({ dst := some 38, op := Op.pick (Operand.tmp 32) (Operand.tmp 37) (Operand.const (Value.bool false)), type := 4, pos := "law.go:21", after := #[{ on := 9, ground := Ground.data }, { on := 14, ground := Ground.data }], guard := none })) (v := ?_) rfl (by kernel_rfl) (by kernel_rfl) (by kernel_rfl) (fun _ _ _ h => h) (Or.inl ⟨by rfl, ?_⟩) hHa ?_
    rotate_left 1
    focus ((intro w hSw); (try dsimp only at hSw); go_simp; (try with_reducible rfl))
    try simp only [Act.put, List.setIfInBounds_toArray, List.set_cons_zero, List.set_cons_succ]
    refine wpAnyH_take (i := 16) (oi := ({ dst := some 39, op := Op.move (Operand.tmp 38), type := 4, pos := "law.go:21", after := #[{ on := 15, ground := Ground.data }, { on := 11, ground := Ground.chain }], guard := none })) (v := ?_) rfl (by kernel_rfl) (by kernel_rfl) (by kernel_rfl) (fun _ _ _ h => h) (Or.inl ⟨by rfl, ?_⟩) hHa ?_
    rotate_left 1
    focus ((intro w hSw); (try dsimp only at hSw); go_simp; (try with_reducible rfl))
    try simp only [Act.put, List.setIfInBounds_toArray, List.set_cons_zero, List.set_cons_succ]
    refine wpAnyH_take (i := 17) (oi := ({ dst := some 40, op := Op.fieldAddr 23 (Operand.tmp 1) 0, type := 0, pos := "law.go:21", after := #[{ on := 16, ground := Ground.guard }], guard := some (16, true) })) (v := ?_) rfl (by kernel_rfl) (by kernel_rfl) (by kernel_rfl) (fun _ _ _ h => h) (Or.inl ⟨by rfl, ?_⟩) hHa ?_
    rotate_left 1
    focus ((intro w hSw); (try dsimp only at hSw); go_simp; (try with_reducible rfl))
    try simp only [Act.put, List.setIfInBounds_toArray, List.set_cons_zero, List.set_cons_succ]
    refine wpAnyH_take (i := 18) (oi := ({ dst := some 41, op := Op.load 3 (Operand.tmp 40), type := 3, pos := "law.go:21", after := #[{ on := 17, ground := Ground.data }, { on := 16, ground := Ground.guard }], guard := some (16, true) })) (v := ?_) rfl (by kernel_rfl) (by kernel_rfl) (by kernel_rfl) (fun _ _ _ h => h) (Or.inl ⟨by rfl, ?_⟩) hHa ?_
    rotate_left 1
    focus ((intro w hSw); (try dsimp only at hSw); go_simp; (try with_reducible rfl))
    try simp only [Act.put, List.setIfInBounds_toArray, List.set_cons_zero, List.set_cons_succ]
    refine wpAnyH_take (i := 19) (oi := ({ dst := some 42, op := Op.fieldAddr 23 (Operand.tmp 1) 1, type := 0, pos := "law.go:21", after := #[{ on := 16, ground := Ground.guard }], guard := some (16, true) })) (v := ?_) rfl (by kernel_rfl) (by kernel_rfl) (by kernel_rfl) (fun _ _ _ h => h) (Or.inl ⟨by rfl, ?_⟩) hHa ?_
    rotate_left 1
    focus ((intro w hSw); (try dsimp only at hSw); go_simp; (try with_reducible rfl))
    try simp only [Act.put, List.setIfInBounds_toArray, List.set_cons_zero, List.set_cons_succ]
    refine wpAnyH_take (i := 20) (oi := ({ dst := some 43, op := Op.load 3 (Operand.tmp 42), type := 3, pos := "law.go:21", after := #[{ on := 19, ground := Ground.data }, { on := 16, ground := Ground.guard }], guard := some (16, true) })) (v := ?_) rfl (by kernel_rfl) (by kernel_rfl) (by kernel_rfl) (fun _ _ _ h => h) (Or.inl ⟨by rfl, ?_⟩) hHa ?_
    rotate_left 1
    focus ((intro w hSw); (try dsimp only at hSw); go_simp; (try with_reducible rfl))
    try simp only [Act.put, List.setIfInBounds_toArray, List.set_cons_zero, List.set_cons_succ]
    refine wpAnyH_take (i := 22) (oi := ({ dst := some 45, op := Op.fieldAddr 23 (Operand.tmp 1) 0, type := 0, pos := "law.go:21", after := #[{ on := 16, ground := Ground.guard }], guard := some (16, true) })) (v := ?_) rfl (by kernel_rfl) (by kernel_rfl) (by kernel_rfl) (fun _ _ _ h => h) (Or.inl ⟨by rfl, ?_⟩) hHa ?_
    rotate_left 1
    focus ((intro w hSw); (try dsimp only at hSw); go_simp; (try with_reducible rfl))
    try simp only [Act.put, List.setIfInBounds_toArray, List.set_cons_zero, List.set_cons_succ]
    refine wpAnyH_take (i := 23) (oi := ({ dst := some 46, op := Op.load 3 (Operand.tmp 45), type := 3, pos := "law.go:21", after := #[{ on := 22, ground := Ground.data }, { on := 16, ground := Ground.guard }], guard := some (16, true) })) (v := ?_) rfl (by kernel_rfl) (by kernel_rfl) (by kernel_rfl) (fun _ _ _ h => h) (Or.inl ⟨by rfl, ?_⟩) hHa ?_
    rotate_left 1
    focus ((intro w hSw); (try dsimp only at hSw); go_simp; (try with_reducible rfl))
    try simp only [Act.put, List.setIfInBounds_toArray, List.set_cons_zero, List.set_cons_succ]
    refine wpAnyH_take (i := 24) (oi := ({ dst := some 47, op := Op.fieldAddr 23 (Operand.tmp 1) 1, type := 0, pos := "law.go:21", after := #[{ on := 16, ground := Ground.guard }], guard := some (16, true) })) (v := ?_) rfl (by kernel_rfl) (by kernel_rfl) (by kernel_rfl) (fun _ _ _ h => h) (Or.inl ⟨by rfl, ?_⟩) hHa ?_
    rotate_left 1
    focus ((intro w hSw); (try dsimp only at hSw); go_simp; (try with_reducible rfl))
    try simp only [Act.put, List.setIfInBounds_toArray, List.set_cons_zero, List.set_cons_succ]
    refine wpAnyH_take (i := 25) (oi := ({ dst := some 48, op := Op.load 3 (Operand.tmp 47), type := 3, pos := "law.go:21", after := #[{ on := 24, ground := Ground.data }, { on := 16, ground := Ground.guard }], guard := some (16, true) })) (v := ?_) rfl (by kernel_rfl) (by kernel_rfl) (by kernel_rfl) (fun _ _ _ h => h) (Or.inl ⟨by rfl, ?_⟩) hHa ?_
    rotate_left 1
    focus ((intro w hSw); (try dsimp only at hSw); go_simp; (try with_reducible rfl))
    try simp only [Act.put, List.setIfInBounds_toArray, List.set_cons_zero, List.set_cons_succ]
    refine wpAnyH_ready (rs := [21]) (by kernel_rfl) (by simp) ?_
    refine AllReadyH.cons (o := ({ dst := some 44, op := Op.call { callee := Callee.value (Operand.func 14), args := #[Operand.tmp 41, Operand.tmp 43], argTypes := #[3, 3] }, type := 3, pos := "law.go:21", after := #[{ on := 18, ground := Ground.data }, { on := 20, ground := Ground.data }, { on := 16, ground := Ground.chain }, { on := 16, ground := Ground.guard }], guard := some (16, true) })) rfl (fun K hK => ?_) AllReadyH.nil
    go_simp
    refine (monthdays_any _ _ _ hHa.2.2.2 _hy _hm).mono ?_; rintro e w3 ⟨rfl, rfl⟩
    try go_wp2_with fail
    refine hK.out _ _ (by exact hHa) (fun hHb => ?_)
    clear hK K hHa
    try simp only [Act.put, List.setIfInBounds_toArray, List.set_cons_zero, List.set_cons_succ]
    refine wpAnyH_ready (rs := [26]) (by kernel_rfl) (by simp) ?_
    refine AllReadyH.cons (o := ({ dst := some 49, op := Op.call { callee := Callee.value (Operand.func 15), args := #[Operand.tmp 46, Operand.tmp 48], argTypes := #[3, 3] }, type := 3, pos := "law.go:21", after := #[{ on := 23, ground := Ground.data }, { on := 25, ground := Ground.data }, { on := 21, ground := Ground.chain }, { on := 16, ground := Ground.guard }], guard := some (16, true) })) rfl (fun K hK => ?_) AllReadyH.nil
    go_simp
    refine (rmonth_any _ _ _ _hy _hm).mono ?_; rintro e w3 ⟨rfl, hb3⟩
    try go_wp2_with fail
    refine hK.out _ _ (by exact held_next hHb hb3) (fun hHa => ?_)
    clear hK K hHb
    try simp only [Act.put, List.setIfInBounds_toArray, List.set_cons_zero, List.set_cons_succ]
    refine wpAnyH_take (i := 27) (oi := ({ dst := some 50, op := Op.binOp BinOp.eql 3 (Operand.tmp 44) (Operand.tmp 49) 3, type := 4, pos := "law.go:21", after := #[{ on := 21, ground := Ground.data }, { on := 26, ground := Ground.data }, { on := 16, ground := Ground.guard }], guard := some (16, true) })) (v := ?_) rfl (by kernel_rfl) (by kernel_rfl) (by kernel_rfl) (fun _ _ _ h => h) (Or.inl ⟨by rfl, ?_⟩) hHa ?_
    rotate_left 1
    focus ((intro w hSw); (try dsimp only at hSw); go_simp; (try with_reducible rfl))
    try simp only [Act.put, List.setIfInBounds_toArray, List.set_cons_zero, List.set_cons_succ]
    refine wpAnyH_take (i := 28) (oi := ({ dst := some 51, op := Op.pick (Operand.tmp 39) (Operand.tmp 50) (Operand.const (Value.bool false)), type := 4, pos := "law.go:21", after := #[{ on := 16, ground := Ground.data }, { on := 27, ground := Ground.data }], guard := none })) (v := ?_) rfl (by kernel_rfl) (by kernel_rfl) (by kernel_rfl) (fun _ _ _ h => h) (Or.inl ⟨by rfl, ?_⟩) hHa ?_
    rotate_left 1
    focus ((intro w hSw); (try dsimp only at hSw); go_simp; (try with_reducible rfl))
    try simp only [Act.put, List.setIfInBounds_toArray, List.set_cons_zero, List.set_cons_succ]
    refine wpAnyH_take (i := 29) (oi := ({ dst := some 52, op := Op.move (Operand.tmp 51), type := 4, pos := "law.go:21", after := #[{ on := 28, ground := Ground.data }, { on := 26, ground := Ground.chain }], guard := none })) (v := ?_) rfl (by kernel_rfl) (by kernel_rfl) (by kernel_rfl) (fun _ _ _ h => h) (Or.inl ⟨by rfl, ?_⟩) hHa ?_
    rotate_left 1
    focus ((intro w hSw); (try dsimp only at hSw); go_simp; (try with_reducible rfl))
    try simp only [Act.put, List.setIfInBounds_toArray, List.set_cons_zero, List.set_cons_succ]
    refine wpAnyH_ready (rs := [30]) (by kernel_rfl) (by simp) ?_
    refine AllReadyH.cons (o := ({ dst := some 53, op := Op.call { callee := Callee.value (Operand.func 16), args := #[], argTypes := #[] }, type := 4, pos := "law.go:21", after := #[{ on := 29, ground := Ground.chain }, { on := 29, ground := Ground.guard }], guard := some (29, true) })) rfl (fun K hK => ?_) AllReadyH.nil
    go_simp
    refine (awake_any _ hHa.2.2.2).mono ?_; rintro e w4 ⟨rfl, hb4⟩
    try go_wp2_with fail
    refine hK.out _ _ (by exact held_next hHa hb4) (fun hHb => ?_)
    clear hK K hHa
    try simp only [Act.put, List.setIfInBounds_toArray, List.set_cons_zero, List.set_cons_succ]
    refine wpAnyH_take (i := 31) (oi := ({ dst := some 54, op := Op.pick (Operand.tmp 52) (Operand.tmp 53) (Operand.const (Value.bool false)), type := 4, pos := "law.go:21", after := #[{ on := 29, ground := Ground.data }, { on := 30, ground := Ground.data }], guard := none })) (v := ?_) rfl (by kernel_rfl) (by kernel_rfl) (by kernel_rfl) (fun _ _ _ h => h) (Or.inl ⟨by rfl, ?_⟩) hHb ?_
    rotate_left 1
    focus ((intro w hSw); (try dsimp only at hSw); go_simp; (try with_reducible rfl))
    try simp only [Act.put, List.setIfInBounds_toArray, List.set_cons_zero, List.set_cons_succ]
    refine wpAnyH_take (i := 32) (oi := ({ dst := some 2, op := Op.assign (Operand.tmp 54), type := 4, pos := "law.go:21", after := #[{ on := 31, ground := Ground.data }, { on := 30, ground := Ground.chain }, { on := 0, ground := Ground.phase }, { on := 1, ground := Ground.phase }, { on := 2, ground := Ground.phase }, { on := 3, ground := Ground.phase }, { on := 4, ground := Ground.phase }, { on := 5, ground := Ground.phase }, { on := 6, ground := Ground.phase }, { on := 7, ground := Ground.phase }, { on := 8, ground := Ground.phase }, { on := 9, ground := Ground.phase }, { on := 10, ground := Ground.phase }, { on := 11, ground := Ground.phase }, { on := 12, ground := Ground.phase }, { on := 13, ground := Ground.phase }, { on := 14, ground := Ground.phase }, { on := 15, ground := Ground.phase }, { on := 16, ground := Ground.phase }, { on := 17, ground := Ground.phase }, { on := 18, ground := Ground.phase }, { on := 19, ground := Ground.phase }, { on := 20, ground := Ground.phase }, { on := 21, ground := Ground.phase }, { on := 22, ground := Ground.phase }, { on := 23, ground := Ground.phase }, { on := 24, ground := Ground.phase }, { on := 25, ground := Ground.phase }, { on := 26, ground := Ground.phase }, { on := 27, ground := Ground.phase }, { on := 28, ground := Ground.phase }, { on := 29, ground := Ground.phase }, { on := 30, ground := Ground.phase }, { on := 31, ground := Ground.phase }], guard := none })) (v := ?_) rfl (by kernel_rfl) (by kernel_rfl) (by kernel_rfl) (fun _ _ _ h => h) (Or.inl ⟨by rfl, ?_⟩) hHb ?_
    rotate_left 1
    focus ((intro w hSw); (try dsimp only at hSw); go_simp; (try with_reducible rfl))
    try simp only [Act.put, List.setIfInBounds_toArray, List.set_cons_zero, List.set_cons_succ]
    refine wpAnyH_done (by kernel_rfl) ?_ _
    refine NoPanic.normal ?_
    go_wp2
    go_ret
    exact ⟨rfl, bstep (bstep hbw.out (below_drew' hb3)) hb4⟩

end Go.Proofs.YtncekfogdpkgmaaDoor.W
