/- attach.Sort's closure, and the sort's texts as this program has them. -/
import Derived.Test.YtjfcbflhnfjcfaaAtWD
import Derived.Test.YtjfcbflhnfjcfaaAtWE
import Derived.StillTailTactics
namespace Go.Proofs.Ytjfcbflhnfjcfaa.Z
open Go.Proofs Go.Shelf
/-- The numbers of the insertion sort's text in this program. -/
def insRen : Ren := ⟨fun n => if n = 20 then 56 else n, fun n => if n = 0 then 0 else if n = 3 then 3 else if n = 4 then 4 else if n = 22 then 24 else if n = 24 then 43 else if n = 25 then 69 else n, fun n => n⟩
theorem insAt : SlLaysF0.n20 Try.prog insRen where
  mixed := by kernel_rfl
  f20 := ⟨Try.f56.name, by kernel_rfl, Try.func56.trans (congrArg some (by kernel_rfl))⟩
  t0 := Try.underlying0
  a0 := Try.isAgg0
  z0 := Try.sizeOf0
  v0 := Try.zeroValue0
  t3 := Try.underlying3
  a3 := Try.isAgg3
  z3 := Try.sizeOf3
  v3 := Try.zeroValue3
  t4 := Try.underlying4
  a4 := Try.isAgg4
  z4 := Try.sizeOf4
  v4 := Try.zeroValue4
  t22 := Try.underlying24
  a22 := Try.isAgg24
  z22 := Try.sizeOf24
  v22 := Try.zeroValue24
  t25 := Try.underlying69
  a25 := Try.isAgg69
  z25 := Try.sizeOf69
  v25 := Try.zeroValue69
end Go.Proofs.Ytjfcbflhnfjcfaa.Z
namespace Go.Proofs.Ytjfcbflhnfjcfaa.W
open Go.RowKit Go.Lib Go.Sort Go.Proofs.Ytjfcbflhnfjcfaa.M Go.Proofs.Ytjfcbflhnfjcfaa.B Go.Proofs.Ytjfcbflhnfjcfaa.S
set_option linter.unusedVariables false

theorem lay6 : Z.Lay Try.prog 6 where
  mixed := Z.insAt.mixed
  t0 := Try.underlying0
  a0 := Try.isAgg0
  z0 := Try.sizeOf0
  v0 := Try.zeroValue0
  t3 := Try.underlying3
  a3 := Try.isAgg3
  z3 := Try.sizeOf3
  v3 := Try.zeroValue3
  t4 := Try.underlying4
  a4 := Try.isAgg4
  z4 := Try.sizeOf4
  v4 := Try.zeroValue4
  t24 := Try.underlying24
  a24 := Try.isAgg24
  z24 := Try.sizeOf24
  v24 := Try.zeroValue24
  t69 := Try.underlying69
  a69 := Try.isAgg69
  z69 := Try.sizeOf69
  v69 := Try.zeroValue69
  t93 := Try.underlying93
  a93 := Try.isAgg93
  z93 := Try.sizeOf93
  v93 := Try.zeroValue93
  aE := Try.isAgg43
  zE := Try.sizeOf43
  fs := Try.func66
  fr := Try.func60
  fm := Try.func57
  ft := Try.func46

theorem two0 (V : World) (a b : Value) (E : TypeId) {n : Nat} (h : n = V.heap.size) : (V.alloc (.cells #[a, b] E)).cell? ⟨n, 0, none⟩ = some a := by
  rw [World.cell?_alloc_at _ _ _ _ h]; rfl
theorem two1 (V : World) (a b : Value) (E : TypeId) {n : Nat} (h : n = V.heap.size) : (V.alloc (.cells #[a, b] E)).cell? ⟨n, 1, none⟩ = some b := by
  rw [World.cell?_alloc_at _ _ _ _ h]; rfl
set_option maxRecDepth 100000 in
set_option maxHeartbeats 400000 in
/-- The closure: which order is served ahead; it lays blocks of its own. -/
theorem sort1_is (x y : Ord) (W : World) : Calls Try.prog 35 #[oval x, oval y] W fun e w' => e = .returned (.int .i64 (cmpO x y)) ∧ ∃ q os', w' = grow (W.drewN q) os' := by
  rcases x with ⟨c1, r1, q1, f1, p1, t1⟩
  rcases y with ⟨c2, r2, q2, f2, p2, t2⟩
  have hO := cmpO_is ⟨c1, r1, q1, f1, p1, t1⟩ ⟨c2, r2, q2, f2, p2, t2⟩
  rw [← hO]
  unfold oval
  have hI := Lib.hid (fun W => (cmpI_is r1 r2 W).mono (R' := fun e w' => e = .returned (.int .i64 (cmpI r1 r2)) ∧ w' = W) (fun _ _ h => ⟨h.1, h.2.symm⟩))
  have hS := Lib.hid (fun W => (cmpS_is c1 c2 W).mono (R' := fun e w' => e = .returned (.int .i64 (cmpS c1 c2)) ∧ w' = W) (fun _ _ h => ⟨h.1, h.2.symm⟩))
  simp only
  clear hO
  generalize cmpI r1 r2 = a at *
  generalize cmpS c1 c2 = b at *
  have hor := fun bl W d0 d1 => or_is bl a b W d0 d1
  generalize (if a ≠ 0 then a else b) = r at *
  have hR := Lib.hid hor
  clear hor
  go_enter Try.func35, Try.ntmps35
  go_wp2_with fail
  have x0 : ((W.alloc (.cells #[.string c1, .int .i64 r1, .int .i64 q1, .int .i64 f1, .int .i64 p1, .int .i64 t1] 43)).alloc (.cells #[.string c2, .int .i64 r2, .int .i64 q2, .int .i64 f2, .int .i64 p2, .int .i64 t2] 43)).cell? ⟨W.heap.size, 0, none⟩ = some (.string c1) := by simp
  have x1 : ((W.alloc (.cells #[.string c1, .int .i64 r1, .int .i64 q1, .int .i64 f1, .int .i64 p1, .int .i64 t1] 43)).alloc (.cells #[.string c2, .int .i64 r2, .int .i64 q2, .int .i64 f2, .int .i64 p2, .int .i64 t2] 43)).cell? ⟨W.heap.size, 1, none⟩ = some (.int .i64 r1) := by simp
  have y0 : ((W.alloc (.cells #[.string c1, .int .i64 r1, .int .i64 q1, .int .i64 f1, .int .i64 p1, .int .i64 t1] 43)).alloc (.cells #[.string c2, .int .i64 r2, .int .i64 q2, .int .i64 f2, .int .i64 p2, .int .i64 t2] 43)).cell? ⟨W.heap.size + 1, 0, none⟩ = some (.string c2) := by simp
  have y1 : ((W.alloc (.cells #[.string c1, .int .i64 r1, .int .i64 q1, .int .i64 f1, .int .i64 p1, .int .i64 t1] 43)).alloc (.cells #[.string c2, .int .i64 r2, .int .i64 q2, .int .i64 f2, .int .i64 p2, .int .i64 t2] 43)).cell? ⟨W.heap.size + 1, 1, none⟩ = some (.int .i64 r2) := by simp
  have hV : Hid (∃ os, (W.alloc (.cells #[.string c1, .int .i64 r1, .int .i64 q1, .int .i64 f1, .int .i64 p1, .int .i64 t1] 43)).alloc (.cells #[.string c2, .int .i64 r2, .int .i64 q2, .int .i64 f2, .int .i64 p2, .int .i64 t2] 43) = grow W os) := ⟨_, by rw [alloc_eq_grow, alloc_eq_grow, grow_grow]⟩
  generalize (W.alloc (.cells #[.string c1, .int .i64 r1, .int .i64 q1, .int .i64 f1, .int .i64 p1, .int .i64 t1] 43)).alloc (.cells #[.string c2, .int .i64 r2, .int .i64 q2, .int .i64 f2, .int .i64 p2, .int .i64 t2] 43) = V at *
  go_still_tail 10, (by kernel_rfl)
  still_call (hI.out _)
  repeat still_step
  still_call (hS.out _)
  repeat still_step
  refine wpStill_nil ?_
  change wpList _ _ _ _ _ V.drew
  have hV' : Hid (∃ q os, V.drew = grow (W.drewN q) os) := by
    obtain ⟨os, h⟩ := hV.out
    exact ⟨1, os, by rw [h]; rfl⟩
  clear x0 x1 y0 y1 hV
  generalize V.drew = V2 at *
  go_wp2_with (go_at_call 36; refine (hR.out _ _ (two0 _ _ _ _ rfl) (two1 _ _ _ _ rfl)).mono ?_; rintro e w' ⟨rfl, rfl⟩)
  go_ret
  obtain ⟨q, os, h⟩ := hV'.out
  exact ⟨rfl, q, _, by rw [h, alloc_eq_grow, grow_grow]⟩

/-- The comparison, by the places in the list as it came. -/
def encS (S : Nat → Ord) (i : Nat) : List Value := ocells (S i)
def cfS (S : Nat → Ord) (i j : Nat) : Int := cmpO (S i) (S j)
theorem encS_len (S : Nat → Ord) (i : Nat) : (encS S i).length = 6 := rfl
theorem encS_one (S : Nat → Ord) (i : Nat) : ∀ v ∈ encS S i, v.oneCell' = true := by
  intro v hv
  simp [encS, ocells] at hv
  rcases hv with rfl | rfl | rfl | rfl | rfl | rfl <;> rfl
theorem ltOf_S (S : Nat → Ord) : ltOf (cfS S) = aheadAt S := by
  funext i j
  exact cmpO_ahead (S i) (S j)
theorem cmpLays_S (S : Nat → Ord) (blk off size : Nat) (w : World) : CmpLays Try.prog 35 #[] (encS S) 6 (cfS S) blk off size w :=
  fun _ _ _ _ i j => sort1_is (S i) (S j) _
end Go.Proofs.Ytjfcbflhnfjcfaa.W
