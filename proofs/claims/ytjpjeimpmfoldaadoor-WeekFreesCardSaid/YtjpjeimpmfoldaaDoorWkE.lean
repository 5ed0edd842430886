/- Two weeks, compared. -/
import Derived.Test.YtjpjeimpmfoldaaDoorWkD
import Derived.Laws.StructEq
import Derived.ChangeKeysEq
namespace Go.Proofs.YtjpjeimpmfoldaaDoor.W
open Go.RowKit Go.Proofs.YtjpjeimpmfoldaaDoor.M Go.Proofs.YtjpjeimpmfoldaaDoor.WL

/-- The same seven numbers? -/
def same7 (x y : Nat → Int) : Bool := (x 0 == y 0) && (x 1 == y 1) && (x 2 == y 2) && (x 3 == y 3) && (x 4 == y 4) && (x 5 == y 5) && (x 6 == y 6)
theorem same7_true {x y : Nat → Int} (h : ∀ i, i < 7 → x i = y i) : same7 x y = true := by
  unfold same7
  rw [h 0 (by omega), h 1 (by omega), h 2 (by omega), h 3 (by omega), h 4 (by omega), h 5 (by omega), h 6 (by omega)]
  simp
theorem of_same7 {x y : Nat → Int} (h : same7 x y = true) : ∀ i, i < 7 → x i = y i := by
  unfold same7 at h
  simp only [Bool.and_eq_true, beq_iff_eq] at h
  intro i hi
  rcases (by omega : i = 0 ∨ i = 1 ∨ i = 2 ∨ i = 3 ∨ i = 4 ∨ i = 5 ∨ i = 6) with rfl | rfl | rfl | rfl | rfl | rfl | rfl <;> simp [h]

theorem part_int (xs : Array Value) (i : Nat) (v : Value) (h : xs[i]? = some v) (w : World) : (part 3 xs i).run Tryd.prog w = .ok v w := by
  have a := Tryd.isAgg3
  have z := Tryd.sizeOf3
  go_simp
theorem items_cons (xs ys : Array Value) (i : Nat) (is : List Nat) (a b : Int) (w : World) (ha : xs[i]? = some (.int .i64 a)) (hb : ys[i]? = some (.int .i64 b)) :
    (Op.eqItems 9999 3 1 xs ys (i :: is)).run Tryd.prog w = if (a == b) = true then (Op.eqItems 9999 3 1 xs ys is).run Tryd.prog w else .ok false w := by
  have e : (Op.equalIn 9999 3 (.int .i64 a) (.int .i64 b)).run Tryd.prog w = .ok (a == b) w := run_equalIn_int w 9998 3 .i64 .i64 a b Tryd.underlying3
  simp only [Op.eqItems, Sem.run_bind, Nat.mul_one, part_int xs i _ ha, part_int ys i _ hb, Result.andThen_ok, e]
  cases a == b <;> simp
theorem items_nil (xs ys : Array Value) (w : World) : (Op.eqItems 9999 3 1 xs ys []).run Tryd.prog w = .ok true w := by simp [Op.eqItems]

theorem eql_week (x y : Nat → Int) (w : World) : (binOp .eql 23 (.agg #[.int .i64 (x 0), .int .i64 (x 1), .int .i64 (x 2), .int .i64 (x 3), .int .i64 (x 4), .int .i64 (x 5), .int .i64 (x 6)]) (.agg #[.int .i64 (y 0), .int .i64 (y 1), .int .i64 (y 2), .int .i64 (y 3), .int .i64 (y 4), .int .i64 (y 5), .int .i64 (y 6)])).run Tryd.prog w = .ok (.bool (same7 x y)) w := by
  obtain ⟨i0, hi, _⟩ := info_parts (show (Tryd.prog.info? 3).map (fun i => (i.zero, i.size, i.bytes)) = some (some (.int .i64 0), 1, 8) by kernel_rfl)
  rw [run_eql_struct, show (10000 : Nat) = 9999 + 1 from rfl, run_equalIn_array w 9999 _ _ Tryd.underlying23 hi]
  rw [show Tryd.prog.cellsOf 3 = 1 from by kernel_rfl, show List.range 7 = [0, 1, 2, 3, 4, 5, 6] from rfl]
  rw [items_cons _ _ 0 _ (x 0) (y 0) _ rfl rfl]
  rw [items_cons _ _ 1 _ (x 1) (y 1) _ rfl rfl]
  rw [items_cons _ _ 2 _ (x 2) (y 2) _ rfl rfl]
  rw [items_cons _ _ 3 _ (x 3) (y 3) _ rfl rfl]
  rw [items_cons _ _ 4 _ (x 4) (y 4) _ rfl rfl]
  rw [items_cons _ _ 5 _ (x 5) (y 5) _ rfl rfl]
  rw [items_cons _ _ 6 _ (x 6) (y 6) _ rfl rfl]
  rw [items_nil]
  unfold same7
  cases x 0 == y 0 <;> cases x 1 == y 1 <;> cases x 2 == y 2 <;> cases x 3 == y 3 <;> cases x 4 == y 4 <;> cases x 5 == y 5 <;> cases x 6 == y 6 <;> rfl
theorem eql_arr (x y : Nat → Int) (w : World) : (binOp .eql 22 (.agg #[.int .i64 (x 0), .int .i64 (x 1), .int .i64 (x 2), .int .i64 (x 3), .int .i64 (x 4), .int .i64 (x 5), .int .i64 (x 6)]) (.agg #[.int .i64 (y 0), .int .i64 (y 1), .int .i64 (y 2), .int .i64 (y 3), .int .i64 (y 4), .int .i64 (y 5), .int .i64 (y 6)])).run Tryd.prog w = .ok (.bool (same7 x y)) w := by
  obtain ⟨i0, hi, _⟩ := info_parts (show (Tryd.prog.info? 3).map (fun i => (i.zero, i.size, i.bytes)) = some (some (.int .i64 0), 1, 8) by kernel_rfl)
  rw [run_eql_struct, show (10000 : Nat) = 9999 + 1 from rfl, run_equalIn_array w 9999 _ _ Tryd.underlying22 hi]
  rw [show Tryd.prog.cellsOf 3 = 1 from by kernel_rfl, show List.range 7 = [0, 1, 2, 3, 4, 5, 6] from rfl]
  rw [items_cons _ _ 0 _ (x 0) (y 0) _ rfl rfl]
  rw [items_cons _ _ 1 _ (x 1) (y 1) _ rfl rfl]
  rw [items_cons _ _ 2 _ (x 2) (y 2) _ rfl rfl]
  rw [items_cons _ _ 3 _ (x 3) (y 3) _ rfl rfl]
  rw [items_cons _ _ 4 _ (x 4) (y 4) _ rfl rfl]
  rw [items_cons _ _ 5 _ (x 5) (y 5) _ rfl rfl]
  rw [items_cons _ _ 6 _ (x 6) (y 6) _ rfl rfl]
  rw [items_nil]
  unfold same7
  cases x 0 == y 0 <;> cases x 1 == y 1 <;> cases x 2 == y 2 <;> cases x 3 == y 3 <;> cases x 4 == y 4 <;> cases x 5 == y 5 <;> cases x 6 == y 6 <;> rfl
theorem eql_zero (x : Nat → Int) (w : World) : (binOp .eql 23 (.agg #[.int .i64 (x 0), .int .i64 (x 1), .int .i64 (x 2), .int .i64 (x 3), .int .i64 (x 4), .int .i64 (x 5), .int .i64 (x 6)]) (.agg #[.int .i64 0, .int .i64 0, .int .i64 0, .int .i64 0, .int .i64 0, .int .i64 0, .int .i64 0])).run Tryd.prog w = .ok (.bool (same7 x (fun _ => 0))) w := eql_week x (fun _ => 0) w
end Go.Proofs.YtjpjeimpmfoldaaDoor.W
