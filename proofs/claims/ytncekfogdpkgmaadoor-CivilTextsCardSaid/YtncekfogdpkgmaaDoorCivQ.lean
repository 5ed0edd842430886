/- The walk of the reference's Text. -/
import Derived.Test.YtncekfogdpkgmaaDoorCivR
import Derived.Test.YtncekfogdpkgmaaDoorCivOp
import Derived.Deep.RegionHeld3
namespace Go.Proofs.YtncekfogdpkgmaaDoor.W
open Go.RowKit Go.Proofs.YtncekfogdpkgmaaDoor.M

theorem two_any (n : Int) (w : World) (h0 : 0 ≤ n) (h1 : n ≤ 99) :
    Calls Tryd.prog 35 #[.int .i64 n] w fun e w' => e = .returned (.string ⟨([db (n / 10), db (n % 10)] : List UInt8).toArray⟩) ∧ Below w.heap.size w w' := by
  have d0 := db_toNat (n / 10) (by omega) (by omega)
  have d1 := db_toNat (n % 10) (by omega) (by omega)
  have hcv := run_convert_bytes_back (P := Tryd.prog) (w.alloc (.cells #[.int .u8 (48 + n / 10), .int .u8 (48 + n % 10)] 5)) 59 9 5 ⟨w.heap.size, 0, none⟩ 2 [db (n / 10), db (n % 10)] Tryd.underlying59 Tryd.underlying5 Tryd.underlying9 (by
    intro j hj
    match j, hj with
    | 0, _ => simp [Addr.add, d0]
    | 1, _ => simp [Addr.add, d1])
  have e : ([db (n / 10), db (n % 10)] : List UInt8).length = 2 := rfl
  rw [e] at hcv
  clear e d0 d1
  go_enter Tryd.func35, Tryd.ntmps35
  go_wp2_with fail
  go_ret
  exact ⟨rfl, balloc (Below.refl _ _) _⟩

theorem two_dig (y : Int) (h0 : 0 ≤ y) (h1 : y ≤ 9999) : ([db (y / 100 / 10), db (y / 100 % 10)] : List UInt8) ++ [db (y % 100 / 10), db (y % 10)] = dig y 4 := by
  rw [dig4]
  simp only [List.cons_append, List.nil_append]
  rw [show y / 100 / 10 = y / 10 / 10 / 10 % 10 from by omega, show y / 100 % 10 = y / 10 / 10 % 10 from by omega, show y % 100 / 10 = y / 10 % 10 from by omega]
theorem two_dig2 (y : Int) (h0 : 0 ≤ y) (h1 : y ≤ 99) : ([db (y / 10), db (y % 10)] : List UInt8) = dig y 2 := by
  rw [dig2, show y / 10 % 10 = y / 10 from by omega]

theorem held3_next {w w' : World} {B : Nat} {u v x : Value} (h : B < w.heap.size ∧ w.cell? ⟨B, 0, none⟩ = some u ∧ w.cell? ⟨B, 1, none⟩ = some v ∧ w.cell? ⟨B, 2, none⟩ = some x) (hb : Below w.heap.size w w') :
    B < w'.heap.size ∧ w'.cell? ⟨B, 0, none⟩ = some u ∧ w'.cell? ⟨B, 1, none⟩ = some v ∧ w'.cell? ⟨B, 2, none⟩ = some x :=
  ⟨Nat.lt_of_lt_of_le h.1 hb.size, bc hb h.1 h.2.1, bc hb h.1 h.2.2.1, bc hb h.1 h.2.2.2⟩

set_option maxHeartbeats 1000000 in
theorem rtext (d y m k : Int) (w : World) (hv : Cal.Valid y m k) (hd : Cal.day y m k = d) :
    Calls Tryd.prog 26 #[.int .i64 d] w fun e w' => e = .returned (.string ⟨(textL y m k).toArray⟩) ∧ Below w.heap.size w w' := by
  have hl := Cal.len_bd y m
  have hto := Lib.hid (rto d y m k w hv hd)
  obtain ⟨y0, y1, m0, m1, k0, k1⟩ := hv
  have HD := Lib.hid hd
  clear hd
  have hT : Hid ((⟨([db (y / 100 / 10), db (y / 100 % 10)] : List UInt8).toArray⟩ : ByteArray) ++ ⟨([db (y % 100 / 10), db (y % 10)] : List UInt8).toArray⟩ ++ ⟨#[45]⟩ ++ ⟨([db (m / 10), db (m % 10)] : List UInt8).toArray⟩ ++ ⟨#[45]⟩ ++ ⟨([db (k / 10), db (k % 10)] : List UInt8).toArray⟩ = ⟨(textL y m k).toArray⟩) := by
    show _ = _
    have h4 : (⟨([db (y / 100 / 10), db (y / 100 % 10)] : List UInt8).toArray⟩ : ByteArray) ++ ⟨([db (y % 100 / 10), db (y % 10)] : List UInt8).toArray⟩ = ⟨(dig y 4).toArray⟩ := by
      rw [app_str, two_dig y (by omega) (by omega)]
    rw [h4, two_dig2 m (by omega) (by omega), two_dig2 k (by omega) (by omega), textL, ← app_str, ← app_str, ← app_str, ← app_str]
  go_enter Tryd.func26, Tryd.ntmps26
  go_wp2_with fail
  refine hto.out.mono ?_
  clear hto
  rintro e w1 ⟨rfl, hb1⟩
  have h0 : w1.heap.size < (w1.alloc (.cells #[.int .i64 y, .int .i64 m, .int .i64 k] 30)).heap.size ∧ (w1.alloc (.cells #[.int .i64 y, .int .i64 m, .int .i64 k] 30)).cell? ⟨w1.heap.size, 0, none⟩ = some (.int .i64 y) ∧
      (w1.alloc (.cells #[.int .i64 y, .int .i64 m, .int .i64 k] 30)).cell? ⟨w1.heap.size, 1, none⟩ = some (.int .i64 m) ∧ (w1.alloc (.cells #[.int .i64 y, .int .i64 m, .int .i64 k] 30)).cell? ⟨w1.heap.size, 2, none⟩ = some (.int .i64 k) := ⟨by simp, by simp, by simp, by simp⟩
  have hbW := Lib.hid (balloc hb1 (.cells #[.int .i64 y, .int .i64 m, .int .i64 k] 30))
  clear hb1
  go_wp2_with fail
  generalize w1.alloc (.cells #[.int .i64 y, .int .i64 m, .int .i64 k] 30) = W at *
  generalize hB : w1.heap.size = B at *
  clear hB
  have q0 : 0 ≤ y / 100 := by omega
  have q1 : y / 100 ≤ 99 := by omega
  have q2 : 0 ≤ y % 100 := by omega
  have q3 : y % 100 ≤ 99 := by omega
  have s1 : y.tdiv 100 = y / 100 := Int.tdiv_eq_ediv_of_nonneg (by omega)
  have s2 : IntKind.i64.wrap (y / 100) = y / 100 := IntWalk.i64_in _ (by omega)
  have s3 : y.tmod 100 = y % 100 := Int.tmod_eq_emod_of_nonneg (by omega)
  go_region_held3 (fun w' => B < w'.heap.size ∧ w'.cell? ⟨B, 0, none⟩ = some (.int .i64 y) ∧ w'.cell? ⟨B, 1, none⟩ = some (.int .i64 m) ∧ w'.cell? ⟨B, 2, none⟩ = some (.int .i64 k))
    (first | exact h0 | exact held3_next (by assumption) (by assumption))
    (first
      | (go_at_call 35; refine (two_any _ _ (by omega) (by omega)).mono ?_; rintro e w2 ⟨rfl, hb2⟩))
  clear s1 s2 s3
  go_wp2
  go_ret
  refine ⟨ret_str hT.out, ?_⟩
  refine bstep ?_ (by assumption)
  refine bstep ?_ (by assumption)
  refine bstep ?_ (by assumption)
  refine bstep ?_ (by assumption)
  exact hbW.out.drew
end Go.Proofs.YtncekfogdpkgmaaDoor.W
