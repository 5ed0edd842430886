/- The walks of attach: the least of amounts, what is left of a total, what an order wants. -/
import Derived.Test.YtjfcbflhnfjcfaaAtC
import Derived.Test.YtjfcbflhnfjcfaaAtL
namespace Go.Proofs.Ytjfcbflhnfjcfaa.W
open Go.RowKit Go.Proofs.Ytjfcbflhnfjcfaa.M Go.Proofs.Ytjfcbflhnfjcfaa.B Go.Proofs.Ytjfcbflhnfjcfaa.S
open Go.Maps (Keyed)
set_option linter.unusedVariables false

def leastTo (xs : List Int) : Nat → Int
  | 0 => xs.getD 0 0
  | j + 1 => min2 (leastTo xs j) (xs.getD (j + 1) 0)
theorem min_is (a : Option Addr) (n cap : Nat) (xs : List Int) (m : Int) (w : World) (hx : Ints .i64 w a (n + 1) cap xs) (hm : Hid (leastTo xs n = m)) :
    Calls Try.prog 42 #[.slice a (n + 1 : Nat) cap] w fun e w' => e = .returned (.int .i64 m) ∧ w = w' := by
  have hmax : n + 1 ≤ 9223372036854775807 := by have h1 := hx.2.1; have h2 := hx.2.2.1; unfold maxLen at h2; omega
  obtain ⟨b, off, rfl, hbl, h0⟩ := hx.at_ (j := 0) (by omega)
  rw [Nat.add_zero] at h0
  obtain ⟨N, hN⟩ : ∃ N, N = n + 1 := ⟨_, rfl⟩
  rw [← hN] at hx hmax ⊢
  have N0 : 0 < N := by omega
  have hn1 : ¬ (N : Int) < 1 := by omega
  have hNn := Lib.hid hN
  clear hN
  obtain ⟨x0, hx0⟩ : ∃ x, xs.getD 0 0 = x := ⟨_, rfl⟩
  rw [hx0] at h0
  have HX := Lib.hid hx0
  clear hx0
  go_enter Try.func42, Try.ntmps42
  go_wp2_with fail
  go_loop [3, 4] (fun s3 s4 => ∃ (j : Nat) (q : Int), j < N ∧ s4 = .int .i64 (j + 1 : Nat) ∧ s3 = .int .i64 q ∧ Hid (leastTo xs j = q)) (fun _ i => N - (intOf i).toNat)
  case atStart => exact ⟨0, x0, N0, by go_num, rfl, HX.out⟩
  case round =>
    obtain ⟨j, q, hj, rfl, rfl, hq⟩ := hrel
    by_cases c : j + 1 < N
    · have cz : (j : Int) + 1 < (N : Int) := by omega
      obtain ⟨b', off', he, hbl', hcell⟩ := hx.at_ c
      injection he with he
      injection he with he1 he2
      subst he1 he2
      have wj : IntKind.i64.wrap ((j : Int) + 1 + 1) = (j : Int) + 1 + 1 := by rw [IntKind.wrap_i64]; omega
      have hs : leastTo xs (j + 1) = min2 q (xs.getD (j + 1) 0) := by show min2 _ _ = _; rw [hq.out]
      generalize xs.getD (j + 1) 0 = x at *
      by_cases cx : x < q
      · have hs' : Hid (leastTo xs (j + 1) = x) := by show _ = _; rw [hs]; unfold min2; rw [if_pos cx]
        clear hs hq
        go_wp2_with fail
        go_round
        case rel => exact ⟨j + 1, x, c, by go_num, by first | rfl | (congr 1; omega), hs'⟩
        case measure => simp [intOf]; omega
      · have hs' : Hid (leastTo xs (j + 1) = q) := by show _ = _; rw [hs]; unfold min2; rw [if_neg cx]
        clear hs hq
        go_wp2_with fail
        go_round
        case rel => exact ⟨j + 1, q, c, by go_num, by first | rfl | (congr 1; omega), hs'⟩
        case measure => simp [intOf]; omega
    · have cz : ¬ (j : Int) + 1 < (N : Int) := by omega
      have hmq : Hid (m = q) := by show _ = _; rw [← hm.out, ← hq.out]; congr 1; have := hNn.out; omega
      go_wp2_with fail
      go_ret
      exact ⟨ret_int hmq.out.symm, rfl⟩
theorem least_is (a : Option Addr) (n cap : Nat) (xs : List Int) (m : Int) (w : World) (hx : Ints .i64 w a (n + 1) cap xs) (hm : Hid (leastTo xs n = m)) :
    Calls Try.prog 26 #[.slice a (n + 1 : Nat) cap] w fun e w' => e = .returned (.int .i64 m) ∧ w = w' := by
  have hc := Lib.hid (min_is a n cap xs m w hx hm)
  clear hx hm
  go_enter Try.func26, Try.ntmps26
  go_wp2_with fail
  refine hc.out.mono ?_
  rintro e w' ⟨rfl, rfl⟩
  go_wp2_with fail
  go_ret
  exact ⟨rfl, rfl⟩

/-- What a map of sums reads as. -/
def ReadP (w : World) (mo : Option Nat) (g : Mp) : Prop := ∀ wx, Below w.heap.size w wx → ∀ s : ByteArray, s.size ≤ 9223372036854775807 →
  (Instr.lookup 29 (.map mo) (.string s) false).run Try.prog wx = .ok (.int .i64 (was g s)) wx ∧
  (Instr.lookup 29 (.map mo) (.string s) true).run Try.prog wx = .ok (.tuple #[.int .i64 (was g s), .bool (g s).isSome]) wx
theorem ReadP.step {w w' : World} {mo : Option Nat} {g : Mp} (h : ReadP w mo g) (hb : Below w.heap.size w w') : ReadP w' mo g := fun wx hx s hs => h wx (bstep hb hx) s hs

theorem left_is (mo : Option Nat) (g : Mp) (x : Ord) (v : Int) (hv : Hid (leftP (was g x.code) x.total = v)) (W : World) (hg : ReadP W mo g) (hx : okO x) (hw : I64 (was g x.code)) :
    Calls Try.prog 22 #[.map mo, oval x] W fun e w' => e = .returned (.int .i64 v) ∧ Below W.heap.size W w' := by
  obtain ⟨s, r, q, f, p, t⟩ := x
  obtain ⟨k0, k1, k2, k3, k4, k5⟩ := hx
  unfold oval
  simp only at *
  unfold I64 at *
  have hB1 := balloc (Below.refl W.heap.size W) (.cells #[.string s, .int .i64 r, .int .i64 q, .int .i64 f, .int .i64 p, .int .i64 t] 43)
  have hlk := (hg _ hB1 s k0).1
  have HB1 := Lib.hid hB1
  clear hg hB1
  generalize was g s = w at *
  by_cases c0 : t = 0
  · have hv' : Hid (v = 1125899906842624) := by show _ = _; rw [← hv.out]; unfold leftP; rw [if_pos c0]
    subst c0
    clear hv hlk
    go_enter Try.func22, Try.ntmps22
    go_wp2_with fail
    go_ret
    exact ⟨ret_int hv'.out.symm, HB1.out⟩
  · have c0' : decide (t = 0) = false := decide_eq_false c0
    have c0'' : (t == 0) = false := by rw [beq_eq_false_iff_ne]; exact c0
    obtain ⟨tk, htk⟩ : ∃ z : Int, (if w < 0 then 0 else w) = z := ⟨_, rfl⟩
    have t0 : 0 ≤ tk ∧ tk ≤ 9223372036854775807 := by rw [← htk]; split <;> omega
    have hv2 : Hid ((if t < tk then 0 else if 1125899906842624 < t - tk then 1125899906842624 else t - tk) = v) := by
      show _ = _; rw [← hv.out]; unfold leftP; rw [if_neg c0]; simp only [htk]
    clear hv
    have main : ∀ (wx : World), Below W.heap.size W wx → True := fun _ _ => trivial
    clear main
    by_cases cw : w < 0
    · have htk0 : tk = 0 := by rw [← htk, if_pos cw]
      subst htk0
      clear htk
      by_cases ct : t < 0
      · have hv' : Hid (v = 0) := by show _ = _; rw [← hv2.out, if_pos ct]
        go_enter Try.func22, Try.ntmps22
        go_wp2_with fail
        go_ret
        exact ⟨ret_int hv'.out.symm, HB1.out⟩
      · have hx2 := Ints.made (k := .i64) (w := W.alloc (.cells #[.string s, .int .i64 r, .int .i64 q, .int .i64 f, .int .i64 p, .int .i64 t] 43)) [t, 1125899906842624] 22 (show 2 ≤ maxLen by decide)
        have hl := least_is _ 1 2 _ v _ hx2 (by
          show _ = _
          rw [← hv2.out, if_neg ct]
          show min2 t 1125899906842624 = _
          unfold min2
          simp only [Int.sub_zero])
        rw [show (W.alloc (.cells #[.string s, .int .i64 r, .int .i64 q, .int .i64 f, .int .i64 p, .int .i64 t] 43)).heap.size = W.heap.size + 1 from by simp] at hl
        have HL := Lib.hid hl
        clear hx2 hl hv2
        have ws : IntKind.i64.wrap t = t := IntWalk.i64_in _ (by omega)
        go_enter Try.func22, Try.ntmps22
        go_wp2_with fail
        refine HL.out.mono ?_
        rintro e w' ⟨rfl, rfl⟩
        go_wp2_with fail
        go_ret
        exact ⟨rfl, balloc HB1.out _⟩
    · have htk0 : tk = w := by rw [← htk, if_neg cw]
      subst htk0
      clear htk
      by_cases ct : t < tk
      · have hv' : Hid (v = 0) := by show _ = _; rw [← hv2.out, if_pos ct]
        go_enter Try.func22, Try.ntmps22
        go_wp2_with fail
        go_ret
        exact ⟨ret_int hv'.out.symm, HB1.out⟩
      · have hx2 := Ints.made (k := .i64) (w := W.alloc (.cells #[.string s, .int .i64 r, .int .i64 q, .int .i64 f, .int .i64 p, .int .i64 t] 43)) [t - tk, 1125899906842624] 22 (show 2 ≤ maxLen by decide)
        have hl := least_is _ 1 2 _ v _ hx2 (by
          show _ = _
          rw [← hv2.out, if_neg ct]
          rfl)
        rw [show (W.alloc (.cells #[.string s, .int .i64 r, .int .i64 q, .int .i64 f, .int .i64 p, .int .i64 t] 43)).heap.size = W.heap.size + 1 from by simp] at hl
        have HL := Lib.hid hl
        clear hx2 hl hv2
        have ws : IntKind.i64.wrap (t - tk) = t - tk := IntWalk.i64_in _ (by omega)
        go_enter Try.func22, Try.ntmps22
        go_wp2_with fail
        refine HL.out.mono ?_
        rintro e w' ⟨rfl, rfl⟩
        go_wp2_with fail
        go_ret
        exact ⟨rfl, balloc HB1.out _⟩

theorem wants_is (net : Int) (x : Ord) (v : Int) (hv : Hid (wants net x = v)) (W : World) (hn : fit net) (hx : rngO x) :
    Calls Try.prog 27 #[.int .i64 net, oval x] W fun e w' => e = .returned (.int .i64 v) ∧ Below W.heap.size W w' := by
  obtain ⟨s, r, q, f, p, t⟩ := x
  obtain ⟨_, _, q0, q1, f0, _, _⟩ := hx
  unfold oval
  simp only at *
  unfold fit at hn
  have HB1 := Lib.hid (balloc (Below.refl W.heap.size W) (.cells #[.string s, .int .i64 r, .int .i64 q, .int .i64 f, .int .i64 p, .int .i64 t] 43))
  by_cases cf : f = 0
  · have hv2 : Hid (rnd (if net < 0 then 0 else net) q = v) := by show _ = _; rw [← hv.out]; unfold wants; simp only; rw [if_neg (show ¬ f ≠ 0 from by simpa using cf)]
    subst cf
    clear hv
    by_cases cn : net < 0
    · rw [if_pos cn] at hv2
      have ho := Lib.hid (fun W => of_half 0 q (by omega) (by omega) q0 q1 v hv2 W)
      clear hv2
      go_enter Try.func27, Try.ntmps27
      go_wp2_with fail
      refine (ho.out _).mono ?_
      rintro e w' ⟨rfl, n, rfl⟩
      go_wp2_with fail
      go_ret
      exact ⟨rfl, below_drewN HB1.out _⟩
    · rw [if_neg cn] at hv2
      have ho := Lib.hid (fun W => of_half net q (by omega) (by omega) q0 q1 v hv2 W)
      clear hv2
      go_enter Try.func27, Try.ntmps27
      go_wp2_with fail
      refine (ho.out _).mono ?_
      rintro e w' ⟨rfl, n, rfl⟩
      go_wp2_with fail
      go_ret
      exact ⟨rfl, below_drewN HB1.out _⟩
  · have hv2 : Hid (v = f) := by show _ = _; rw [← hv.out]; unfold wants; rw [if_pos cf]
    have c1 : (f != 0) = true := by rw [bne_iff_ne]; exact cf
    clear hv
    go_enter Try.func27, Try.ntmps27
    go_wp2_with fail
    go_ret
    exact ⟨ret_int hv2.out.symm, HB1.out⟩
end Go.Proofs.Ytjfcbflhnfjcfaa.W
