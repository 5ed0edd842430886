/- The walk of share.split. -/
import Derived.Test.YtbmlingbohdpkaaShM
namespace Go.Proofs.Ytbmlingbohdpkaa.W
open Go.RowKit Go.Proofs.Ytbmlingbohdpkaa.M Go.Proofs.Ytbmlingbohdpkaa.B Go.Proofs.Ytbmlingbohdpkaa.H
set_option linter.unusedVariables false

def SplitOut (a : Int) (f : Nat → Int) (n : Nat) (W : World) (e : Ending) (w' : World) : Prop :=
  ∃ g : Nat, e = .returned (.slice (some ⟨g, 0, none⟩) n n) ∧ Row .i64 w' g n (parts a f n) ∧ W.heap.size ≤ g ∧ Below W.heap.size W w'
theorem infoCents : (Try.prog.info? 30).map (fun i => (i.zero, i.size, i.bytes)) = some (some (.int .i64 0), 1, 8) := by kernel_rfl
theorem infoU64 : (Try.prog.info? 50).map (fun i => (i.zero, i.size, i.bytes)) = some (some (.int .u64 0), 1, 8) := by kernel_rfl

/-- All that the second loop keeps. -/
structure Giv (a A : Int) (f : Nat → Int) (n k : Nat) (O R : Nat → Int) : Prop where
  fin : give 0 n k O R = parts a f n
  ran : ∀ i, i < n → 0 ≤ R i ∧ R i < A
  enough : (k : Int) * A ≤ sm R n
  pos : ∀ i, i < n → 0 ≤ O i ∧ O i + k ≤ a
theorem Giv.step {a A : Int} {f : Nat → Int} {n k : Nat} {O R : Nat → Int} (h : Giv a A f n (k + 1) O R) (hA : 0 < A) : Giv a A f n k (upd O (bst R n) (O (bst R n) + 1)) (upd R (bst R n) 0) := by
  obtain ⟨h1, h2⟩ := step_sum hA h.ran h.enough
  refine ⟨h.fin, h1, h2, fun i hi => ?_⟩
  have hp := h.pos i hi
  unfold upd
  split
  · subst i; omega
  · omega

theorem Row.put {k : IntKind} {w : World} {g n j : Nat} {F : Nat → Int} (h : Row k w g n fun i => if i < j then F i else 0) (hj : j < n) {v : Int} (e : F j = v) : Row k (w.setCell ⟨g, j, none⟩ (.int k v)) g n fun i => if i < j + 1 then F i else 0 :=
  (h.set hj v).congr fun i hi => by
    unfold upd
    by_cases c : i = j
    · subst c; rw [if_pos rfl, if_pos (by omega), e]
    · rw [if_neg c]
      by_cases d : i < j
      · show (if i < j then F i else 0) = _
        rw [if_pos d, if_pos (by omega)]
      · show (if i < j then F i else 0) = _
        rw [if_neg d, if_neg (by omega)]

set_option maxRecDepth 100000 in
theorem split_is (a s : Nat) (b : Option Addr) (n cap : Nat) (f : Nat → Int) (W : World) (ha : a ≤ 1125899906842624) (hx : Vec .i64 W b n cap f) (h0 : werr f n = 0) (hs : sm f n = s) :
    Calls Try.prog 22 #[.int .u64 (a : Int), .int .u64 (s : Int), .slice b n cap] W (SplitOut a f n W) := by
  obtain ⟨n0, n1, hw, s0, s1⟩ := werr_ok h0
  obtain ⟨q1, q2, q3, q4⟩ := left_law (a := (a : Int)) (by omega) (fun i hi => (hw i hi).1) s0
  have hmk1 := run_make_row' (P := Try.prog) 26 30 (.int .i64 0) 8 Try.underlying26 infoCents rfl .i64 .i64 n (by omega) (by omega)
  have hmk2 := run_make_row' (P := Try.prog) 59 50 (.int .u64 0) 8 Try.underlying59 infoU64 rfl .i64 .i64 n (by omega) (by omega)
  rw [hs] at q1 q2 q3 q4 s0 s1
  have hW := Lib.hid hw
  have Q1 := Lib.hid q1
  have Q2 := Lib.hid q2
  have Q3 := Lib.hid q3
  have Q4 := Lib.hid q4
  have hS := Lib.hid hs
  have s0' : 0 < s := by omega
  have s1' : s ≤ 72057594037927936 := by omega
  clear hw q1 q2 q3 q4 hs h0 s0 s1
  have b1 : Below W.heap.size W (W.alloc (.cells (madeCells #[.int .i64 0] n) 30)) := balloc (Below.refl _ _) _
  have b2 : Below W.heap.size W ((W.alloc (.cells (madeCells #[.int .i64 0] n) 30)).alloc (.cells (madeCells #[.int .u64 0] n) 50)) := balloc b1 _
  have r1 : Row .i64 ((W.alloc (.cells (madeCells #[.int .i64 0] n) 30)).alloc (.cells (madeCells #[.int .u64 0] n) 50)) W.heap.size n fun _ => 0 := (Row.made .i64 W n _).step (balloc (Below.refl _ _) _)
  have r2 : Row .u64 ((W.alloc (.cells (madeCells #[.int .i64 0] n) 30)).alloc (.cells (madeCells #[.int .u64 0] n) 50)) (W.alloc (.cells (madeCells #[.int .i64 0] n) 30)).heap.size n fun _ => 0 := Row.made .u64 _ n _
  rw [show (W.alloc (.cells (madeCells #[.int .i64 0] n) 30)).heap.size = W.heap.size + 1 by simp] at r2
  go_enter Try.func22, Try.ntmps22
  go_wp2_with fail
  clear hmk1 hmk2 b1
  try rw [show (W.alloc (.cells (madeCells #[.int .i64 0] n) 30)).heap.size = W.heap.size + 1 by simp]
  generalize hV : (W.alloc (.cells (madeCells #[.int .i64 0] n) 30)).alloc (.cells (madeCells #[.int .u64 0] n) 50) = V at *
  obtain ⟨G1, hG1⟩ : ∃ g, W.heap.size = g := ⟨_, rfl⟩
  obtain ⟨G2, hG2⟩ : ∃ g, G1 + 1 = g := ⟨_, rfl⟩
  have g1 : (G2 = G1) = False := eq_false (by omega)
  have g2 : (G1 = G2) = False := eq_false (by omega)
  have HG1 := Lib.hid hG1
  have HG2 := Lib.hid hG2
  rw [hG1] at r1 r2
  rw [hG2] at r2
  rw [hG1, hG2]
  clear hG1 hG2 hV
  go_loopw [9, 26] (fun s9 s26 wx => ∃ (k : Nat) (t : Int), k ≤ n ∧ s26 = .int .i64 k ∧ s9 = .int .u64 (a - t) ∧ 0 ≤ t ∧ t ≤ a ∧ Hid (sm (qq a s f) k = t) ∧ Row .i64 wx G1 n (fun i => if i < k then qq a s f i else 0) ∧ Row .u64 wx G2 n (fun i => if i < k then rr a s f i else 0) ∧ Below W.heap.size W wx) (fun _ i _ => n - (intOf i).toNat)
  case atStart => exact ⟨0, 0, Nat.zero_le _, rfl, by simp, by omega, by omega, rfl, r1.congr fun i _ => by simp, r2.congr fun i _ => by simp, b2⟩
  case round =>
    obtain ⟨k, t, hk, rfl, rfl, t0, t1, ht, hO, hR, hbel⟩ := hrel
    by_cases c : k < n
    · obtain ⟨bb, off, rfl, hbl, hcell⟩ := (hx.step hbel).at_ c
      obtain ⟨w0, w1⟩ := hW.out k c
      have hsx := sm_le n (fun i hi => (hW.out i hi).1) k c
      rw [hS.out] at hsx
      obtain ⟨x, hx'⟩ : ∃ x : Nat, f k = x := ⟨(f k).toNat, by omega⟩
      rw [hx'] at hcell w0 w1 hsx
      obtain ⟨q, hq⟩ : ∃ q, a * x / s = q := ⟨_, rfl⟩
      obtain ⟨r, hr⟩ : ∃ r, a * x % s = r := ⟨_, rfl⟩
      have hpart := Lib.hid fun W => part_is a x s q r ha s0' (by omega) (by omega) hq hr W
      have eq1 : qq a s f k = q := by unfold qq; rw [hx', ← hq]; norm_cast
      have eq2 : rr a s f k = r := by unfold rr; rw [hx', ← hr]; norm_cast
      have hsm : Hid (sm (qq a s f) (k + 1) = t + q) := by show _ = _; unfold sm; rw [ht.out, eq1]
      have htop : t + q ≤ a := by
        have h1 := sm_upto (qq a s f) (show k + 1 ≤ n by omega) Q1.out
        rw [hsm.out] at h1
        exact Int.le_trans h1 Q4.out
      have hrs : (r : Int) < s := by have := (Q2.out k c).2; rw [eq2] at this; exact this
      have q0 : 0 ≤ (q : Int) := by omega
      have O2 := (hO.drewN 0)
      have E1 := Lib.hid eq1
      have E2 := Lib.hid eq2
      clear hq hr eq1 eq2 hsx hx'
      have c1 := hO.cell k c
      have c2 := hR.cell k c
      have z1 := hO.frz k
      have z2 := hR.frz k
      go_wp2_with fail
      refine (hpart.out _).mono ?_
      rintro e w1 ⟨rfl, m, rfl⟩
      go_wp2_with fail
      go_round
      case rel =>
        exact ⟨k + 1, t + q, by omega, by go_num, by rw [Int.sub_sub], by omega, htop, hsm, ((hO.drewN m).put c E1.out).far (by simpa using g1) _, ((hR.drewN m).far (by simpa using g2) _).put c E2.out,
          ((below_drewN hbel m).setCell (Nat.le_of_eq HG1.out) _).setCell (by show _ ≤ G2; have := HG1.out; have := HG2.out; omega) _⟩
      case measure => simp [intOf]; omega
    · obtain rfl : k = n := by omega
      have hO1 : Row .i64 wr G1 k (qq a s f) := hO.congr fun i hi => if_pos hi
      have hR1 : Row .u64 wr G2 k (rr a s f) := hR.congr fun i hi => if_pos hi
      clear hO hR r1 r2 b2
      obtain ⟨L, hL⟩ : ∃ L : Nat, (a : Int) - t = L := ⟨((a : Int) - t).toNat, by omega⟩
      have hgiv : Giv a s f k L (qq a s f) (rr a s f) := by
        refine ⟨?_, Q2.out, ?_, fun i hi => ⟨Q1.out i hi, ?_⟩⟩
        · unfold parts
          rw [hS.out, ht.out, hL, Int.toNat_natCast]
        · rw [← Q3.out, ht.out, hL]; exact Int.le_refl _
        · have h1 := sm_le k Q1.out i hi
          rw [ht.out] at h1; omega
      have hLa : L ≤ a := by omega
      rw [hL]
      clear hL Q1 Q2 Q3 Q4 ht hW hS
      rename World => V2
      go_wp2_with fail
      have hgiv' := Lib.hid hgiv
      clear hgiv
      go_loopw [9] (fun s9 wx => ∃ (j : Nat) (O R : Nat → Int), j ≤ L ∧ s9 = .int .u64 (j : Int) ∧ Hid (Giv a s f k j O R) ∧ Row .i64 wx G1 k O ∧ Row .u64 wx G2 k R ∧ Below W.heap.size W wx) (fun s9 _ => (intOf s9).toNat)
      case atStart => exact ⟨L, _, _, Nat.le_refl _, rfl, hgiv', hO1, hR1, hbel⟩
      case round =>
        obtain ⟨j, O, R, hj, rfl, hG, hO, hR, hbw⟩ := hrel
        clear hbel hgiv' hO1 hR1
        rcases j with _ | j
        · go_wp2_with fail
          go_ret
          exact ⟨G1, rfl, by rw [← hG.out.fin]; exact hO, Nat.le_of_eq HG1.out, hbw⟩
        · have j1 : (0 : Int) < ((j + 1 : Nat) : Int) := by omega
          have hmax : ((j + 1 : Nat) : Int) ≤ 1125899906842624 := by omega
          go_wp2_with fail
          go_loop [14, 58] (fun s14 s58 => ∃ (i : Nat), i ≤ k ∧ s58 = .int .i64 (i : Int) ∧ s14 = .int .i64 (bst R i : Int)) (fun _ s58 => k - (intOf s58).toNat)
          case atStart => exact ⟨0, by omega, rfl, rfl⟩
          case round =>
            obtain ⟨i, hi, rfl, rfl⟩ := hrel
            have hbk : bst R i < k := by
              rcases Nat.eq_zero_or_pos i with rfl | h
              · exact n0
              · have := bst_lt R i h; omega
            by_cases c : i < k
            · have d1 := hR.cell i c
              have d2 := hR.cell _ hbk
              have e1 : bst R (i + 1) = if R (bst R i) < R i then i else bst R i := rfl
              generalize bst R i = bi at *
              generalize R bi = y at *
              generalize R i = x at *
              by_cases d : y < x
              · rw [if_pos d] at e1
                go_wp2_with fail
                go_round
                case rel => exact ⟨i + 1, by omega, by go_num, by rw [e1]⟩
                case measure => simp [intOf]; omega
              · rw [if_neg d] at e1
                go_wp2_with fail
                go_round
                case rel => exact ⟨i + 1, by omega, by go_num, by rw [e1]⟩
                case measure => simp [intOf]; omega
            · obtain rfl : i = k := by omega
              have hnx := Lib.hid (hG.out.step (by omega))
              have hO1 := hO.set hbk (O (bst R i) + 1)
              have hR1 := hR.set hbk 0
              obtain ⟨p0, p1⟩ := hG.out.pos _ hbk
              have d1 := hO.cell _ hbk
              have d2 := hR.cell _ hbk
              have z1 := hO.frz (bst R i)
              have z2 := hR.frz (bst R i)
              generalize bst R i = bi at *
              obtain ⟨y, hy⟩ : ∃ y, O bi = y := ⟨_, rfl⟩
              rw [hy] at hnx hO1 p0 p1 d1
              clear hy
              go_wp2_with fail
              go_round
              case rel =>
                exact ⟨j, _, _, by omega, by go_num, hnx, hO1.far (by simpa using g1) _, (hR.far (by simpa using g2) _).set hbk 0,
                  (hbw.setCell (Nat.le_of_eq HG1.out) _).setCell (by show _ ≤ G2; have := HG1.out; have := HG2.out; omega) _⟩
              case measure => simp [intOf]
end Go.Proofs.Ytbmlingbohdpkaa.W
