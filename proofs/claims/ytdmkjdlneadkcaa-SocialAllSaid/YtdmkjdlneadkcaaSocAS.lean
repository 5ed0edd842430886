/- SocialAll: the sums before, and what the law's helpers find. -/
import Derived.Test.YtdmkjdlneadkcaaSocXC
import Derived.Test.YtdmkjdlneadkcaaSocXO
import Derived.BigQuiet
import Derived.Deep.DeepCutAuto
namespace Go.Proofs.Ytdmkjdlneadkcaa.W
open Go.RowKit Go.Proofs.Ytdmkjdlneadkcaa.M Go.Proofs.Ytdmkjdlneadkcaa.B Go.Proofs.Ytdmkjdlneadkcaa.S
set_option linter.unusedVariables false

/-- The sums before: the last one told at each code, of the first i. -/
def gm (cs : Nat → ByteArray) (sm : Nat → Sm) : Nat → ByteArray → Option Sm
  | 0 => fun _ => none
  | i + 1 => upd (gm cs sm i) (cs i) (sm i)
def gn (cs : Nat → ByteArray) (sm : Nat → Sm) : Nat → Nat
  | 0 => 0
  | i + 1 => more (gm cs sm i) (cs i) (gn cs sm i)
theorem gn_le (cs : Nat → ByteArray) (sm : Nat → Sm) : ∀ i, gn cs sm i ≤ i
  | 0 => Nat.le_refl _
  | i + 1 => by have := gn_le cs sm i; unfold gn more; split <;> omega
def okM (x : Sm) : Prop := I64 x.1 ∧ I64 x.2.1 ∧ I64 x.2.2.1 ∧ I64 x.2.2.2
theorem okM_zero : okM (0, 0, 0, 0) := ⟨show I64 (0 : Int) from (by unfold I64; omega), show I64 (0 : Int) from (by unfold I64; omega), show I64 (0 : Int) from (by unfold I64; omega), show I64 (0 : Int) from (by unfold I64; omega)⟩
theorem gm_ok (cs : Nat → ByteArray) (sm : Nat → Sm) (t : ByteArray) : ∀ i, (∀ j, j < i → okM (sm j)) → okM ((gm cs sm i t).getD (0, 0, 0, 0))
  | 0, _ => okM_zero
  | i + 1, h => by
    unfold gm upd
    by_cases c : t = cs i
    · rw [if_pos c]; exact h i (by omega)
    · rw [if_neg c]; exact gm_ok cs sm t i (fun j hj => h j (by omega))
theorem gm_at (cs : Nat → ByteArray) (sm : Nat → Sm) : ∀ m i, i < m → (gm cs sm m (cs i)).isSome = true
  | 0, i, h => absurd h (by omega)
  | m + 1, i, h => by
    unfold gm upd
    by_cases c : cs i = cs m
    · rw [if_pos c]; rfl
    · rw [if_neg c]; exact gm_at cs sm m i (by
        rcases Nat.lt_or_ge i m with h1 | h1
        · exact h1
        · obtain rfl : i = m := by omega
          exact absurd rfl c)
theorem gm_step (cs : Nat → ByteArray) (sm : Nat → Sm) (t : ByteArray) (i : Nat) : gm cs sm (i + 1) t = if t = cs i then some (sm i) else gm cs sm i t := rfl

/-- The cells of sums, of a text. -/
def mcells (x : Sm) : List Value := [.int .i64 x.1, .int .i64 x.2.1, .int .i64 x.2.2.1, .int .i64 x.2.2.2]
def tcells (s : ByteArray) : List Value := [.string s]

theorem str_ne {a b : ByteArray} (h : a ≠ b) : (a.toList == b.toList) = false := by
  rw [ByteArray.toList_eq, ByteArray.toList_eq]
  exact beq_eq_false_iff_ne.2 (fun e => h (key_inj (congrArg Lit.string e)))

/-- A block that holds sums. -/
structure Four (w : World) (b : Nat) (x : Sm) : Prop where
  lt : b < w.heap.size
  c0 : w.cell? ⟨b, 0, none⟩ = some (.int .i64 x.1)
  c1 : w.cell? ⟨b, 1, none⟩ = some (.int .i64 x.2.1)
  c2 : w.cell? ⟨b, 2, none⟩ = some (.int .i64 x.2.2.1)
  c3 : w.cell? ⟨b, 3, none⟩ = some (.int .i64 x.2.2.2)
  fz : ∀ o, w.frozen? ⟨b, o, none⟩ = false
theorem Four.new (w : World) (x : Sm) (T : TypeId) : Four (w.alloc (.cells #[.int .i64 x.1, .int .i64 x.2.1, .int .i64 x.2.2.1, .int .i64 x.2.2.2] T)) w.heap.size x :=
  ⟨by simp, by simp, by simp, by simp, by simp, fun o => frozen_of_row _ _ _ _ _ (block_alloc_last w _)⟩
theorem Four.step {w w' : World} {b : Nat} {x : Sm} (h : Four w b x) (hb : Below w.heap.size w w') : Four w' b x :=
  ⟨Nat.lt_of_lt_of_le h.lt hb.size, bc hb h.lt h.c0, bc hb h.lt h.c1, bc hb h.lt h.c2, bc hb h.lt h.c3, fun o => bf hb h.lt (h.fz o)⟩
theorem Four.far {w : World} {b : Nat} {x : Sm} (h : Four w b x) {p : Addr} (hne : b ≠ p.block) (v : Value) : Four (w.setCell p v) b x :=
  have e : ∀ o, (⟨b, o, none⟩ : Addr) ≠ p := fun o hh => hne (by rw [← hh])
  ⟨by simpa using h.lt, (World.cell?_setCell_other _ _ _ _ (fun hh => e 0 hh.symm)).trans h.c0, (World.cell?_setCell_other _ _ _ _ (fun hh => e 1 hh.symm)).trans h.c1, (World.cell?_setCell_other _ _ _ _ (fun hh => e 2 hh.symm)).trans h.c2, (World.cell?_setCell_other _ _ _ _ (fun hh => e 3 hh.symm)).trans h.c3, fun o => by simpa using h.fz o⟩
theorem Four.put {w : World} {b : Nat} {x : Sm} (h : Four w b x) (y0 y1 y2 y3 : Int) : Four ((((w.setCell ⟨b, 0, none⟩ (.int .i64 y0)).setCell ⟨b, 1, none⟩ (.int .i64 y1)).setCell ⟨b, 2, none⟩ (.int .i64 y2)).setCell ⟨b, 3, none⟩ (.int .i64 y3)) b (y0, y1, y2, y3) := by
  have other : ∀ (W : World) (p q : Nat) (v : Value) (u : Option Value), p ≠ q → W.cell? ⟨b, q, none⟩ = u → (W.setCell ⟨b, p, none⟩ v).cell? ⟨b, q, none⟩ = u := fun W p q v u h hh => (World.cell?_setCell_other _ _ _ _ (fun e => h (by injection e))).trans hh
  refine ⟨by simpa using h.lt, ?_, ?_, ?_, ?_, fun o => by simpa using h.fz o⟩
  · exact other _ _ _ _ _ (by omega) (other _ _ _ _ _ (by omega) (other _ _ _ _ _ (by omega) (World.cell?_setCell_same _ _ _ h.c0)))
  · exact other _ _ _ _ _ (by omega) (other _ _ _ _ _ (by omega) (World.cell?_setCell_same _ _ _ (other _ _ _ _ _ (by omega) h.c1)))
  · exact other _ _ _ _ _ (by omega) (World.cell?_setCell_same _ _ _ (other _ _ _ _ _ (by omega) (other _ _ _ _ _ (by omega) h.c2)))
  · exact World.cell?_setCell_same _ _ _ (other _ _ _ _ _ (by omega) (other _ _ _ _ _ (by omega) (other _ _ _ _ _ (by omega) h.c3)))

set_option maxRecDepth 100000 in
theorem found_is (a : Option Addr) (nc ca : Nat) (cs : Nat → ByteArray) (b : Option Addr) (ns cb : Nat) (sm : Nat → Sm) (t : ByteArray) (W : World) (hc : Lst 1 W a nc (fun j => tcells (cs j))) (hs : Lst 4 W b ns (fun j => mcells (sm j))) :
    Calls Try.prog 16 #[.slice a nc ca, .slice b ns cb, .string t] W fun e w' => e = .returned (sval ((gm cs sm (min nc ns) t).getD (0, 0, 0, 0))) ∧ Below W.heap.size W w' := by
  have hn1 := hc.1
  have hn2 := hs.1
  obtain ⟨m, hm⟩ : ∃ m, min nc ns = m := ⟨_, rfl⟩
  have hB0 : Below W.heap.size W ((W.alloc (.cells #[.int .i64 0, .int .i64 0, .int .i64 0, .int .i64 0] 24)).alloc (.cells #[.int .i64 0, .int .i64 0, .int .i64 0, .int .i64 0] 24)) := balloc (balloc (Below.refl _ _) _) _
  have h40 := (Four.new W (0, 0, 0, 0) 24).step (balloc (Below.refl _ _) (.cells #[.int .i64 0, .int .i64 0, .int .i64 0, .int .i64 0] 24))
  have h41 := Four.new (W.alloc (.cells #[.int .i64 0, .int .i64 0, .int .i64 0, .int .i64 0] 24)) (0, 0, 0, 0) 24
  have hsz : (W.alloc (.cells #[.int .i64 0, .int .i64 0, .int .i64 0, .int .i64 0] 24)).heap.size = W.heap.size + 1 := by simp
  rw [hsz] at h41
  rw [hm]
  go_enter Try.func16, Try.ntmps16
  go_wp2_with fail
  go_loopw [8] (fun s8 wx => ∃ i : Nat, i ≤ m ∧ s8 = .int .i64 i ∧ Below W.heap.size W wx ∧ Four wx W.heap.size (0, 0, 0, 0) ∧ Four wx (W.heap.size + 1) ((gm cs sm i t).getD (0, 0, 0, 0))) (fun s8 _ => m - (intOf s8).toNat)
  case atStart => exact ⟨0, Nat.zero_le _, rfl, hB0, h40, h41⟩
  case round =>
    obtain ⟨i, hi, rfl, hbel, f0, f1⟩ := hrel
    clear hB0 h40 h41 hsz
    obtain ⟨⟨x1, x2, x3, x4⟩, hx⟩ : ∃ x, (gm cs sm i t).getD (0, 0, 0, 0) = x := ⟨_, rfl⟩
    rw [hx] at f1
    have HX := Lib.hid hx
    clear hx
    have p0 := f0.c0
    have p1 := f0.c1
    have p2 := f0.c2
    have p3 := f0.c3
    have pf := f0.fz
    have q0 := f1.c0
    have q1 := f1.c1
    have q2 := f1.c2
    have q3 := f1.c3
    have qf := f1.fz
    simp only at p0 p1 p2 p3 q0 q1 q2 q3
    by_cases ci : i < m
    · have hw : IntKind.i64.wrap ((i : Int) + 1) = (i : Int) + 1 := IntWalk.i64_in _ (by omega)
      have l1 : (i : Int) < (nc : Int) := by omega
      have l2 : (i : Int) < (ns : Int) := by omega
      have l0 : (0 : Int) ≤ (i : Int) := by omega
      obtain ⟨b1, o1, rfl, hlt1, hc1⟩ := (hc.step hbel).at_ (j := i) (by omega)
      obtain ⟨b2, o2, rfl, hlt2, hc2⟩ := (hs.step hbel).at_ (j := i) (by omega)
      have d0 := hc1 0 (.string (cs i)) rfl
      have e0 := hc2 0 (.int .i64 (sm i).1) rfl
      have e1 := hc2 1 (.int .i64 (sm i).2.1) rfl
      have e2 := hc2 2 (.int .i64 (sm i).2.2.1) rfl
      have e3 := hc2 3 (.int .i64 (sm i).2.2.2) rfl
      rw [Nat.mul_one, Nat.add_zero] at d0
      rw [Nat.add_zero] at e0
      have hg := gm_step cs sm t i
      clear hc1 hc2
      by_cases ht : cs i = t
      · rw [if_pos ht.symm] at hg
        have HG := Lib.hid hg
        clear hg
        subst ht
        go_wp2_with fail
        go_roundw
        case rel =>
          refine ⟨i + 1, by omega, by go_num, bset (bset (bset (bset hbel (by simp) _) (by simp) _) (by simp) _) (by simp) _, (((f0.far (by simp) _).far (by simp) _).far (by simp) _).far (by simp) _, ?_⟩
          rw [HG.out]
          exact f1.put _ _ _ _
        case measure => simp [intOf]; omega
      · rw [if_neg (fun h => ht h.symm)] at hg
        have HG := Lib.hid hg
        clear hg
        have ht' : decide (cs i = t) = false := decide_eq_false ht
        have ht2 : ((cs i).toList == t.toList) = false := str_ne ht
        clear ht ht'
        go_wp2_with fail
        go_roundw
        case rel =>
          refine ⟨i + 1, by omega, by go_num, hbel, f0, ?_⟩
          rw [HG.out, HX.out]
          exact f1
        case measure => simp [intOf]; omega
    · obtain rfl : i = m := by omega
      have l1 : ¬ ((i : Int) < (nc : Int) ∧ (i : Int) < (ns : Int)) := by omega
      have hbe := bset (bset (bset (bset hbel (p := ⟨W.heap.size, 0, none⟩) (by simp) (.int .i64 x1)) (p := ⟨W.heap.size, 1, none⟩) (by simp) (.int .i64 x2)) (p := ⟨W.heap.size, 2, none⟩) (by simp) (.int .i64 x3)) (p := ⟨W.heap.size, 3, none⟩) (by simp) (.int .i64 x4)
      have r0 : (wr.setCell ⟨W.heap.size, 0, none⟩ (.int .i64 x1)).cell? ⟨W.heap.size, 0, none⟩ = some (.int .i64 x1) := World.cell?_setCell_same _ _ _ p0
      have r1 : ((wr.setCell ⟨W.heap.size, 0, none⟩ (.int .i64 x1)).setCell ⟨W.heap.size, 1, none⟩ (.int .i64 x2)).cell? ⟨W.heap.size, 1, none⟩ = some (.int .i64 x2) := World.cell?_setCell_same _ _ _ (by rw [World.cell?_setCell_other _ _ _ _ (by simp)]; exact p1)
      have r2 : (((wr.setCell ⟨W.heap.size, 0, none⟩ (.int .i64 x1)).setCell ⟨W.heap.size, 1, none⟩ (.int .i64 x2)).setCell ⟨W.heap.size, 2, none⟩ (.int .i64 x3)).cell? ⟨W.heap.size, 2, none⟩ = some (.int .i64 x3) := World.cell?_setCell_same _ _ _ (by rw [World.cell?_setCell_other _ _ _ _ (by simp), World.cell?_setCell_other _ _ _ _ (by simp)]; exact p2)
      have r3 := (f0.put x1 x2 x3 x4).c3
      simp only at r3
      by_cases cc : i < nc
      · have cs' : ¬ (i : Int) < (ns : Int) := by omega
        have cc' : (i : Int) < (nc : Int) := by omega
        go_wp2_with fail
        refine bodyPost_ret (v := .agg #[.int .i64 x1, .int .i64 x2, .int .i64 x3, .int .i64 x4]) (by simp [results, Try.results16, go_sem, r0, r1, r2, r3]) rfl ⟨?_, hbe⟩
        rw [HX.out]; rfl
      · have cc' : ¬ (i : Int) < (nc : Int) := by omega
        go_wp2_with fail
        refine bodyPost_ret (v := .agg #[.int .i64 x1, .int .i64 x2, .int .i64 x3, .int .i64 x4]) (by simp [results, Try.results16, go_sem, r0, r1, r2, r3]) rfl ⟨?_, hbe⟩
        rw [HX.out]; rfl
end Go.Proofs.Ytdmkjdlneadkcaa.W
