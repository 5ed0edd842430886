/- SocialAll: the plain laws, and what All answers the law. -/
import Derived.Test.YtdmkjdlneadkcaaSocAI
namespace Go.Proofs.Ytdmkjdlneadkcaa.W
open Go.RowKit Go.Proofs.Ytdmkjdlneadkcaa.M Go.Proofs.Ytdmkjdlneadkcaa.B Go.Proofs.Ytdmkjdlneadkcaa.S
set_option linter.unusedVariables false

theorem sstep_pos (b i w f : Int) (l : List UInt8) (wr fr ce base : Int) : 0 ≤ (sstep b i w f l wr fr ce base).2 := by
  unfold sstep
  by_cases c1 : ¬ rgt b i w f
  · rw [if_pos c1]; simp
  · rw [if_neg c1]
    by_cases c2 : wrg l wr fr ce ≠ 0
    · rw [if_pos c2]; unfold wrg; simp only; split
      · omega
      · split <;> omega
    · rw [if_neg c2]
      by_cases c3 : ¬ fit base
      · rw [if_pos c3]; simp
      · rw [if_neg c3]; unfold stp; simp only; split <;> simp
theorem rnd_nn {p r : Int} (hp : 0 ≤ p) (hr : 0 ≤ r) : 0 ≤ rnd p r := by
  have h : 0 ≤ p * r := Int.mul_nonneg hp hr
  unfold rnd
  omega
/-- A right step takes nothing back. -/
theorem sstep_up {b i w f : Int} {l : List UInt8} {wr fr ce base : Int} (h : (sstep b i w f l wr fr ce base).2 = 0) : w ≤ (sstep b i w f l wr fr ce base).1.2.2.1 ∧ f ≤ (sstep b i w f l wr fr ce base).1.2.2.2 := by
  obtain ⟨c1, c2, _⟩ := sstep_ok h
  by_cases c3 : fit base
  · have e : sstep b i w f l wr fr ce base = stp b i w f wr fr ce base := by
      unfold sstep; rw [if_neg (by simpa using c1), if_neg (by simpa using c2), if_neg (by simpa using c3)]
    rw [e] at h ⊢
    obtain ⟨_, hr0, _, hf0, _⟩ := wrg_zero c2
    have hp : 0 ≤ partOf (topOf (b + base) ce) i := by unfold partOf; split <;> omega
    have hc : 0 ≤ capOf (partOf (topOf (b + base) ce) i) := by unfold capOf; split <;> omega
    have h1 := rnd_nn hc hr0
    have h2 := rnd_nn hc hf0
    unfold stp at h ⊢
    simp only at h ⊢
    split at h
    · rename_i hcc; rw [if_pos hcc]; exact ⟨by simp only; omega, by simp only; omega⟩
    · simp at h
  · unfold sstep at h; rw [if_neg (by simpa using c1), if_neg (by simpa using c2), if_pos c3] at h; simp at h
theorem aerr_pos (g : ByteArray → Option Sm) (base : Int) (S : Nat → Sch) : ∀ n, 0 ≤ aerr g base S n
  | 0 => by unfold aerr; omega
  | n + 1 => by
    have h := aerr_pos g base S n
    have h2 := sstep_pos (was g (S n)).1 (was g (S n)).2.1 (was g (S n)).2.2.1 (was g (S n)).2.2.2 (S n).code.data.toList (S n).wr (S n).fr (S n).ce base
    unfold aerr
    split
    · exact h
    · split
      · omega
      · exact h2
/-- What is wrong with any list of schemes. -/
def aerrs (g : ByteArray → Option Sm) (base : Int) (S : Nat → Sch) (n : Nat) : Int := if 64 < n then 5 else aerr g base S n
theorem aerrs_pos (g : ByteArray → Option Sm) (base : Int) (S : Nat → Sch) (n : Nat) : 0 ≤ aerrs g base S n := by
  unfold aerrs; split
  · omega
  · exact aerr_pos g base S n
theorem own_none {w : World} {base : Nat} {v : Value} (h : OwnL w base v []) : ∃ a cap, v = .slice a 0 cap := by
  obtain ⟨a, cap, h1, _⟩ := ownL_lst h (by simp) (ByteArray.empty, 0)
  exact ⟨a, cap, h1⟩
/-- What All answers the law. -/
def AllEx (g : ByteArray → Option Sm) (base : Int) (S : Nat → Sch) (n : Nat) (W : World) (e : Ending) (w' : World) : Prop :=
  ∃ ma u1 u2, e = .returned (.tuple #[.map ma, u1, u2, .int .i64 (aerrs g base S n)]) ∧ Below W.heap.size W w' ∧
    (aerrs g base S n = 0 → n ≤ 64 ∧ (∃ N, Has w' ma N (fo g base S n)) ∧ OwnL w' W.heap.size u1 (lw g base S n) ∧ OwnL w' W.heap.size u2 (lf g base S n)) ∧
    (aerrs g base S n ≠ 0 → Has w' ma 0 (fun _ => none) ∧ (∃ a cap, u1 = .slice a 0 cap) ∧ ∃ a cap, u2 = .slice a 0 cap)
theorem all_ex (base : Int) (a : Option Addr) (n cap : Nat) (S : Nat → Sch) (W : World) (hl : Lst 4 W a n (fun j => scells (S j))) (hS : ∀ j, j < n → okS (S j)) (hb : I64 base) (b0 n0 : Nat) (g : ByteArray → Option Sm) (hg0 : MapS W b0 n0 g) (hN : n0 ≤ 1000)
    (hIg : ∀ s : ByteArray, I64 ((g s).getD (0, 0, 0, 0)).1 ∧ I64 ((g s).getD (0, 0, 0, 0)).2.1 ∧ I64 ((g s).getD (0, 0, 0, 0)).2.2.1 ∧ I64 ((g s).getD (0, 0, 0, 0)).2.2.2) :
    Calls Try.prog 17 #[.map (some b0), .int .i64 base, .slice a n cap] W (AllEx g base S n W) := by
  by_cases h64 : 64 < n
  · refine (all_many_own base a n cap W h64 hl.1 b0).mono fun e w' h => ?_
    obtain ⟨ma, u1, u2, h1, h2, h3, h4, h5⟩ := h
    have he : aerrs g base S n = 5 := by unfold aerrs; rw [if_pos h64]
    exact ⟨ma, u1, u2, by rw [he]; exact h1, h2, fun h => by omega, fun _ => ⟨h3, own_none h4, own_none h5⟩⟩
  · refine (all_own base a n cap S W hl hS hb (by omega) b0 n0 g hg0 hN hIg).mono fun e w' h => ?_
    obtain ⟨N, h⟩ := h
    have he : aerrs g base S n = aerr g base S n := by unfold aerrs; rw [if_neg h64]
    unfold AllRes at h
    by_cases c : aerr g base S n = 0
    · rw [if_pos c] at h
      obtain ⟨ma, u1, u2, h1, h2, h3, h4, h5⟩ := h
      exact ⟨ma, u1, u2, by rw [he, c]; exact h1, h2, fun _ => ⟨by omega, ⟨_, h3⟩, h4, h5⟩, fun hh => absurd (he.trans c) hh⟩
    · rw [if_neg c] at h
      obtain ⟨ma, u1, u2, h1, h2, h3, h4, h5⟩ := h
      exact ⟨ma, u1, u2, by rw [he]; exact h1, h2, fun hh => absurd (he.symm.trans hh) c, fun _ => ⟨h3, own_none h4, own_none h5⟩⟩

/-- An item more, as the law has it. -/
def addL (L : List (ByteArray × Int)) (s : ByteArray) (old now : Int) : List (ByteArray × Int) := if old < now then L ++ [(s, IntKind.i64.wrap (now - old))] else L
theorem addL_len (L : List (ByteArray × Int)) (s : ByteArray) (old now : Int) : (addL L s old now).length ≤ L.length + 1 := by unfold addL; split <;> simp
theorem addL_put {L : List (ByteArray × Int)} {s : ByteArray} {old now : Int} (h : old ≤ now) (h1 : amt old) (h2 : amt now) : addL L s old now = putL L s (now - old) := by
  unfold addL putL
  unfold amt at h1 h2
  have hw : IntKind.i64.wrap (now - old) = now - old := IntWalk.i64_in _ (by omega)
  by_cases c : old < now
  · rw [if_pos c, if_neg (by omega), hw]
  · rw [if_neg c, if_pos (by omega)]
theorem round_end {G : ByteArray → Option Sm} {base : Int} {S : Nat → Sch} {n k : Nat} (hn : n ≤ 64) (hk : k < n) (h0 : aerr G base S k = 0) {c7 c8 f za zb zc zd A B C D : Int} (hz : was G (S k) = (za, zb, zc, zd)) (hf : stAt G base (S k) = ((A, B, C, D), f))
    (h7 : (c7 = 0 ∧ fresh S k) ∨ (c7 = 7 ∧ ¬ fresh S k)) (h8 : (if c7 = 0 then f else c7) = c8) {L1 L2 : List (ByteArray × Int)} (e1 : L1 = lw G base S k) (e2 : L2 = lf G base S k) :
    (c8 = 0 ∧ n ≤ 64 ∧ aerr G base S (k + 1) = 0 ∧ addL L1 (S k).code zc C = lw G base S (k + 1) ∧ addL L2 (S k).code zd D = lf G base S (k + 1)) ∨ (c8 ≠ 0 ∧ c8 = aerrs G base S n) := by
  have ha : aerrs G base S n = aerr G base S n := by unfold aerrs; rw [if_neg (by omega)]
  rcases h7 with ⟨h7, hfr⟩ | ⟨h7, hfr⟩
  · rw [if_pos h7] at h8
    have hst := aerr_step h0 hfr
    rw [hf] at hst
    by_cases hf0 : f = 0
    · left
      have hok : (stAt G base (S k)).2 = 0 := by rw [hf]; exact hf0
      have h1 := sstep_ok hok
      have h2 := sstep_up hok
      have hs1 : sstep (was G (S k)).1 (was G (S k)).2.1 (was G (S k)).2.2.1 (was G (S k)).2.2.2 (S k).code.data.toList (S k).wr (S k).fr (S k).ce base = ((A, B, C, D), f) := hf
      rw [hs1, hz] at h1 h2
      obtain ⟨⟨_, _, r1, r2⟩, _, ⟨_, _, r3, r4⟩⟩ := h1
      refine ⟨h8.symm.trans hf0, hn, hst.trans hf0, ?_, ?_⟩
      · rw [addL_put h2.1 r1 r3, e1]
        show _ = putL (lw G base S k) (S k).code ((stAt G base (S k)).1.2.2.1 - (was G (S k)).2.2.1)
        rw [hf, hz]
      · rw [addL_put h2.2 r2 r4, e2]
        show _ = putL (lf G base S k) (S k).code ((stAt G base (S k)).1.2.2.2 - (was G (S k)).2.2.2)
        rw [hf, hz]
    · right
      have := aerr_bad h0 hfr (by rw [hf]; exact hf0) hk
      rw [hf] at this
      exact ⟨by rw [← h8]; exact hf0, by rw [ha, this]; exact h8.symm⟩
  · right
    rw [if_neg (by omega)] at h8
    have := aerr_twice h0 hfr hk
    exact ⟨by omega, by rw [ha, this]; omega⟩

/-- What a round of the law leaves: the sums before, two rows of items. -/
structure Lw (W : World) (b0 : Nat) (wx : World) (n0 : Nat) (g : ByteArray → Option Sm) (v1 v2 : Value) (L1 L2 : List (ByteArray × Int)) : Prop where
  bel : Below W.heap.size W wx
  pos : W.heap.size ≤ b0
  m : MapS wx b0 n0 g
  r1 : OwnL wx (b0 + 1) v1 L1
  r2 : OwnL wx (b0 + 1) v2 L2
  two : Two v1 v2
section
variable {W : World} {b0 : Nat} {wx w' : World} {n0 : Nat} {g : ByteArray → Option Sm} {v1 v2 : Value} {L1 L2 : List (ByteArray × Int)}
theorem Lw.below (h : Lw W b0 wx n0 g v1 v2 L1 L2) (hb : Below wx.heap.size wx w') : Lw W b0 w' n0 g v1 v2 L1 L2 :=
  ⟨bstep h.bel hb, h.pos, h.m.next hb h.m.lt, own_below h.r1 hb, own_below h.r2 hb, h.two⟩
theorem Lw.put1 (h : Lw W b0 wx n0 g v1 v2 L1 L2) {v' : Value} {L' : List (ByteArray × Int)} (hg : wx.grownBy w' v1.ownBlock) (ho : OwnL w' (b0 + 1) v' L') (hv : v'.ownBlock = v1.ownBlock ∨ ∃ g, v'.ownBlock = some g ∧ wx.heap.size ≤ g) : Lw W b0 w' n0 g v' v2 L' L2 :=
  ⟨h.bel.grown hg h.bel.size (fun k hk => by have := (h.r1.lt k hk).1; have := h.pos; omega), h.pos, h.m.kept hg (ownblock_ne h.r1 (Nat.lt_succ_self _)), ho,
    h.r2.kept hg (by
      cases e : v2.ownBlock with
      | none => exact .inl rfl
      | some b => right; intro hh; exact h.two b hh.symm e), (two_put h.two.symm h.r2 (Nat.le_refl _) hv).symm⟩
theorem Lw.put2 (h : Lw W b0 wx n0 g v1 v2 L1 L2) {v' : Value} {L' : List (ByteArray × Int)} (hg : wx.grownBy w' v2.ownBlock) (ho : OwnL w' (b0 + 1) v' L') (hv : v'.ownBlock = v2.ownBlock ∨ ∃ g, v'.ownBlock = some g ∧ wx.heap.size ≤ g) : Lw W b0 w' n0 g v1 v' L1 L' :=
  ⟨h.bel.grown hg h.bel.size (fun k hk => by have := (h.r2.lt k hk).1; have := h.pos; omega), h.pos, h.m.kept hg (ownblock_ne h.r2 (Nat.lt_succ_self _)),
    h.r1.kept hg (by
      cases e : v1.ownBlock with
      | none => exact .inl rfl
      | some b => right; intro hh; exact h.two b e hh.symm), ho, two_put h.two h.r1 (Nat.le_refl _) hv⟩
end
theorem Four.kept {w w' : World} {b : Nat} {x : Sm} {row : Option Nat} (h : Four w b x) (hg : w.grownBy w' row) (hne : some b ≠ row) : Four w' b x :=
  ⟨Nat.lt_of_lt_of_le h.lt hg.size, (hg.cell_far ⟨b, 0, none⟩ h.lt hne).trans h.c0, (hg.cell_far ⟨b, 1, none⟩ h.lt hne).trans h.c1, (hg.cell_far ⟨b, 2, none⟩ h.lt hne).trans h.c2, (hg.cell_far ⟨b, 3, none⟩ h.lt hne).trans h.c3, fun o => (hg.frozen_far ⟨b, o, none⟩ h.lt hne).trans (h.fz o)⟩
end Go.Proofs.Ytdmkjdlneadkcaa.W
