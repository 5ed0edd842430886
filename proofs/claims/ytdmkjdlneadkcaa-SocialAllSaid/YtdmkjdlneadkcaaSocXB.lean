/- The walk of social.All, where no sums were before. -/
import Derived.Test.YtdmkjdlneadkcaaSocXA
namespace Go.Proofs.Ytdmkjdlneadkcaa.W
open Go.RowKit Go.Proofs.Ytdmkjdlneadkcaa.M Go.Proofs.Ytdmkjdlneadkcaa.B Go.Proofs.Ytdmkjdlneadkcaa.S
open Go.Maps (Keyed)
set_option linter.unusedVariables false

def okS (x : Sch) : Prop := x.code.size ≤ 9223372036854775807 ∧ I64 x.wr ∧ I64 x.fr ∧ I64 x.ce
abbrev g0 : ByteArray → Option Sm := fun _ => none

/-- What All answers: the sums behind n steps, or what is wrong. -/
def AllRes (g : ByteArray → Option Sm) (n0 : Nat) (base : Int) (S : Nat → Sch) (n : Nat) (W : World) (e : Ending) (w' : World) : Prop :=
  if aerr g base S n = 0 then AllOut 0 (no g base S n0 n) (fo g base S n) (lw g base S n) (lf g base S n) W e w' else AllOut (aerr g base S n) 0 (fun _ => none) [] [] W e w'
theorem res_bad {g : ByteArray → Option Sm} {n0 : Nat} {base : Int} {S : Nat → Sch} {n : Nat} {W w' : World} {er : Int} (h : aerr g base S n = er) (h0 : er ≠ 0) (hb : Below W.heap.size W w') :
    AllRes g n0 base S n W (.returned (.tuple #[.map none, .slice none 0 0, .slice none 0 0, .int .i64 er])) w' := by
  unfold AllRes; rw [h, if_neg h0]; exact all_bad er hb
theorem res_good {g : ByteArray → Option Sm} {n0 : Nat} {base : Int} {S : Nat → Sch} {n : Nat} {W w' : World} {B bo bm nM : Nat} {m : ByteArray → Option Bool} {v1 v2 : Value} (h0 : aerr g base S n = 0) (h : St W B bo bm w' (no g base S n0 n) nM (fo g base S n) m v1 v2 (lw g base S n) (lf g base S n)) :
    AllRes g n0 base S n W (.returned (.tuple #[.map (some bo), v1, v2, .int .i64 0])) w' := by
  unfold AllRes; rw [if_pos h0]; exact all_good h

theorem all_many_nil (base : Int) (a : Option Addr) (n cap : Nat) (W : World) (hn : 64 < n) (hm : n ≤ 9223372036854775807) :
    Calls Try.prog 17 #[(.map none), .int .i64 base, .slice a n cap] W (AllOut 5 0 (fun _ => none) [] [] W) := by
  have hn' : (64 : Int) < (n : Int) := by omega
  go_enter Try.func17, Try.ntmps17
  go_wp2_with fail
  refine bodyPost_ret (v := .tuple #[.map none, .slice none 0 0, .slice none 0 0, .int .i64 5]) (by simp [results, Try.results17, go_sem]) rfl ?_
  exact all_bad 5 (Below.refl _ _)

set_option maxRecDepth 100000 in
set_option maxHeartbeats 8000000 in
theorem all_nil (base : Int) (a : Option Addr) (n cap : Nat) (S : Nat → Sch) (W : World) (hl : Lst 4 W a n (fun j => scells (S j))) (hS : ∀ j, j < n → okS (S j)) (hb : I64 base) (hn : n ≤ 64) :
    Calls Try.prog 17 #[(.map none), .int .i64 base, .slice a n cap] W (AllRes g0 0 base S n W) := by
  have hn' : ¬ (64 : Int) < (n : Int) := by omega
  have hlook : Hid (∀ wx, Below W.heap.size W wx → ∀ s : ByteArray, s.size ≤ 9223372036854775807 → (Instr.lookup 46 (.map none) (.string s) false).run Try.prog wx = .ok (sval ((g0 s).getD (0, 0, 0, 0))) wx) := fun wx _ s hs => look_nil (c := false) kStr Try.underlying9 Try.underlying46 (zeroSums wx) hs
  have hI : Hid (∀ s : ByteArray, I64 ((g0 s).getD (0, 0, 0, 0)).1 ∧ I64 ((g0 s).getD (0, 0, 0, 0)).2.1 ∧ I64 ((g0 s).getD (0, 0, 0, 0)).2.2.1 ∧ I64 ((g0 s).getD (0, 0, 0, 0)).2.2.2) := fun s => ⟨(show I64 (0 : Int) from (by unfold I64; omega)), (show I64 (0 : Int) from (by unfold I64; omega)), (show I64 (0 : Int) from (by unfold I64; omega)), (show I64 (0 : Int) from (by unfold I64; omega))⟩
  have hst0 : St W (W.heap.size + 2) W.heap.size (W.heap.size + 1) ((W.alloc (.map #[] 0)).alloc (.map #[] 0)) 0 0 g0 (fun _ => none) (.slice none 0 0) (.slice none 0 0) [] [] :=
    ⟨balloc (balloc (Below.refl _ _) _) _, by simp, (mapIs_made W).alloc _, by have := mapIs_made (P := Try.prog) (k := 9) (dat := fun x => DataW.lit (.bool x)) (R := plainElem Try.prog 4) (W.alloc (.map #[] 0)); simpa using this, ownL_nil _ _, ownL_nil _ _, fun b h => (by cases h), by omega⟩
  have hmm := @run_makeMap Try.prog
  have hrn := fun w => run_range_nilMap (P := Try.prog) w 46 9 24 Try.underlying46
  have hnx := fun w ty a b s => run_next_nilMap (P := Try.prog) w ty a b s
  go_enter Try.func17, Try.ntmps17
  go_upto_region 4 with fail
  clear hmm
  generalize (W.alloc (.map #[] 0)).alloc (.map #[] 0) = U at *
  have hnx' := fun ty => hnx U ty 0 0 #[]
  clear hnx
  go_wp2_with fail
  go_loopw [29] (fun s29 wx => wx = U.alloc (.mapIter none 0 #[] 0)) (fun _ _ => 0)
  case atStart => rfl
  case round =>
    obtain rfl := hrel
    have hst1 : St W (W.heap.size + 2) W.heap.size (W.heap.size + 1) (U.alloc (.mapIter none 0 #[] 0)) 0 0 g0 (fun _ => none) (.slice none 0 0) (.slice none 0 0) [] [] := hst0.below (balloc (Below.refl _ _) (.mapIter none 0 #[] 0))
    clear hst0
    generalize U.alloc (.mapIter none 0 #[] 0) = V at *
    go_wp2_with fail
    clear hnx' hrn
    go_loopw [14, 15, 39] (fun s14 s15 s39 wx => ∃ k : Nat, k ≤ n ∧ s39 = .int .i64 k ∧ Hid (aerr g0 base S k = 0) ∧ St W (W.heap.size + 2) W.heap.size (W.heap.size + 1) wx (no g0 base S 0 k) (nm S k) (fo g0 base S k) (fm S k) s14 s15 (lw g0 base S k) (lf g0 base S k)) (fun _ _ s39 _ => n - (intOf s39).toNat)
    case atStart => exact ⟨0, Nat.zero_le _, rfl, rfl, hst1⟩
    case round =>
      obtain ⟨k, hk, rfl, he0, hst⟩ := hrel
      clear hst1
      by_cases ck : k < n
      · obtain ⟨b1, o1, rfl, hlt1, hcl⟩ := (hl.step hst.bel).at_ ck
        have hSk := hS k ck
        by_cases hfr : fresh S k
        · have hmt := fm_fresh hfr
          have hst2 := aerr_step he0.out hfr
          have hbad := fun h => aerr_bad (n := n) he0.out hfr h ck
          have hlk0 : ∀ wx, Below wr.heap.size wr wx → (Instr.lookup 67 (.map (some (W.heap.size + 1))) (.string (S k).code) false).run Try.prog wx = .ok (.bool false) wx := fun wx hb => by
            have := (hst.below hb).m.look readsB kStr Try.underlying9 Try.underlying67 (zeroBool wx) hSk.1
            rwa [hmt] at this
          have hlz0 : ∀ wx, Below W.heap.size W wx → (Instr.lookup 46 (.map none) (.string (S k).code) false).run Try.prog wx = .ok (.agg #[.int .i64 (was g0 (S k)).1, .int .i64 (was g0 (S k)).2.1, .int .i64 (was g0 (S k)).2.2.1, .int .i64 (was g0 (S k)).2.2.2]) wx := fun wx hb => hlook.out wx hb _ hSk.1
          have hnm : nm S (k + 1) = more (fm S k) (S k).code (nm S k) := rfl
          have hno : no g0 base S 0 (k + 1) = more (fo g0 base S k) (S k).code (no g0 base S 0 k) := rfl
          have hfo : fo g0 base S (k + 1) = upd (fo g0 base S k) (S k).code (stAt g0 base (S k)).1 := rfl
          have hfm : fm S (k + 1) = upd (fm S k) (S k).code true := rfl
          have hlw : lw g0 base S (k + 1) = putL (lw g0 base S k) (S k).code ((stAt g0 base (S k)).1.2.2.1 - (was g0 (S k)).2.2.1) := rfl
          have hlf : lf g0 base S (k + 1) = putL (lf g0 base S k) (S k).code ((stAt g0 base (S k)).1.2.2.2 - (was g0 (S k)).2.2.2) := rfl
          have hL1 := lw_len g0 base S k
          have hL2 := lf_len g0 base S k
          have hn1 := nm_le S k
          have hn2 := no_le g0 base S 0 k
          have hII : I64 (was g0 (S k)).1 ∧ I64 (was g0 (S k)).2.1 ∧ I64 (was g0 (S k)).2.2.1 ∧ I64 (was g0 (S k)).2.2.2 := hI.out (S k).code
          have hstp : ∀ wx, Calls Try.prog 11 #[.agg #[.int .i64 (was g0 (S k)).1, .int .i64 (was g0 (S k)).2.1, .int .i64 (was g0 (S k)).2.2.1, .int .i64 (was g0 (S k)).2.2.2], .agg #[.string (S k).code, .int .i64 (S k).wr, .int .i64 (S k).fr, .int .i64 (S k).ce], .int .i64 base] wx (StepOut (stAt g0 base (S k)) wx) := fun wx =>
            step_any _ _ _ _ _ _ _ _ _ wx hSk.1 hII.1 hII.2.1 hII.2.2.1 hII.2.2.2 hSk.2.1 hSk.2.2.1 hSk.2.2.2 hb
          have hrg : (stAt g0 base (S k)).2 = 0 → rgt (was g0 (S k)).1 (was g0 (S k)).2.1 (was g0 (S k)).2.2.1 (was g0 (S k)).2.2.2 ∧ rgt (stAt g0 base (S k)).1.1 (stAt g0 base (S k)).1.2.1 (stAt g0 base (S k)).1.2.2.1 (stAt g0 base (S k)).1.2.2.2 := fun h => ⟨(sstep_ok h).1, (sstep_ok h).2.2⟩
          obtain ⟨⟨za, zb, zc, zd⟩, hw⟩ : ∃ x, was g0 (S k) = x := ⟨_, rfl⟩
          rw [hw] at hlz0 hlw hlf hstp hrg
          obtain ⟨⟨⟨A, B, C, D⟩, er⟩, hq⟩ : ∃ x, stAt g0 base (S k) = x := ⟨_, rfl⟩
          rw [hq] at hst2 hbad hfo hlw hlf hstp hrg
          obtain ⟨⟨s, p, q, r⟩, hx⟩ : ∃ x, S k = x := ⟨_, rfl⟩
          have d0 := hcl 0 (.string (S k).code) rfl
          have d1 := hcl 1 (.int .i64 (S k).wr) rfl
          have d2 := hcl 2 (.int .i64 (S k).fr) rfl
          have d3 := hcl 3 (.int .i64 (S k).ce) rfl
          rw [Nat.add_zero] at d0
          rw [hx] at hSk hlk0 hlz0 d0 d1 d2 d3 hnm hno hfo hfm hlw hlf hstp
          have hstp' : ∀ wx, Calls Try.prog 11 #[.agg #[.int .i64 za, .int .i64 zb, .int .i64 zc, .int .i64 zd], .agg #[.string s, .int .i64 p, .int .i64 q, .int .i64 r], .int .i64 base] wx fun e w' => e = .returned (.tuple #[.agg #[.int .i64 A, .int .i64 B, .int .i64 C, .int .i64 D], .int .i64 er]) ∧ Below wx.heap.size wx w' := hstp
          simp only at hSk hlk0 hlz0 d0 d1 d2 d3 hnm hno hfo hfm hlw hlf hst2 hbad hrg
          have hlk := hlk0 (wr.alloc (.cells #[.string s, .int .i64 p, .int .i64 q, .int .i64 r] 27)) (balloc (Below.refl _ _) _)
          have hB1 : Below wr.heap.size wr (wr.alloc (.cells #[.string s, .int .i64 p, .int .i64 q, .int .i64 r] 27)) := balloc (Below.refl _ _) _
          have hstU := hst.below hB1
          have hsz := hSk.1
          have HST := Lib.hid (⟨hst2, hnm, hno, hfo, hfm, hlw, hlf⟩ : _ ∧ _ ∧ _ ∧ _ ∧ _ ∧ _ ∧ _)
          have HSTP := Lib.hid hstp'
          have HLZ := Lib.hid hlz0
          have HBAD := Lib.hid hbad
          have HRG := Lib.hid hrg
          clear hlk0 hcl hmt hl hS hst2 hbad hnm hno hfo hfm hlw hlf hstp hstp' hx hq hw hrg hSk hlz0 hII
          go_wp2_with (at_mapUpdate; refine wpList_mapUpdate_is _ rfl _ _ _ 67 rfl 9 4 kStr Try.underlying9 Try.underlying67 readsB (W.heap.size + 1) (nm S k) (fm S k) rfl hstU.m (by unfold maxLen; omega) s rfl hsz true rfl ?_)
          intro w1 hm1 htu1
          have hst1 := hstU.putM htu1 hm1
          have hg1 := htu1.grown
          have hne1 : ∀ j, wr.heap.size ≤ j → some j ≠ some (W.heap.size + 1) := fun j hj hh => by have := hst.top; injection hh; omega
          have hH1 : wr.heap.size < w1.heap.size := Nat.lt_of_lt_of_le (by simp) hg1.size
          have e0 : w1.cell? ⟨wr.heap.size, 0, none⟩ = some (.string s) := (hg1.cell_far ⟨wr.heap.size, 0, none⟩ (by simp) (hne1 _ (Nat.le_refl _))).trans (by simp)
          have e1 : w1.cell? ⟨wr.heap.size, 1, none⟩ = some (.int .i64 p) := (hg1.cell_far ⟨wr.heap.size, 1, none⟩ (by simp) (hne1 _ (Nat.le_refl _))).trans (by simp)
          have e2 : w1.cell? ⟨wr.heap.size, 2, none⟩ = some (.int .i64 q) := (hg1.cell_far ⟨wr.heap.size, 2, none⟩ (by simp) (hne1 _ (Nat.le_refl _))).trans (by simp)
          have e3 : w1.cell? ⟨wr.heap.size, 3, none⟩ = some (.int .i64 r) := (hg1.cell_far ⟨wr.heap.size, 3, none⟩ (by simp) (hne1 _ (Nat.le_refl _))).trans (by simp)
          have hlz := HLZ.out w1 hst1.bel
          have hTr := hst.top
          have hr14 := Lib.hid (fun g h => (hst.r1.lt g h).2)
          have hr15 := Lib.hid (fun g h => (hst.r2.lt g h).2)
          clear hst hstU hlk d0 d1 d2 d3 hB1 hm1 htu1 hg1 hne1 HLZ
          go_wp2_with fail
          refine (HSTP.out _).mono ?_
          rintro e w2 ⟨rfl, hb2⟩
          clear hlz HSTP
          have hb12 : Below w1.heap.size w1 w2 := bstep (balloc (Below.refl _ _) _) hb2
          have hH2 : w1.heap.size < w2.heap.size := Nat.lt_of_lt_of_le (by simp) hb2.size
          have hH3 : wr.heap.size < w2.heap.size := by omega
          have f0 : w2.cell? ⟨wr.heap.size, 0, none⟩ = some (.string s) := bc hb12 hH1 e0
          have f1 : w2.cell? ⟨wr.heap.size, 1, none⟩ = some (.int .i64 p) := bc hb12 hH1 e1
          have f2 : w2.cell? ⟨wr.heap.size, 2, none⟩ = some (.int .i64 q) := bc hb12 hH1 e2
          have f3 : w2.cell? ⟨wr.heap.size, 3, none⟩ = some (.int .i64 r) := bc hb12 hH1 e3
          have y0 : w2.cell? ⟨w1.heap.size, 0, none⟩ = some (.int .i64 za) := bc hb2 (by simp) (by simp)
          have y1 : w2.cell? ⟨w1.heap.size, 1, none⟩ = some (.int .i64 zb) := bc hb2 (by simp) (by simp)
          have y2 : w2.cell? ⟨w1.heap.size, 2, none⟩ = some (.int .i64 zc) := bc hb2 (by simp) (by simp)
          have y3 : w2.cell? ⟨w1.heap.size, 3, none⟩ = some (.int .i64 zd) := bc hb2 (by simp) (by simp)
          have hst2 := hst1.below hb12
          clear e0 e1 e2 e3 hst1 hb2 hb12
          by_cases her : er = 0
          · subst her
            have hrr := HRG.out rfl
            have hw1 : IntKind.i64.wrap (C - zc) = C - zc := by
              obtain ⟨h1, h2⟩ := hrr
              exact IntWalk.i64_in _ (by have := h1.2.2.1; have := h2.2.2.1; unfold amt at *; omega)
            have hw2 : IntKind.i64.wrap (D - zd) = D - zd := by
              obtain ⟨h1, h2⟩ := hrr
              exact IntWalk.i64_in _ (by have := h1.2.2.2; have := h2.2.2.2; unfold amt at *; omega)
            clear hrr HRG HBAD
            have hst3 := hst2.below (balloc (Below.refl _ _) (.cells #[.int .i64 A, .int .i64 B, .int .i64 C, .int .i64 D] 24))
            go_wp2_with (at_mapUpdate; refine wpList_mapUpdate_is _ rfl _ _ _ 46 rfl 9 24 kStr Try.underlying9 Try.underlying46 reads_sum W.heap.size (no g0 base S 0 k) (fo g0 base S k) rfl hst3.o (by unfold maxLen; omega) s rfl hsz (A, B, C, D) rfl ?_)
            intro w3 ho3 hto3
            have hst4 := hst3.putO hto3 ho3
            have hg3 := hto3.grown
            have hne3 : ∀ j, wr.heap.size ≤ j → some j ≠ some W.heap.size := fun j hj hh => by injection hh; omega
            have hbz : Below w2.heap.size w2 (w2.alloc (.cells #[.int .i64 A, .int .i64 B, .int .i64 C, .int .i64 D] 24)) := balloc (Below.refl _ _) _
            have i0 : w3.cell? ⟨wr.heap.size, 0, none⟩ = some (.string s) := (hg3.cell_far ⟨wr.heap.size, 0, none⟩ (by simp; omega) (hne3 _ (Nat.le_refl _))).trans (bc hbz hH3 f0)
            have j2 : w3.cell? ⟨w1.heap.size, 2, none⟩ = some (.int .i64 zc) := (hg3.cell_far ⟨w1.heap.size, 2, none⟩ (by simp; omega) (hne3 _ (Nat.le_of_lt hH1))).trans (bc hbz hH2 y2)
            have j3 : w3.cell? ⟨w1.heap.size, 3, none⟩ = some (.int .i64 zd) := (hg3.cell_far ⟨w1.heap.size, 3, none⟩ (by simp; omega) (hne3 _ (Nat.le_of_lt hH1))).trans (bc hbz hH2 y3)
            have l2 : w3.cell? ⟨w2.heap.size, 2, none⟩ = some (.int .i64 C) := (hg3.cell_far ⟨w2.heap.size, 2, none⟩ (by simp) (hne3 _ (Nat.le_of_lt hH3))).trans (by simp)
            have l3 : w3.cell? ⟨w2.heap.size, 3, none⟩ = some (.int .i64 D) := (hg3.cell_far ⟨w2.heap.size, 3, none⟩ (by simp) (hne3 _ (Nat.le_of_lt hH3))).trans (by simp)
            have hz3 : w2.heap.size < w3.heap.size := Nat.lt_of_lt_of_le (by simp) hg3.size
            clear hst2 hst3 f0 f1 f2 f3 y0 y1 y2 y3 hg3 hne3 hbz ho3 hto3
            have hput := Lib.hid (put_is (W.heap.size + 2) u14 (lw g0 base S k) s (C - zc) w3 hst4.r1 (by omega) hst4.top)
            go_wp2_with fail
            refine hput.out.mono ?_
            rintro e w4 ⟨v1, rfl, ho4, hg4, hv4⟩
            have hst5 := hst4.put1 hg4 ho4 hv4
            have hne4 : ∀ j, wr.heap.size ≤ j → some j ≠ u14.ownBlock := fun j hj hh => by have := hr14.out j hh.symm; omega
            have m0 : w4.cell? ⟨wr.heap.size, 0, none⟩ = some (.string s) := (hg4.cell_far ⟨wr.heap.size, 0, none⟩ (by dsimp only; omega) (hne4 _ (Nat.le_refl _))).trans i0
            have n3 : w4.cell? ⟨w1.heap.size, 3, none⟩ = some (.int .i64 zd) := (hg4.cell_far ⟨w1.heap.size, 3, none⟩ (by dsimp only; omega) (hne4 _ (Nat.le_of_lt hH1))).trans j3
            have o3 : w4.cell? ⟨w2.heap.size, 3, none⟩ = some (.int .i64 D) := (hg4.cell_far ⟨w2.heap.size, 3, none⟩ (by dsimp only; omega) (hne4 _ (Nat.le_of_lt hH3))).trans l3
            clear i0 j2 j3 l2 l3 hput hst4 ho4 hg4 hv4 hne4
            have hput := Lib.hid (put_is (W.heap.size + 2) u15 (lf g0 base S k) s (D - zd) w4 hst5.r2 (by omega) hst5.top)
            go_wp2_with fail
            refine hput.out.mono ?_
            rintro e w5 ⟨v2, rfl, ho5, hg5, hv5⟩
            have hst6 := hst5.put2 hg5 ho5 hv5
            clear m0 n3 o3 hput hst5 ho5 hg5 hv5 hw1 hw2 hH1 hH2 hH3 hTr hz3
            go_wp2_with fail
            obtain ⟨h1, h2, h3, h4, h5, h6, h7⟩ := HST.out
            rw [← h2, ← h3, ← h4, ← h5, ← h6, ← h7] at hst6
            go_roundw
            case rel => exact ⟨k + 1, by omega, by go_num, h1, hst6⟩
            case measure => simp [intOf]; omega
          · have her' : decide (er = 0) = false := decide_eq_false her
            have hbe := balloc hst2.bel (.cells #[.int .i64 A, .int .i64 B, .int .i64 C, .int .i64 D] 24)
            go_wp2_with fail
            refine bodyPost_ret (v := .tuple #[.map none, .slice none 0 0, .slice none 0 0, .int .i64 er]) (by simp [results, Try.results17, go_sem]) rfl ?_
            exact res_bad (HBAD.out her) her hbe
        · have hmt := fm_met hfr
          have her := aerr_twice (n := n) he0.out hfr ck
          have hlk0 : ∀ wx, Below wr.heap.size wr wx → (Instr.lookup 67 (.map (some (W.heap.size + 1))) (.string (S k).code) false).run Try.prog wx = .ok (.bool true) wx := fun wx hb => by
            have := (hst.below hb).m.look readsB kStr Try.underlying9 Try.underlying67 (zeroBool wx) hSk.1
            rwa [hmt] at this
          obtain ⟨⟨s, p, q, r⟩, hx⟩ : ∃ x, S k = x := ⟨_, rfl⟩
          rw [hx] at hSk hlk0
          have d0 := hcl 0 (.string s) (by rw [hx]; rfl)
          have d1 := hcl 1 (.int .i64 p) (by rw [hx]; rfl)
          have d2 := hcl 2 (.int .i64 q) (by rw [hx]; rfl)
          have d3 := hcl 3 (.int .i64 r) (by rw [hx]; rfl)
          rw [Nat.add_zero] at d0
          have hlk := hlk0 (wr.alloc (.cells #[.string s, .int .i64 p, .int .i64 q, .int .i64 r] 27)) (balloc (Below.refl _ _) _)
          have hB := balloc hst.bel (.cells #[.string s, .int .i64 p, .int .i64 q, .int .i64 r] 27)
          have HER := Lib.hid her
          clear hlk0 hcl hmt her hl hS
          go_wp2_with fail
          refine bodyPost_ret (v := .tuple #[.map none, .slice none 0 0, .slice none 0 0, .int .i64 7]) (by simp [results, Try.results17, go_sem]) rfl ?_
          exact res_bad HER.out (by omega) hB
      · obtain rfl : k = n := by omega
        go_wp2_with fail
        refine bodyPost_ret (v := .tuple #[.map (some W.heap.size), u14, u15, .int .i64 0]) (by simp [results, Try.results17, go_sem]) rfl ?_
        exact res_good he0.out hst

end Go.Proofs.Ytdmkjdlneadkcaa.W
