/- The list with one more in it: the ways of the law's three appends. -/
import Derived.Test.YtbnjgbllenndaaaGreatDoorTkT
import Derived.Test.YtbnjgbllenndaaaGreatDoorBlk
import Derived.StillTailTactics
import Derived.Deep.RegionHeld2
namespace Go.Proofs.YtbnjgbllenndaaaGreatDoor.S
open Go.Proofs.YtbnjgbllenndaaaGreatDoor.M
set_option linter.unusedVariables false
/-- What is told, with one more at place k. -/
def insT (L : Nat → Tt) (k : Nat) (x : Tt) : Nat → Tt := fun j => if j < k then L j else if j = k then x else L (j - 1)
theorem XR_add (c : Nat → List Value) (p : Nat) : ∀ m, XR c (p + m) = XR c p ++ XR (fun j => c (p + j)) m
  | 0 => by simp [XR]
  | m + 1 => by
    show XR c (p + m) ++ c (p + m) = XR c p ++ (XR _ m ++ c (p + m))
    rw [XR_add c p m, List.append_assoc]
theorem insT_row (L : Nat → Tt) (k m : Nat) (x : Tt) : XR (fun j => tcl (insT L k x j)) (k + 1 + m) = XR (fun j => tcl (L j)) k ++ tcl x ++ XR (fun j => tcl (L (k + j))) m := by
  rw [XR_add]
  congr 1
  · show XR _ k ++ tcl (insT L k x k) = _
    congr 1
    · refine XR_congr _ (fun j hj => ?_)
      unfold insT; rw [if_pos hj]
    · unfold insT; rw [if_neg (by omega), if_pos rfl]
  · refine XR_congr _ (fun j hj => ?_)
    unfold insT; rw [if_neg (by omega), if_neg (by omega), show k + 1 + j - 1 = k + j by omega]
end Go.Proofs.YtbnjgbllenndaaaGreatDoor.S
namespace Go.Proofs.YtbnjgbllenndaaaGreatDoor.W
open Go.RowKit Go.Proofs.YtbnjgbllenndaaaGreatDoor.M Go.Proofs.YtbnjgbllenndaaaGreatDoor.S
set_option linter.unusedVariables false

theorem infoTold : (Tryz.prog.info? 26).map (fun i => (i.zero, i.size, i.bytes)) = some (some (.agg #[.int .u8 0, .int .u32 0, .int .u16 0, .int .u16 0, .int .u16 0]), 5, 16) := by kernel_rfl
theorem tcl_one (x : Tt) : ∀ u ∈ tcl x, u.oneCell' = true := by
  intro u hu
  simp [tcl] at hu
  rcases hu with rfl | rfl | rfl | rfl | rfl <;> rfl
theorem lst_head {z : Nat} {w : World} {a : Option Addr} {n k : Nat} {c : Nat → List Value} (h : Lst z w a n c) (hk : k ≤ n) : Lst z w a k c :=
  ⟨Nat.le_trans (by omega) h.1, fun h0 => by
    obtain ⟨b, off, ha, hlt, hc⟩ := h.2 (by omega)
    exact ⟨b, off, ha, hlt, fun j hj => hc j (by omega)⟩⟩
theorem add_to (b off q : Nat) : (⟨b, off, none⟩ : Addr).add q = ⟨b, off + q, none⟩ := by unfold Addr.add; split <;> simp_all
theorem slice_tail (a : Option Addr) (i cap p : Nat) (hp : p ≤ i) (hic : i ≤ cap) (hcap : cap ≤ maxLen) (hnil : a = none → i = 0 ∧ cap = 0) :
    ∃ a2 : Option Addr, (∀ w, (Instr.slice 22 (.slice a i cap) (some (.int .i64 (p : Int))) none none).run Tryz.prog w = .ok (.slice a2 (i - p) (cap - p)) w) ∧
      (∀ (w : World) (c : Nat → List Value), Lst 5 w a i c → Lst 5 w a2 (i - p) (fun j => c (p + j))) ∧ (a2 = none → i - p = 0 ∧ cap - p = 0) := by
  refine ⟨if cap = p then a else a.map (·.add (p * 5)), fun w => ?_, fun w c h => ⟨by have := h.1; omega, fun h0 => ?_⟩, fun h => ?_⟩
  · have h1 : (p : Int) ≤ (i : Int) := by omega
    have h0 : (0 : Int) ≤ (p : Int) := by omega
    go_simp
  · obtain ⟨b, off, rfl, hlt, hc⟩ := h.2 (by omega)
    refine ⟨b, off + p * 5, ?_, hlt, fun j hj z u hu => ?_⟩
    · rw [if_neg (by omega)]
      show some ((⟨b, off, none⟩ : Addr).add (p * 5)) = _
      rw [add_to]
    · have := hc (p + j) (by omega) z u hu
      rw [show off + p * 5 + j * 5 + z = off + (p + j) * 5 + z by omega]
      exact this
  · by_cases e : cap = p
    · rw [if_pos e] at h
      have := hnil h; omega
    · rw [if_neg e] at h
      have := hnil (by simpa using h); omega
theorem slice_head (a : Option Addr) (i cap p : Nat) (hp : p ≤ i) (hic : i ≤ cap) :
    ∀ w, (Instr.slice 22 (.slice a i cap) none (some (.int .i64 (p : Int))) none).run Tryz.prog w = .ok (.slice a p cap) w := by
  intro w
  have h1 : (p : Int) ≤ (cap : Int) := by omega
  have h0 : (0 : Int) ≤ (p : Int) := by omega
  rcases a with _ | ⟨b, off, sp⟩
  · go_simp
  · cases sp <;> go_simp
theorem insT_ok {L : Nat → Tt} {k i : Nat} {x : Tt} (hL : ∀ j, j < i → (L j).ok) (hk : k ≤ i) (hx : x.ok) (j : Nat) (hj : j < i + 1) : (insT L k x j).ok := by
  unfold insT
  by_cases h1 : j < k
  · rw [if_pos h1]; exact hL j (by omega)
  · rw [if_neg h1]
    by_cases h2 : j = k
    · rw [if_pos h2]; exact hx
    · rw [if_neg h2]; exact hL (j - 1) (by omega)
/-- The facts behind the Cancel. -/
def F3 (L : Nat → Tt) (k i : Nat) (x : Tt) : Nat → Fc := app (fun j => tf (insT L k x j)) (i + 1) (can (k + 1))
theorem F3_last (L : Nat → Tt) (k i : Nat) (x : Tt) : F3 L k i x (i + 1) = can (k + 1) := by unfold F3 app; rw [if_neg (by omega)]
theorem F3_kind {L : Nat → Tt} {k i : Nat} {x : Tt} {j : Nat} (hj : j < i + 1) : (F3 L k i x j).kind = 2 := by unfold F3 app; rw [if_pos hj]; rfl
theorem F3_kinds {L : Nat → Tt} {k i : Nat} {x : Tt} (hk : k ≤ i) : Kinds (F3 L k i x) (i + 2) := fun j hj => by
  by_cases h : j < i + 1
  · exact .inl (F3_kind h)
  · refine .inr ⟨k, by omega, ?_⟩
    rw [show j = i + 1 by omega]; exact F3_last L k i x
theorem F3_bk {L : Nat → Tt} {k i : Nat} {x : Tt} (hk : k ≤ i) : bkf (F3 L k i x) (i + 2) (i + 2) = fun j => j == k :=
  bkf_one (fun j hj => by rw [F3_kind hj]; decide) (F3_last L k i x) (by omega)
theorem F3_ins {L : Nat → Tt} {k i : Nat} {x : Tt} (hk : k ≤ i) {j : Nat} (hj : j < i + 2) : F3 L k i x j = ins (fun j => tf (L j)) k i (tf x) (can (k + 1)) j := by
  unfold F3 app ins insT
  by_cases h1 : j < k
  · have h0 : j < i + 1 := by omega
    simp only [if_pos h0, if_pos h1]
  · by_cases h2 : j = k
    · have h0 : j < i + 1 := by omega
      simp only [if_pos h0, if_neg h1, if_pos h2]
    · by_cases h3 : j ≤ i
      · have h0 : j < i + 1 := by omega
        simp only [if_pos h0, if_neg h1, if_neg h2, if_pos h3]
      · have h0 : ¬ j < i + 1 := by omega
        simp only [if_neg h0, if_neg h1, if_neg h2, if_neg h3]
/-- What is chosen is the same, but for its numbers. -/
theorem same_facts (L : Nat → Tt) (k i : Nat) (x : Tt) (hk : k ≤ i) (p : Int) :
    (sel (F3 L k i x) (bkf (F3 L k i x) (i + 2) (i + 2)) p (i + 2)).map (·.2) = (sel (fun j => tf (L j)) (bkf (fun j => tf (L j)) i i) p i).map (·.2) := by
  rw [F3_bk hk, bkf_none (F := fun j => tf (L j)) i (fun j _ => by show (2 : Int) ≠ 18; decide)]
  rw [sel_congr (F := F3 L k i x) (G := ins (fun j => tf (L j)) k i (tf x) (can (k + 1))) (ck := fun j => j == k) p (i + 2) (fun j hj => ⟨F3_ins hk hj, rfl⟩)]
  exact sel_taken _ k i _ _ p hk (by show (18 : Int) ≠ 2; decide)
set_option maxRecDepth 100000 in
set_option maxHeartbeats 4000000 in
theorem topTaken (a : Option Addr) (i cap : Nat) (L : Nat → Tt) (v : Int) (x : Tt) (d : Int) (W : World) (hl : Lst 5 W a i (fun j => tcl (L j))) (hL : ∀ j, j < i → (L j).ok) (hnil : a = none → i = 0 ∧ cap = 0) (hic : i ≤ cap ∧ cap ≤ maxLen) (hv : 0 ≤ v ∧ v ≤ 255) (hx : x.ok) (hd : 0 ≤ d ∧ d ≤ 65535) :
    Calls Tryz.prog 3 #[.slice a i cap, .int .u8 v, tv x, .int .u16 d] W fun e w' => e = .returned (.bool true) ∧ Below W.heap.size W w' := by
  have HLL := Lib.hid hl
  have HK := Lib.hid hL
  have HTH := Lib.hid (fun w => there_is w)
  have HXO := Lib.hid hx
  have HXE : Hid (tcl x = [.int .u8 x.p, .int .u32 x.c, .int .u16 x.f, .int .u16 x.d, .int .u16 x.i]) := rfl
  have hB0 := Lib.hid (balloc (Below.refl W.heap.size W) (.cells #[.int .u8 x.p, .int .u32 x.c, .int .u16 x.f, .int .u16 x.d, .int .u16 x.i] 26))
  obtain ⟨hic1, hcap⟩ := hic
  clear hl hL hx
  unfold tv
  by_cases h30 : 30 < i
  · have h30' : (30 : Int) < (i : Int) := by omega
    clear hv hd
    go_enter Tryz.func3, Tryz.ntmps3
    go_wp2_with fail
    refine (HTH.out _).mono ?_
    rintro e w1 ⟨rfl, hb1⟩
    have hz := Lib.hid (bstep hB0.out hb1)
    clear hb1
    go_wp2_with fail
    go_ret
    exact ⟨rfl, hz.out⟩
  · have h30' : ¬ (30 : Int) < (i : Int) := by omega
    have w1 : IntKind.i64.wrap v = v := IntWalk.i64_in _ (by omega)
    have w2 : IntKind.i64.wrap ((i : Int) + 1) = (i : Int) + 1 := IntWalk.i64_in _ (by omega)
    obtain ⟨p, hp⟩ : ∃ p : Nat, v % ((i : Int) + 1) = (p : Int) := ⟨(v % ((i : Int) + 1)).toNat, by have := Int.emod_nonneg v (b := (i : Int) + 1) (by omega); omega⟩
    have hpi : p ≤ i := by have := Int.emod_lt_of_pos v (b := (i : Int) + 1) (by omega); omega
    have e1 : v.tmod ((i : Int) + 1) = (p : Int) := by rw [Int.tmod_eq_emod_of_nonneg hv.1]; exact hp
    have n1 : ((i : Int) + 1 == 0) = false := by rw [beq_eq_false_iff_ne]; omega
    have n2 : ¬ ((i : Int) + 1 = 0) := by omega
    have w3 : IntKind.i64.wrap (p : Int) = (p : Int) := IntWalk.i64_in _ (by omega)
    have w5 : IntKind.i64.wrap d = d := IntWalk.i64_in _ (by omega)
    have hi30 : i ≤ 30 := by omega
    have y0 : (W.alloc (.cells #[.int .u8 x.p, .int .u32 x.c, .int .u16 x.f, .int .u16 x.d, .int .u16 x.i] 26)).cell? ⟨W.heap.size, 0, none⟩ = some (.int .u8 x.p) := by simp
    have y1 : (W.alloc (.cells #[.int .u8 x.p, .int .u32 x.c, .int .u16 x.f, .int .u16 x.d, .int .u16 x.i] 26)).cell? ⟨W.heap.size, 1, none⟩ = some (.int .u32 x.c) := by simp
    have y2 : (W.alloc (.cells #[.int .u8 x.p, .int .u32 x.c, .int .u16 x.f, .int .u16 x.d, .int .u16 x.i] 26)).cell? ⟨W.heap.size, 2, none⟩ = some (.int .u16 x.f) := by simp
    have y3 : (W.alloc (.cells #[.int .u8 x.p, .int .u32 x.c, .int .u16 x.f, .int .u16 x.d, .int .u16 x.i] 26)).cell? ⟨W.heap.size, 3, none⟩ = some (.int .u16 x.d) := by simp
    have y4 : (W.alloc (.cells #[.int .u8 x.p, .int .u32 x.c, .int .u16 x.f, .int .u16 x.d, .int .u16 x.i] 26)).cell? ⟨W.heap.size, 4, none⟩ = some (.int .u16 x.i) := by simp
    have yl : W.heap.size < (W.alloc (.cells #[.int .u8 x.p, .int .u32 x.c, .int .u16 x.f, .int .u16 x.d, .int .u16 x.i] 26)).heap.size := by simp
    have HY := Lib.hid (And.intro y0 (And.intro y1 (And.intro y2 (And.intro y3 (And.intro y4 yl)))))
    clear y0 y1 y2 y3 y4 yl hp hv hd
    go_enter Tryz.func3, Tryz.ntmps3
    go_wp2_with fail
    refine (HTH.out _).mono ?_
    rintro e V ⟨rfl, hb1⟩
    have d0 := bc hb1 HY.out.2.2.2.2.2 HY.out.1
    have d1 := bc hb1 HY.out.2.2.2.2.2 HY.out.2.1
    have d2 := bc hb1 HY.out.2.2.2.2.2 HY.out.2.2.1
    have d3 := bc hb1 HY.out.2.2.2.2.2 HY.out.2.2.2.1
    have d4 := bc hb1 HY.out.2.2.2.2.2 HY.out.2.2.2.2.1
    have hbV : Hid (Below W.heap.size W V) := bstep hB0.out hb1
    have hlt0 : W.heap.size < V.heap.size := Nat.lt_of_lt_of_le HY.out.2.2.2.2.2 hb1.size
    clear hb1 hB0 HY HTH
    go_upto_region 6 with fail
    clear w1 w2 e1 n1 n2
    have hs1 := slice_head a i cap p hpi hic1
    obtain ⟨a2, hs2, hq2, hn2⟩ := slice_tail a i cap p hpi hic1 hcap hnil
    obtain ⟨m2, hm2⟩ : ∃ m, i - p = m := ⟨_, rfl⟩
    obtain ⟨c2, hc2⟩ : ∃ m, cap - p = m := ⟨_, rfl⟩
    rw [hm2, hc2] at hs2 hn2
    rw [hm2] at hq2
    obtain ⟨Q, hQd⟩ : ∃ Q, Q = L := ⟨_, rfl⟩
    have HQD := Lib.hid hQd
    have HQA : Hid (Lst 5 V a i (fun j => tcl (Q j))) := by rw [hQd]; exact HLL.out.step hbV.out
    have HQP : Hid (Lst 5 V a p (fun j => tcl (Q j))) := lst_head HQA.out hpi
    have HQ2 : Hid (∀ w : World, Lst 5 w a i (fun j => tcl (Q j)) → Lst 5 w a2 m2 (fun j => tcl (Q (p + j)))) := fun w h => hq2 w _ h
    have hnilp : a = none → p = 0 ∧ cap = 0 := fun h => by have := hnil h; omega
    have hnil2 : a2 = none → m2 = 0 ∧ c2 = 0 := hn2
    have hm3 : p + m2 = i := by omega
    have HM := Lib.hid hm3
    have hm4 : p + m2 ≤ 1000 := by omega
    obtain ⟨ie, hie, he0, he1, he2⟩ := info_parts infoTold
    obtain ⟨⟨xp, xc, xf, xd, xi⟩, hxe⟩ : ∃ y, x = y := ⟨_, rfl⟩
    have HXX := Lib.hid hxe
    rw [hxe] at d0 d1 d2 d3 d4
    simp only at d0 d1 d2 d3 d4
    rw [hxe]
    simp only
    have HNIL := Lib.hid hnil
    clear hq2 hn2 hm2 hc2 hQd hm3 hxe hnil
    go_cut [10] (fun s10 wx => ∃ ad cp, s10 = .slice ad (i + 1) cp ∧ Hid (Lst 5 wx ad (i + 1) (fun j => tcl (insT L p x j))) ∧ Hid (Below V.heap.size V wx))
    case first =>
        go_region_held2 (fun w' => Below V.heap.size V w' ∧ ∀ b o, b < V.heap.size → w'.cell? ⟨b, o, none⟩ = V.cell? ⟨b, o, none⟩)
        ((refine keepS ?_; first | with_reducible exact (Below.refl _ _).drew | with_reducible exact hB5 | with_reducible exact hB6 | with_reducible exact hB7 | with_reducible exact balloc (And.left (by assumption)) _ | with_reducible exact balloc_drew (And.left (by assumption)) _))
        (first | ((with_reducible refine if_step ?_); refine step_append_lst rfl (.tmp 32) (.tmp 35) 22 rfl V.heap.size 26 ie (.agg #[.int .u8 0, .int .u32 0, .int .u16 0, .int .u16 0, .int .u16 0]) 5 16 Tryz.underlying22 hie he0 he1 he2 rfl (by decide) _ 0 [] rfl (own_blk (by first | with_reducible exact blk_t00 | with_reducible exact blk_t10 | with_reducible exact blk_t11 | with_reducible exact blk_t20 | with_reducible exact blk_t21 | with_reducible exact blk_t22 | with_reducible exact blk_drew blk_t00 | with_reducible exact blk_drew blk_t10 | with_reducible exact blk_drew blk_t11 | with_reducible exact blk_drew blk_t20 | with_reducible exact blk_drew blk_t21 | with_reducible exact blk_drew blk_t22) (by first | exact Nat.le_refl _ | omega)) a p cap (fun j => tcl (Q j)) (fun j => rfl) (fun j => tcl_one (Q j)) rfl (HQP.out.step (And.left (by assumption))) hnilp (by unfold maxLen; omega) (by omega) (szS (by assumption)) ?_; intro v1 w5 hown1 hgr1; have hB5 : Below V.heap.size V w5 := grS (by assumption) hgr1 (fun z hz => by simp [Act.eval, Value.ownBlock] at hz; omega); rw [Nat.zero_add, List.nil_append] at hown1; (try (refine lay_sl (u := .cells #[.int .u8 xp, .int .u32 xc, .int .u16 xf, .int .u16 xd, .int .u16 xi] 26 (0, 0)) (.tmp 38) rfl (blk_grown hgr1 (by first | with_reducible exact blk_t00 | with_reducible exact blk_t10 | with_reducible exact blk_t11 | with_reducible exact blk_t20 | with_reducible exact blk_t21 | with_reducible exact blk_t22 | with_reducible exact blk_drew blk_t00 | with_reducible exact blk_drew blk_t10 | with_reducible exact blk_drew blk_t11 | with_reducible exact blk_drew blk_t20 | with_reducible exact blk_drew blk_t21 | with_reducible exact blk_drew blk_t22) (by simp [Act.eval, Value.ownBlock] <;> omega)) ?_; intro e39))) | ((with_reducible refine if_step ?_); refine step_append_lies (w := _) rfl (.tmp 36) (.tmp 38) 22 rfl V.heap.size 26 ie (.agg #[.int .u8 0, .int .u32 0, .int .u16 0, .int .u16 0, .int .u16 0]) 5 16 Tryz.underlying22 hie he0 he1 he2 rfl (by decide) v1 p _ rfl (by first | with_reducible exact hown1 | with_reducible exact hown1.alloc _ | with_reducible exact hown1.drew | with_reducible exact (hown1.alloc _).drew) _ 1 1 [.int .u8 xp, .int .u32 xc, .int .u16 xf, .int .u16 xd, .int .u16 xi] rfl rfl (World.news_of_block (by first | with_reducible exact e39 | with_reducible exact blk_old e39 | with_reducible exact blk_t00 | with_reducible exact blk_t10 | with_reducible exact blk_t11 | with_reducible exact blk_t20 | with_reducible exact blk_t21 | with_reducible exact blk_t22 | with_reducible exact blk_drew blk_t00 | with_reducible exact blk_drew blk_t10 | with_reducible exact blk_drew blk_t11 | with_reducible exact blk_drew blk_t20 | with_reducible exact blk_drew blk_t21 | with_reducible exact blk_drew blk_t22 | with_reducible exact blk_drew (e39) | with_reducible exact blk_drew (blk_old e39))) (by intro z hz; simp at hz; rcases hz with rfl | rfl | rfl | rfl | rfl <;> rfl) (by decide) (by unfold maxLen; omega) (by omega) (szS (by assumption)) _ rfl ?_; intro g cp w6 hown2 hgr2 hat2 hglt2; have hB6 : Below V.heap.size V w6 := grS (by assumption) hgr2 (fun z hz => (hown1.lt z hz).1)) | ((with_reducible refine if_step ?_); refine step_append_lst rfl (.tmp 39) (.tmp 42) 22 rfl V.heap.size 26 ie (.agg #[.int .u8 0, .int .u32 0, .int .u16 0, .int .u16 0, .int .u16 0]) 5 16 Tryz.underlying22 hie he0 he1 he2 rfl (by decide) _ (p + 1) _ rfl hown2 a2 m2 c2 (fun j => tcl (Q (p + j))) (fun j => rfl) (fun j => tcl_one (Q (p + j))) rfl (HQ2.out _ (HQA.out.step (And.left (by assumption)))) hnil2 (by unfold maxLen; omega) (by omega) (szS (by assumption)) ?_; intro v3 w7 hown3 hgr3; have hB7 : Below V.heap.size V w7 := grS (by assumption) hgr3 (fun z hz => (hown2.lt z hz).1)))
        all_goals
          go_wp2_with fail
          go_meet
          have hown4 : w7.ownsRow V.heap.size 26 5 v3 (p + 1 + m2) (XR (fun j => tcl (insT L p x j)) (p + 1 + m2)) := by rw [insT_row, ← HQD.out, HXX.out]; exact hown3
          rw [show p + 1 + m2 = i + 1 by have := HM.out; omega] at hown4
          obtain ⟨a5, cap5, hv5, hl5⟩ := own_lst (z := 5) (fun j => rfl) hown4 (by omega)
          exact ⟨a5, cap5, hv5, hl5, hB7⟩
    case rest =>
      obtain ⟨ad, cp, rfl, hlw, hbc⟩ := hcut
      have hbC : Hid (Below W.heap.size W wc) := bstep hbV.out hbc.out
      have HT1 := Lib.hid (told_is L i (by omega) HK.out a cap wc (HLL.out.step hbC.out))
      have HT2 := Lib.hid (fun (w : World) (h : Below wc.heap.size wc w) => told_is (insT L p x) (i + 1) (by omega) (insT_ok HK.out hpi HXO.out) ad cp w (hlw.out.step h))
      clear hlt0 d0 d1 d2 d3 d4 hs1 hs2 HQA HQP HQ2 hnilp hnil2 hie he0 he1 he2 hlw hbc hbV
      go_wp2_with fail
      refine HT1.out.mono ?_
      rintro e w1 ⟨a3, cap3, rfl, hl3, hc3, hn3, hb3⟩
      unfold st
      have hA3 := balloc hb3 (.cells #[.slice a3 i cap3] 30)
      have s0 : (w1.alloc (.cells #[.slice a3 i cap3] 30)).cell? ⟨w1.heap.size, 0, none⟩ = some (.slice a3 i cap3) := by simp
      have sl : w1.heap.size < (w1.alloc (.cells #[.slice a3 i cap3] 30)).heap.size := by simp
      have HL3 := Lib.hid (hl3.step (balloc (Below.refl w1.heap.size w1) (.cells #[.slice a3 i cap3] 30)))
      have HC3 := Lib.hid (And.intro hc3 hn3)
      have HS := Lib.hid (And.intro s0 (And.intro sl hA3))
      clear hl3 hc3 hn3 hb3 hA3 s0 sl HT1
      go_upto_region 8 with fail
      generalize w1.alloc (.cells #[.slice a3 i cap3] 30) = V1 at *
      obtain ⟨PS, hPS⟩ : ∃ m, w1.heap.size = m := ⟨_, rfl⟩
      rw [hPS] at HS ⊢
      clear hPS
      go_wp2_with fail
      refine (HT2.out _ HS.out.2.2).mono ?_
      rintro e w2 ⟨a4, cap4, rfl, hl4, hc4, hn4, hb4⟩
      unfold st
      have hA4 := balloc hb4 (.cells #[.slice a4 (i + 1) cap4] 30)
      have t0 : (w2.alloc (.cells #[.slice a4 (i + 1) cap4] 30)).cell? ⟨w2.heap.size, 0, none⟩ = some (.slice a4 (i + 1) cap4) := by simp
      have tfz : (w2.alloc (.cells #[.slice a4 (i + 1) cap4] 30)).frozen? ⟨w2.heap.size, 0, none⟩ = false := World.frozen?_alloc_at _ _ _ _ rfl
      have tl : w2.heap.size < (w2.alloc (.cells #[.slice a4 (i + 1) cap4] 30)).heap.size := by simp
      have hge : V1.heap.size ≤ w2.heap.size := hb4.size
      have HL4 := Lib.hid (hl4.step (balloc (Below.refl w2.heap.size w2) (.cells #[.slice a4 (i + 1) cap4] 30)))
      have HC4 := Lib.hid (And.intro hc4 hn4)
      have HTT := Lib.hid (And.intro t0 (And.intro tfz (And.intro tl (And.intro hge hA4))))
      clear hl4 hc4 hn4 hb4 hA4 t0 tfz tl hge HT2
      go_upto_region 9 with fail
      generalize w2.alloc (.cells #[.slice a4 (i + 1) cap4] 30) = V2 at *
      obtain ⟨PT, hPT⟩ : ∃ m, w2.heap.size = m := ⟨_, rfl⟩
      rw [hPT] at HTT ⊢
      clear hPT
      obtain ⟨m, hm⟩ : ∃ m : Int, ((p + 1 : Nat) : Int) = m := ⟨_, rfl⟩
      have w8 : IntKind.i64.wrap ((p : Int) + 1) = m := by rw [IntWalk.i64_in _ (by omega)]; omega
      have HAD := Lib.hid (add_is (fun j => tf (insT L p x j)) (i + 1) (by omega) (can (p + 1)) a4 cap4 V2 HL4.out HC4.out.1 HC4.out.2 (fun w => check_can (p + 1) (by omega) (by omega) w) (fun w h => cancel_can _ (i + 1) (fun j _ => rfl) p (by omega) a4 cap4 w h (by omega)))
      have hfv : fv (can (p + 1)) = .agg #[.int .u32 0, .int .u32 0, .int .i64 18, .int .i64 0, .int .i64 0, .string ⟨#[]⟩, .int .i64 m, .string ⟨#[]⟩] := by rw [← hm]; rfl
      rw [hfv] at HAD
      change Hid (Calls _ _ _ _ (AddOut (F3 L p i x) (i + 1 + 1) V2)) at HAD
      unfold st at HAD
      clear hfv hm
      have t0 := HTT.out.1
      have tfz := HTT.out.2.1
      go_wp2_with fail
      refine HAD.out.mono ?_
      rintro e w3 ⟨a5, cap5, rfl, hl5, hc5, hn5, hb5, hf5⟩
      have HL5 := Lib.hid hl5
      have HC5 := Lib.hid (And.intro hc5 hn5)
      have HF5 : Hid (∀ z, a5 = some z → z.block ≠ PT) := fun z hz => by have h1 := hf5 z hz; have h2 := HTT.out.2.2.1; omega
      have HB5 := Lib.hid hb5
      clear t0 tfz hl5 hc5 hn5 hb5 hf5 HAD
      unfold st
      have t0 := bc HB5.out HTT.out.2.2.1 HTT.out.1
      have tfz := bf HB5.out HTT.out.2.2.1 HTT.out.2.1
      have hS3 := bc HB5.out (Nat.lt_of_lt_of_le HS.out.2.1 (Nat.le_trans HTT.out.2.2.2.1 (Nat.le_of_lt HTT.out.2.2.1))) (bc HTT.out.2.2.2.2 HS.out.2.1 HS.out.1)
      have hne : PS ≠ PT := by have := HS.out.2.1; have := HTT.out.2.2.2.1; omega
      have HLT : Hid (Lst 8 (w3.setCell ⟨PT, 0, none⟩ (.slice a5 (i + 1 + 1) cap5)) a5 (i + 2) (fun j => fcl (F3 L p i x j))) := HL5.out.set HF5.out _
      have HLS0 : Lst 8 w3 a3 i (fun j => fcl (tf (L j))) := (HL3.out.step HTT.out.2.2.2.2).step HB5.out
      have HZS0 : w3.heap.size = (w3.setCell ⟨PT, 0, none⟩ (.slice a5 (i + 1 + 1) cap5)).heap.size := by simp
      have HLS : Hid (Lst 8 (w3.setCell ⟨PT, 0, none⟩ (.slice a5 (i + 1 + 1) cap5)) a3 i (fun j => fcl (tf (L j)))) := by
        rcases Nat.eq_zero_or_pos i with h | h
        · exact ⟨by omega, fun h' => absurd h' (by omega)⟩
        · obtain ⟨b, o, e, hlt, _⟩ := HL3.out.2 h
          exact HLS0.set (fun z hz => by rw [e] at hz; injection hz with hz; subst hz; have := HTT.out.2.2.2.1; show b ≠ PT; omega) _
      have z0 : (w3.setCell ⟨PT, 0, none⟩ (.slice a5 (i + 1 + 1) cap5)).cell? ⟨PS, 0, none⟩ = some (.slice a3 i cap3) := (World.cell?_setCell_far w3 ⟨PT, 0, none⟩ ⟨PS, 0, none⟩ _ (fun e => hne e.symm)).trans hS3
      have z1 : (w3.setCell ⟨PT, 0, none⟩ (.slice a5 (i + 1 + 1) cap5)).cell? ⟨PT, 0, none⟩ = some (.slice a5 (i + 1 + 1) cap5) := World.cell?_setCell_same _ _ _ t0
      have zs1 : PT < (w3.setCell ⟨PT, 0, none⟩ (.slice a5 (i + 1 + 1) cap5)).heap.size := by rw [← HZS0]; exact Nat.lt_of_lt_of_le HTT.out.2.2.1 HB5.out.size
      have hWC : wc.heap.size ≤ PT := by have := HS.out.2.2.size; have := HTT.out.2.2.2.1; omega
      have hbZ : Hid (Below W.heap.size W (w3.setCell ⟨PT, 0, none⟩ (.slice a5 (i + 1 + 1) cap5))) := by
        have h1 := bstep hbC.out HS.out.2.2
        have h2 := bstep h1 HTT.out.2.2.2.2
        have h3 := bstep h2 HB5.out
        exact h3.setCell (p := ⟨PT, 0, none⟩) (by have := hbC.out.size; show W.heap.size ≤ PT; omega) _
      have HPP : Hid (PS < PT) := by have := HS.out.2.1; have := HTT.out.2.2.2.1; show _ < _; omega
      have HZ := Lib.hid (And.intro z0 (And.intro z1 zs1))
      clear HZS0 HLS0 hS3
      go_upto_region 14 with fail
      clear t0 tfz z0 z1 zs1 hne hWC
      generalize (w3.setCell ⟨PT, 0, none⟩ (.slice a5 (i + 1 + 1) cap5)) = Z at *
      go_wp2_with fail
      go_loopw [70] (fun s70 wx => ∃ q : Nat, q ≤ 257 ∧ s70 = .int .u32 q ∧ Hid (Below Z.heap.size Z wx)) (fun s70 _ => 257 - (intOf s70).toNat)
      case atStart => exact ⟨0, by omega, rfl, Below.refl _ _⟩
      case round =>
        obtain ⟨q, hq, rfl, hbw⟩ := hrel
        by_cases cq : q < 257
        · have cq' : (q : Int) < 257 := by omega
          have wq : IntKind.u32.wrap ((q : Int) + 1) = (q : Int) + 1 := by simp [IntKind.wrap, IntKind.bits, IntKind.signed]; omega
          obtain ⟨N2, hN2⟩ : ∃ N2, i + 2 = N2 := ⟨_, rfl⟩
          have w9 : IntKind.i64.wrap ((i : Int) + 2) = (N2 : Int) := by rw [IntWalk.i64_in _ (by omega)]; omega
          have hsame := same_facts L p i x hpi (q : Int)
          have HAT1 := Lib.hid (fun w => at_is a3 i cap3 (by omega) HC3.out.1 HC3.out.2 w)
          have HFA1 := Lib.hid (fun a w h => facts_is (fun j => tf (L j)) i (by omega) (kinds_sal (fun j _ => rfl)) a w h (q : Int))
          have HAT2 := Lib.hid (fun w => at_is a5 (i + 2) cap5 (by omega) HC5.out.1 (fun h => HC5.out.2 h) w)
          have HFA2 := Lib.hid (fun a w h => facts_is (F3 L p i x) (i + 2) (by omega) (F3_kinds hpi) a w h (q : Int))
          have hl1 := sel_len (fun j => tf (L j)) (bkf (fun j => tf (L j)) i i) (q : Int) i
          have hl2 := sel_len (F3 L p i x) (bkf (F3 L p i x) (i + 2) (i + 2)) (q : Int) (i + 2)
          have hu1 := sel_up (fun j => tf (L j)) (bkf (fun j => tf (L j)) i i) (q : Int) i
          have hu2 := sel_up (F3 L p i x) (bkf (F3 L p i x) (i + 2) (i + 2)) (q : Int) (i + 2)
          obtain ⟨xs1, hx1⟩ : ∃ xs, sel (fun j => tf (L j)) (bkf (fun j => tf (L j)) i i) (q : Int) i = xs := ⟨_, rfl⟩
          obtain ⟨xs2, hx2⟩ : ∃ xs, sel (F3 L p i x) (bkf (F3 L p i x) (i + 2) (i + 2)) (q : Int) (i + 2) = xs := ⟨_, rfl⟩
          rw [hx1] at hsame HFA1 hl1 hu1
          rw [hx2] at hsame HFA2 hl2 hu2
          have HOF1 := Lib.hid (fun a cap w h hn => of_is xs1 (by omega) a cap w h hn)
          have HOF2 := Lib.hid (fun a cap w h hn => of_is xs2 (by omega) a cap w h hn)
          have HLA1 := Lib.hid (fun a cap w h => lat_is xs1 (by omega) hu1 a cap d w h)
          have HLA2 := Lib.hid (fun a cap w h => lat_is xs2 (by omega) hu2 a cap d w h)
          rw [hsame] at HLA2
          unfold AtOut at HLA1 HLA2
          obtain ⟨nm, hnm⟩ : ∃ z, numAt (xs1.map (·.2)) d = z := ⟨_, rfl⟩
          obtain ⟨ok, hok⟩ : ∃ z, okAt (xs1.map (·.2)) d = z := ⟨_, rfl⟩
          rw [hnm, hok] at HLA1 HLA2
          have nb : (ok != ok) = false := by simp
          have nn : (nm != nm) = false := by simp
          clear hsame hx1 hx2 hl1 hl2 hu1 hu2 hnm hok
          unfold st at HAT1 HAT2
          have HLS2 : Hid (Lst 8 Z a5 (i + 2) (fun j => fcl (F3 L p i x j))) := HLT.out
          have HCT : Hid (Z.cell? ⟨PT, 0, none⟩ = some (.slice a5 (i + 2) cap5)) := HZ.out.2.1
          rw [hN2] at HAT2 HFA2 HLS2 HCT
          clear hN2
          have z0 := bc hbw.out (Nat.lt_trans HPP.out HZ.out.2.2) HZ.out.1
          go_wp2_with fail
          refine (HAT1.out _).mono ?_
          rintro e q1a ⟨⟨q1x, rfl, q1h⟩, q1b⟩
          have HV1 := Lib.hid (lst_view ((HLS.out.step hbw.out).step q1b) q1h)
          have HBa1 := Lib.hid (bstep hbw.out q1b)
          clear q1h q1b z0
          go_wp2_with fail
          refine (HFA1.out _ _ HV1.out).mono ?_
          rintro e q1c ⟨q1y, q1z, rfl, q1l, q1n, q1d⟩
          have HW1 := Lib.hid (And.intro q1l q1n)
          have HBb1 := Lib.hid (bstep HBa1.out q1d)
          clear q1l q1n q1d
          go_wp2_with fail
          refine (HOF1.out _ _ _ HW1.out.1 HW1.out.2).mono ?_
          rintro e q1e ⟨q1f, q1g, rfl, q1i, q1j⟩
          have HX1 := Lib.hid q1i
          have HBc1 := Lib.hid (bstep HBb1.out q1j)
          clear q1i q1j
          go_wp2_with fail
          refine (HLA1.out _ _ _ HX1.out).mono ?_
          rintro e q1k ⟨q1N, rfl, q1m⟩
          have HBd1 := Lib.hid (bstep HBc1.out q1m)
          clear q1m
          have hA1 := balloc HBd1.out (.cells #[.int .i64 q1N, .int .i64 nm, .string ⟨#[]⟩] 40)
          have u1 : (q1k.alloc (.cells #[.int .i64 q1N, .int .i64 nm, .string ⟨#[]⟩] 40)).cell? ⟨q1k.heap.size, 1, none⟩ = some (.int .i64 nm) := by simp
          have ul : q1k.heap.size < (q1k.alloc (.cells #[.int .i64 q1N, .int .i64 nm, .string ⟨#[]⟩] 40)).heap.size := by simp
          have HU := Lib.hid (And.intro u1 (And.intro ul hA1))
          clear u1 ul hA1
          go_upto_region 18 with fail
          generalize q1k.alloc (.cells #[.int .i64 q1N, .int .i64 nm, .string ⟨#[]⟩] 40) = Y at *
          obtain ⟨PU, hPU⟩ : ∃ m, q1k.heap.size = m := ⟨_, rfl⟩
          rw [hPU] at HU ⊢
          clear hPU
          have HYB : Hid (Below Z.heap.size Z Y) := HU.out.2.2
          have z1 := bc HYB.out HZ.out.2.2 HCT.out
          go_wp2_with fail
          refine (HAT2.out _).mono ?_
          rintro e q2a ⟨⟨q2x, rfl, q2h⟩, q2b⟩
          have HV2 := Lib.hid (lst_view ((HLS2.out.step HYB.out).step q2b) q2h)
          have HBy2 := Lib.hid q2b
          have HBa2 := Lib.hid (bstep HYB.out q2b)
          clear q2h q2b z1
          go_wp2_with fail
          refine (HFA2.out _ _ HV2.out).mono ?_
          rintro e q2c ⟨q2y, q2z, rfl, q2l, q2n, q2d⟩
          have HW2 := Lib.hid (And.intro q2l q2n)
          have HBb2 := Lib.hid (bstep HBa2.out q2d)
          have HBy3 := Lib.hid (bstep HBy2.out q2d)
          clear q2l q2n q2d
          go_wp2_with fail
          refine (HOF2.out _ _ _ HW2.out.1 HW2.out.2).mono ?_
          rintro e q2e ⟨q2f, q2g, rfl, q2i, q2j⟩
          have HX2 := Lib.hid q2i
          have HBc2 := Lib.hid (bstep HBb2.out q2j)
          have HBy4 := Lib.hid (bstep HBy3.out q2j)
          clear q2i q2j
          go_wp2_with fail
          refine (HLA2.out _ _ _ HX2.out).mono ?_
          rintro e q2k ⟨q2N, rfl, q2m⟩
          have HBd2 := Lib.hid (bstep HBc2.out q2m)
          have HYK := Lib.hid (bstep HBy4.out q2m)
          clear q2m
          have u1 := bc HYK.out HU.out.2.1 HU.out.1
          have hA2 := balloc HBd2.out (.cells #[.int .i64 q2N, .int .i64 nm, .string ⟨#[]⟩] 40)
          have HA2 := Lib.hid hA2
          have hA3 := balloc HYK.out (.cells #[.int .i64 q2N, .int .i64 nm, .string ⟨#[]⟩] 40)
          have u2 := bc hA3 HU.out.2.1 HU.out.1
          clear hA2 hA3 u1
          go_wp2_with fail
          go_roundw
          case rel => exact ⟨q + 1, by omega, by go_num, HA2.out⟩
          case measure => simp [intOf]; omega
        · obtain rfl : q = 257 := by omega
          have cq' : ¬ ((257 : Nat) : Int) < 257 := by omega
          go_wp2_with fail
          go_ret
          exact ⟨rfl, bstep hbZ.out hbw.out⟩
end Go.Proofs.YtbnjgbllenndaaaGreatDoor.W
