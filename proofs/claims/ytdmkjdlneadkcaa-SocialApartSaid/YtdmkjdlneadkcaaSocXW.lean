/- SocialApart: the walk. -/
import Derived.Test.YtdmkjdlneadkcaaSocXL
import Derived.Test.YtdmkjdlneadkcaaSocXO
import Derived.Test.YtdmkjdlneadkcaaSocT
import Derived.Test.YtdmkjdlneadkcaaBlk
import Derived.Deep.RegionHeld2
import Derived.BigQuiet
import Derived.Deep.DeepCutAuto
namespace Go.Proofs.Ytdmkjdlneadkcaa.W
open Go.RowKit Go.Proofs.Ytdmkjdlneadkcaa.M Go.Proofs.Ytdmkjdlneadkcaa.B Go.Proofs.Ytdmkjdlneadkcaa.S
set_option linter.unusedVariables false

theorem infoScheme : (Try.prog.info? 27).map (fun i => (i.zero, i.size, i.bytes)) = some (some (.agg #[.string ByteArray.empty, .int .i64 0, .int .i64 0, .int .i64 0]), 4, 40) := by kernel_rfl

theorem sc_one (x : Sch) : ∀ u ∈ scells x, u.oneCell' = true := by
  intro u hu
  simp [scells] at hu
  rcases hu with rfl | rfl | rfl | rfl <;> rfl
theorem lst_plus {w : World} {base : Nat} {E : TypeId} {g cp j : Nat} {S : Nat → Sch} {s : ByteArray} {t1 t2 t3 : Int} (h : w.ownsRow base E 4 (.slice (some ⟨g, 0, none⟩) (j + 1) cp) (j + 1) (XR (fun q => scells (S q)) j ++ [.string s, .int .i64 t1, .int .i64 t2, .int .i64 t3])) (hj : j ≤ 1000) :
    Lst 4 w (some ⟨g, 0, none⟩) (j + 1) (fun q => scells (plus S j ⟨s, t1, t2, t3⟩ q)) := by
  have e : XR (fun q => scells (S q)) j ++ [.string s, .int .i64 t1, .int .i64 t2, .int .i64 t3] = XR (fun q => scells (plus S j ⟨s, t1, t2, t3⟩ q)) (j + 1) := by
    show _ = XR _ j ++ scells _
    have e1 : plus S j ⟨s, t1, t2, t3⟩ j = ⟨s, t1, t2, t3⟩ := by unfold plus; rw [if_neg (by omega)]
    rw [e1, XR_congr j (d := fun q => scells (plus S j ⟨s, t1, t2, t3⟩ q)) (fun q hq => by unfold plus; rw [if_pos hq])]
    rfl
  rw [e] at h
  obtain ⟨a, cap, hv, hl⟩ := own_lst (z := 4) (fun q => rfl) h (by omega)
  injection hv with h1 h2 h3
  subst h1
  exact hl

set_option maxRecDepth 100000 in
set_option maxHeartbeats 8000000 in
theorem socialApart (base : Int) (a : Option Addr) (n cap : Nat) (S : Nat → Sch) (s : ByteArray) (t1 t2 t3 : Int) (W : World) (hl : Lst 4 W a n (fun j => scells (S j))) (hS : ∀ j, j < n → okS (S j)) (hnil : a = none → n = 0 ∧ cap = 0) (hm : okS ⟨s, t1, t2, t3⟩) (hb : I64 base) :
    Calls Try.prog 9 #[.int .i64 base, .slice a n cap, .agg #[.string s, .int .i64 t1, .int .i64 t2, .int .i64 t3]] W fun e w' => e = .returned (.bool true) ∧ Below W.heap.size W w' := by
  have hn0 := hl.1
  have hs0 := hm.1
  go_enter Try.func9, Try.ntmps9
  go_wp2_with fail
  refine (awake_any _).mono ?_
  rintro e w1 ⟨rfl, hb1⟩
  have hB1 : Below W.heap.size W w1 := bstep (balloc (Below.refl _ _) _) hb1
  have hlt0 : W.heap.size < w1.heap.size := Nat.lt_of_lt_of_le (by simp) hb1.size
  have p0 : w1.cell? ⟨W.heap.size, 0, none⟩ = some (.string s) := bc hb1 (by simp) (by simp)
  have p1 : w1.cell? ⟨W.heap.size, 1, none⟩ = some (.int .i64 t1) := bc hb1 (by simp) (by simp)
  have p2 : w1.cell? ⟨W.heap.size, 2, none⟩ = some (.int .i64 t2) := bc hb1 (by simp) (by simp)
  have p3 : w1.cell? ⟨W.heap.size, 3, none⟩ = some (.int .i64 t3) := bc hb1 (by simp) (by simp)
  by_cases n20 : 20 < n
  · have n20' : (20 : Int) < (n : Int) := by omega
    go_wp2_with fail
    go_ret
    exact ⟨rfl, hB1⟩
  by_cases s300 : 300 < s.size
  · have n20' : ¬ (20 : Int) < (n : Int) := by omega
    have s300' : (300 : Int) < (s.size : Int) := by omega
    go_wp2_with fail
    go_ret
    exact ⟨rfl, hB1⟩
  have n20' : ¬ (20 : Int) < (n : Int) := by omega
  have s300' : ¬ (300 : Int) < (s.size : Int) := by omega
  have hw0 : IntKind.i64.wrap ((n : Int) - 1) = (n : Int) - 1 := IntWalk.i64_in _ (by omega)
  go_wp2_with fail
  clear hb1
  go_loopw [7, 8] (fun s7 s8 wx => ∃ i j : Nat, i + j = n ∧ s8 = .int .i64 ((i : Int) - 1) ∧ wx.ownsRow w1.heap.size 27 4 s7 j (XR (fun q => scells (back S n q)) j) ∧ Below w1.heap.size w1 wx) (fun _ s8 _ => (intOf s8 + 1).toNat)
  case atStart => exact ⟨n, 0, by omega, rfl, World.ownsRow_nil _ _ _ _, Below.refl _ _⟩
  case round =>
    obtain ⟨i, j, hij, rfl, hown, hbel⟩ := hrel
    rcases i with _ | i
    · have hjn : j = n := by omega
      subst hjn
      have hBw := bstep hB1 hbel
      obtain ⟨a2, cap2, rfl, hl2⟩ := own_lst (z := 4) (fun q => rfl) hown (by omega)
      have hS2 : ∀ q, q < j → okS (back S j q) := fun q hq => hS _ (by omega)
      have hlW := hl.step hBw
      have p0 := bc hbel hlt0 p0
      have p1 := bc hbel hlt0 p1
      have p2 := bc hbel hlt0 p2
      have p3 := bc hbel hlt0 p3
      clear hown
      go_wp2_with fail
      refine (all_nil base a j cap S _ hlW hS hb (by omega)).mono ?_
      intro e w2 hra
      obtain ⟨ma, u1, u2, rfl, hb2, hma⟩ := res_has hra
      clear hra
      go_wp2_with fail
      refine (all_nil base a2 j cap2 (back S j) _ (hl2.step hb2) hS2 hb (by omega)).mono ?_
      intro e w3 hra
      obtain ⟨mb, u3, u4, rfl, hb3, hmb⟩ := res_has hra
      clear hra
      go_upto_region 14 with fail
      have hbx := bstep hbel (bstep hb2 hb3)
      have hBx := bstep hB1 hbx
      have hlx := hl.step hBx
      have hma' : Has w3 ma (NN base S j) (FF base S j) := fun wx hx => hma wx (bstep hb3 hx)
      have p0 := bc hb3 (Nat.lt_of_lt_of_le (Nat.lt_of_lt_of_le hlt0 hbel.size) hb2.size) (bc hb2 (Nat.lt_of_lt_of_le hlt0 hbel.size) p0)
      have p1 := bc hb3 (Nat.lt_of_lt_of_le (Nat.lt_of_lt_of_le hlt0 hbel.size) hb2.size) (bc hb2 (Nat.lt_of_lt_of_le hlt0 hbel.size) p1)
      have p2 := bc hb3 (Nat.lt_of_lt_of_le (Nat.lt_of_lt_of_le hlt0 hbel.size) hb2.size) (bc hb2 (Nat.lt_of_lt_of_le hlt0 hbel.size) p2)
      have p3 := bc hb3 (Nat.lt_of_lt_of_le (Nat.lt_of_lt_of_le hlt0 hbel.size) hb2.size) (bc hb2 (Nat.lt_of_lt_of_le hlt0 hbel.size) p3)
      have hlt3 : W.heap.size < w3.heap.size := Nat.lt_of_lt_of_le hlt0 hbx.size
      obtain ⟨ie, hie, he0, he1, he2⟩ := info_parts infoScheme
      clear hma hb2 hb3 hbel hBw hlW hl2
      go_cut [17, 20] (fun s17 s20 wx => ∃ mc, s17 = .map mc ∧ s20 = .int .i64 (aerr g0 base (plus S j ⟨s, t1, t2, t3⟩) (j + 1)) ∧ Below w3.heap.size w3 wx ∧ Has wx mc (NN base (plus S j ⟨s, t1, t2, t3⟩) (j + 1)) (FF base (plus S j ⟨s, t1, t2, t3⟩) (j + 1)))
      case first =>
        have HALL := Lib.hid (fun (wx : World) (a' : Option Addr) (cp : Nat) (h : Lst 4 wx a' (j + 1) (fun q => scells (plus S j ⟨s, t1, t2, t3⟩ q))) => (all_nil base a' (j + 1) cp (plus S j ⟨s, t1, t2, t3⟩) wx h (fun q hq => by
          unfold plus; by_cases c : q < j
          · rw [if_pos c]; exact hS q c
          · rw [if_neg c]; exact hm) hb (by omega)).mono (fun e w' h => res_has h))
        clear hS hS2 hm hma' hmb hl hb
        go_region_held2 (fun w' => Below w3.heap.size w3 w' ∧ ∀ b o, b < w3.heap.size → w'.cell? ⟨b, o, none⟩ = w3.cell? ⟨b, o, none⟩)
          ((refine keepS ?_; first | with_reducible exact (Below.refl _ _).drew | with_reducible exact hB5 | with_reducible exact hB6 | with_reducible exact hB7 | with_reducible exact balloc (And.left (by assumption)) _ | with_reducible exact balloc_drew (And.left (by assumption)) _))
          (first | ((with_reducible refine if_step ?_); refine step_append_lst rfl (.tmp 81) (.tmp 82) 45 rfl w3.heap.size 27 ie (.agg #[.string ByteArray.empty, .int .i64 0, .int .i64 0, .int .i64 0]) 4 40 Try.underlying45 hie he0 he1 he2 rfl (by decide) _ 0 [] rfl (own_blk (by first | with_reducible exact blk_t00 | with_reducible exact blk_t10 | with_reducible exact blk_t11 | with_reducible exact blk_t20 | with_reducible exact blk_t21 | with_reducible exact blk_t22 | with_reducible exact blk_drew blk_t00 | with_reducible exact blk_drew blk_t10 | with_reducible exact blk_drew blk_t11 | with_reducible exact blk_drew blk_t20 | with_reducible exact blk_drew blk_t21 | with_reducible exact blk_drew blk_t22) (by first | exact Nat.le_refl _ | omega)) a j cap (fun q => scells (S q)) (fun q => rfl) (fun q => sc_one (S q)) rfl (hlx.step (And.left (by assumption))) hnil (by unfold maxLen; omega) (by omega) (szS (by assumption)) ?_; intro v1 w5 hown1 hgr1; have hB5 : Below w3.heap.size w3 w5 := grS (by assumption) hgr1 (fun q hq => by simp [Act.eval, Value.ownBlock] at hq; omega); rw [Nat.zero_add, List.nil_append] at hown1; (try (refine lay_sl (u := .cells #[.string s, .int .i64 t1, .int .i64 t2, .int .i64 t3] 27 (0, 0)) (.tmp 85) rfl (blk_grown hgr1 (by first | with_reducible exact blk_t00 | with_reducible exact blk_t10 | with_reducible exact blk_t11 | with_reducible exact blk_t20 | with_reducible exact blk_t21 | with_reducible exact blk_t22 | with_reducible exact blk_drew blk_t00 | with_reducible exact blk_drew blk_t10 | with_reducible exact blk_drew blk_t11 | with_reducible exact blk_drew blk_t20 | with_reducible exact blk_drew blk_t21 | with_reducible exact blk_drew blk_t22) (by simp [Act.eval, Value.ownBlock] <;> omega)) ?_; intro e85))) | ((with_reducible refine if_step ?_); refine step_append_lies (w := _) rfl (.tmp 83) (.tmp 85) 45 rfl w3.heap.size 27 ie (.agg #[.string ByteArray.empty, .int .i64 0, .int .i64 0, .int .i64 0]) 4 40 Try.underlying45 hie he0 he1 he2 rfl (by decide) v1 j _ rfl (by first | with_reducible exact hown1 | with_reducible exact hown1.alloc _ | with_reducible exact hown1.drew | with_reducible exact (hown1.alloc _).drew) _ 1 1 [.string s, .int .i64 t1, .int .i64 t2, .int .i64 t3] rfl rfl (World.news_of_block (by first | with_reducible exact e85 | with_reducible exact blk_old e85 | with_reducible exact blk_t00 | with_reducible exact blk_t10 | with_reducible exact blk_t11 | with_reducible exact blk_t20 | with_reducible exact blk_t21 | with_reducible exact blk_t22 | with_reducible exact blk_drew blk_t00 | with_reducible exact blk_drew blk_t10 | with_reducible exact blk_drew blk_t11 | with_reducible exact blk_drew blk_t20 | with_reducible exact blk_drew blk_t21 | with_reducible exact blk_drew blk_t22 | with_reducible exact blk_drew (e85) | with_reducible exact blk_drew (blk_old e85))) (by intro u hu; simp at hu; rcases hu with rfl | rfl | rfl | rfl <;> rfl) (by decide) (by unfold maxLen; omega) (by omega) (szS (by assumption)) _ rfl ?_; intro g cp w6 hown2 hgr2 hat2 hglt2; have hB6 : Below w3.heap.size w3 w6 := grS (by assumption) hgr2 (fun q hq => (hown1.lt q hq).1); have hl6 := lst_plus hown2 (by omega)) | (go_at_call 17; refine (HALL.out _ _ _ hl6).mono ?_; rintro e w7 ⟨mc, u17, u18, rfl, hb7, hmc⟩; have hB7 := bstep hB6 hb7))
        all_goals
          go_wp2_with fail
          go_meet
          exact ⟨mc, rfl, rfl, hB7, hmc⟩
      case rest =>
        obtain ⟨mc, rfl, rfl, hbc, hmc⟩ := hcut
        have hA : Has wc ma (NN base S j) (FF base S j) := fun wx hx => hma' wx (bstep hbc hx)
        have hB : Has wc mb (NN base (back S j) j) (FF base (back S j) j) := fun wx hx => hmb wx (bstep hbc hx)
        have hlW := hlx.step hbc
        have hBW := bstep hBx hbc
        have hle := apart_err base S j
        have hlen := apart_len base S j
        have hat := fun i hi => apart_at base S j i hi
        have hmore := fun h i hi => apart_more base S j ⟨s, t1, t2, t3⟩ h i hi
        clear hma' hmb hlx hBx hbx hbc p0 p1 p2 p3 hie he0 he1 he2 hl hm hs0 s300 s300' hlt0 hlt3 hB1 n20 hS2 hw0
        generalize NN base (plus S j ⟨s, t1, t2, t3⟩) (j + 1) = N3 at *
        generalize FF base (plus S j ⟨s, t1, t2, t3⟩) (j + 1) = F3 at *
        generalize aerr g0 base (plus S j ⟨s, t1, t2, t3⟩) (j + 1) = eg at *
        rw [hlen] at hB
        clear hlen
        generalize NN base S j = N at *
        generalize FF base (back S j) j = F2 at *
        generalize FF base S j = F at *
        generalize aerr g0 base (back S j) j = eb at *
        generalize aerr g0 base S j = ea at *
        have HA := Lib.hid hA
        have HB := Lib.hid hB
        have HC := Lib.hid hmc
        have HLE := Lib.hid hle
        have HAT := Lib.hid hat
        have HMO := Lib.hid hmore
        clear hA hB hmc hle hat hmore
        go_upto_region 15 with fail
        go_cut [103] (fun s103 wx => s103 = .bool false ∧ wx = wc)
        case first =>
          have l1 := (HA.out wc (Below.refl _ _)).2
          have l2 := (HB.out wc (Below.refl _ _)).2
          by_cases c : ea = 0
          · have c' : eb = 0 := by
              have h := HLE.out
              rw [decide_eq_true c] at h
              exact of_decide_eq_true h.symm
            subst c c'
            go_wp2_with fail
            go_meet
            exact ⟨rfl, rfl⟩
          · have d1 : decide (ea = 0) = false := decide_eq_false c
            have d2 : decide (eb = 0) = false := HLE.out.symm.trans d1
            go_wp2_with fail
            go_meet
            exact ⟨rfl, rfl⟩
        case rest =>
          obtain ⟨rfl, rfl⟩ := hcut
          clear HLE
          go_wp2_with fail
          go_loopw [21] (fun s21 wx => ∃ i : Nat, i ≤ j ∧ s21 = .int .i64 i ∧ Below wc.heap.size wc wx) (fun s21 _ => j - (intOf s21).toNat)
          case atStart => exact ⟨0, Nat.zero_le _, rfl, Below.refl _ _⟩
          case round =>
            obtain ⟨i, hi, rfl, hbel⟩ := hrel
            by_cases ci : i < j
            · obtain ⟨b1, o1, rfl, hlt1, hcl⟩ := (hlW.step hbel).at_ ci
              have hsz := (hS i ci).1
              have d0 := hcl 0 (.string (S i).code) rfl
              rw [Nat.add_zero] at d0
              have la : ∀ k, (Instr.lookup 46 (.map ma) (.string (S i).code) false).run Try.prog (wr.drewN k) = .ok (sval ((F (S i).code).getD (0, 0, 0, 0))) (wr.drewN k) := fun k => ((HA.out _ (below_drewN hbel k)).1 _ hsz).1
              have lb : ∀ k, (Instr.lookup 46 (.map mb) (.string (S i).code) false).run Try.prog (wr.drewN k) = .ok (sval ((F2 (S i).code).getD (0, 0, 0, 0))) (wr.drewN k) := fun k => ((HB.out _ (below_drewN hbel k)).1 _ hsz).1
              have lc : ∀ k, (Instr.lookup 46 (.map mc) (.string (S i).code) false).run Try.prog (wr.drewN k) = .ok (sval ((F3 (S i).code).getD (0, 0, 0, 0))) (wr.drewN k) := fun k => ((HC.out _ (below_drewN hbel k)).1 _ hsz).1
              rw [HAT.out i ci] at lb
              have hmo := HMO.out
              have hgu : Try.prog.eqGuardType Try.prog.depth 24 = false := by kernel_rfl
              have i0 : (0 : Int) ≤ (i : Int) := by omega
              have i1 : (i : Int) < (j : Int) := by omega
              have hw3 : IntKind.i64.wrap ((i : Int) + 1) = (i : Int) + 1 := IntWalk.i64_in _ (by omega)
              by_cases c : eg = 0
              · rw [hmo c i ci] at lc
                subst c
                generalize (S i).code = cd at *
                obtain ⟨⟨x1, x2, x3, x4⟩, hx⟩ : ∃ x, (F cd).getD (0, 0, 0, 0) = x := ⟨_, rfl⟩
                rw [hx] at la lb lc
                simp only [sval] at la lb lc
                clear hx hcl hS HA HB HC HMO HAT hmo hlW
                go_wp2_with fail
                go_quiet (fail)
                go_wp2_with fail
                go_roundw
                case rel => exact ⟨i + 1, by omega, by go_num, below_drewN hbel _⟩
                case measure => simp [intOf]; omega
              · have d1 : decide (eg = 0) = false := decide_eq_false c
                generalize (S i).code = cd at *
                obtain ⟨⟨x1, x2, x3, x4⟩, hx⟩ : ∃ x, (F cd).getD (0, 0, 0, 0) = x := ⟨_, rfl⟩
                rw [hx] at la lb
                simp only [sval] at la lb
                clear hx hcl hS HA HB HC HMO HAT hmo hlW lc
                go_wp2_with fail
                go_quiet (fail)
                go_wp2_with fail
                go_roundw
                case rel => exact ⟨i + 1, by omega, by go_num, below_drewN hbel _⟩
                case measure => simp [intOf]; omega
            · obtain rfl : i = j := by omega
              go_wp2_with fail
              go_ret
              exact ⟨rfl, bstep hBW hbel⟩
    · have e1 : (((i + 1 : Nat) : Int) - 1) = (i : Int) := by omega
      rw [e1]
      have hib : i < n := by omega
      obtain ⟨b1, o1, rfl, hlt1, hcl⟩ := ((hl.step hB1).step hbel).at_ hib
      have hSi := hS i hib
      have hbk : back S n j = S i := by unfold back; congr 1; omega
      obtain ⟨⟨c, q1, q2, q3⟩, hx⟩ : ∃ x, S i = x := ⟨_, rfl⟩
      rw [hx] at hSi hbk
      have d0 := hcl 0 (.string c) (by rw [hx]; rfl)
      have d1 := hcl 1 (.int .i64 q1) (by rw [hx]; rfl)
      have d2 := hcl 2 (.int .i64 q2) (by rw [hx]; rfl)
      have d3 := hcl 3 (.int .i64 q3) (by rw [hx]; rfl)
      rw [Nat.add_zero] at d0
      have hcs := hSi.1
      clear hcl hx
      by_cases c300 : 300 < c.size
      · have c300' : (300 : Int) < (c.size : Int) := by omega
        go_wp2_with fail
        go_ret
        exact ⟨rfl, bstep hB1 hbel⟩
      have c300' : ¬ (300 : Int) < (c.size : Int) := by omega
      by_cases hwd : word c.data.toList
      · have HW := Lib.hid (fun wx => word_is c true (decide_eq_true hwd) wx hcs)
        obtain ⟨ie, hie, he0, he1, he2⟩ := info_parts infoScheme
        have hownA := hown.alloc (.cells #[.string c, .int .i64 q1, .int .i64 q2, .int .i64 q3] 27)
        have hnews : ∀ j u, [Value.string c, .int .i64 q1, .int .i64 q2, .int .i64 q3][j]? = some u → (wr.alloc (.cells #[.string c, .int .i64 q1, .int .i64 q2, .int .i64 q3] 27)).cell? ((⟨wr.heap.size, 0, none⟩ : Addr).add j) = some u :=
          World.news_of_block (block_alloc_last wr (.cells #[.string c, .int .i64 q1, .int .i64 q2, .int .i64 q3] 27 (0, 0)))
        have hw2 : IntKind.i64.wrap ((i : Int) - 1) = (i : Int) - 1 := IntWalk.i64_in _ (by omega)
        clear hS hl hm
        go_wp2_with (first | (go_at_call 19; refine (HW.out _).mono ?_; rintro e w' ⟨rfl, rfl⟩) | (at_builtin; refine wpList_append_lies _ rfl _ _ 45 rfl w1.heap.size 27 ie (.agg #[.string ByteArray.empty, .int .i64 0, .int .i64 0, .int .i64 0]) 4 40 Try.underlying45 hie he0 he1 he2 rfl (by decide) _ j _ rfl hownA ⟨wr.heap.size, 0, none⟩ 1 1 [.string c, .int .i64 q1, .int .i64 q2, .int .i64 q3] rfl rfl hnews (by intro u hu; simp at hu; rcases hu with rfl | rfl | rfl | rfl <;> rfl) (by decide) (by unfold maxLen; omega) (by omega) (by simp; have := hbel.size; omega) _ rfl ?_))
        intro g cp w2 hown2 hgr hat hglt
        have hgr2 := grown_alloc hgr (fun j hj => (hown.lt j hj).2)
        have hbel2 := hbel.grown hgr2 hbel.size (fun j hj => (hown.lt j hj).1)
        have hown3 := own_next (c := fun q => scells (back S n q)) hown2 (by rw [hbk]; rfl)
        clear hown hownA hnews hown2 hgr hgr2 hat HW
        go_wp2_with fail
        go_roundw
        case rel => exact ⟨i, j + 1, by omega, rfl, hown3, hbel2⟩
        case measure => simp [intOf]
      · have HW := Lib.hid (fun wx => word_is c false (decide_eq_false hwd) wx hcs)
        go_wp2_with (go_at_call 19; refine (HW.out _).mono ?_; rintro e w' ⟨rfl, rfl⟩)
        go_ret
        exact ⟨rfl, bstep hB1 hbel⟩

theorem socialApartA (base : Int) (a : Option Addr) (n cap : Nat) (S : Nat → Sch) (s : ByteArray) (t1 t2 t3 : Int) (W : World) (hb : -9223372036854775808 ≤ base ∧ base ≤ 9223372036854775807) (hl : Lst 4 W a n (fun j => scells (S j))) (hS : ∀ j, j < n → okS (S j)) (hnil : a = none → n = 0 ∧ cap = 0)
    (hs : s.size ≤ 9223372036854775807) (h1 : -9223372036854775808 ≤ t1 ∧ t1 ≤ 9223372036854775807) (h2 : -9223372036854775808 ≤ t2 ∧ t2 ≤ 9223372036854775807) (h3 : -9223372036854775808 ≤ t3 ∧ t3 ≤ 9223372036854775807) :
    Calls Try.prog 9 #[.int .i64 base, .slice a n cap, .agg #[.string s, .int .i64 t1, .int .i64 t2, .int .i64 t3]] W fun e w' => e = .returned (.bool true) ∧ Below W.heap.size W w' :=
  socialApart base a n cap S s t1 t2 t3 W hl hS hnil ⟨hs, h1, h2, h3⟩ hb
end Go.Proofs.Ytdmkjdlneadkcaa.W
