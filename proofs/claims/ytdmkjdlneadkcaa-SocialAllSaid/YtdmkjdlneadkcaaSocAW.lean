/- SocialAll: the walk. -/
import Derived.Test.YtdmkjdlneadkcaaSocAL
import Derived.Test.YtdmkjdlneadkcaaSocV
import Derived.StillTailTactics
import Derived.Deep.RegionHeld2
namespace Go.Proofs.Ytdmkjdlneadkcaa.W
open Go.RowKit Go.Proofs.Ytdmkjdlneadkcaa.M Go.Proofs.Ytdmkjdlneadkcaa.B Go.Proofs.Ytdmkjdlneadkcaa.S
set_option linter.unusedVariables false

theorem of_is' (a b c d : Int) (W : World) : Calls Try.prog 13 #[.agg #[.int .i64 a, .int .i64 b, .int .i64 c, .int .i64 d]] W fun e w' => e = .returned (.agg #[.int .i64 a, .int .i64 b, .int .i64 c, .int .i64 d]) ∧ Below W.heap.size W w' := by
  go_enter Try.func13, Try.ntmps13
  go_wp2_with fail
  refine bodyPost_ret (v := .agg #[.int .i64 a, .int .i64 b, .int .i64 c, .int .i64 d]) (by simp [results, Try.results13, go_sem]) rfl ⟨rfl, balloc (balloc (Below.refl _ _) _) _⟩
theorem if_step' {c : Prop} [Decidable c] {A B : Prop} (h : ite c A B) : ite c A B := h
theorem keepS' {V w' : World} (h : Below V.heap.size V w') : Below V.heap.size V w' ∧ ∀ b o, b < V.heap.size → w'.cell? ⟨b, o, none⟩ = V.cell? ⟨b, o, none⟩ := ⟨h, (bcell h).1⟩
theorem balloc_drew' {a b : World} (h : Below a.heap.size a b.drew) (o : Obj) : Below a.heap.size a (b.alloc o).drew := balloc h o
theorem set4 {V w : World} {g : Nat} {v0 v1 v2 v3 : Value} (h : Below V.heap.size V w) (hg : V.heap.size ≤ g) : Below V.heap.size V ((((w.setCell ⟨g, 0, none⟩ v0).setCell ⟨g, 1, none⟩ v1).setCell ⟨g, 2, none⟩ v2).setCell ⟨g, 3, none⟩ v3) :=
  bset (bset (bset (bset h hg _) hg _) hg _) hg _

set_option maxRecDepth 100000 in
set_option maxHeartbeats 16000000 in
theorem socialAll (ac : Option Addr) (nc cc : Nat) (cs : Nat → ByteArray) (az : Option Addr) (ns cz : Nat) (sm : Nat → Sm) (base : Int) (al : Option Addr) (n cl : Nat) (S : Nat → Sch) (W : World)
    (hc : Lst 1 W ac nc (fun j => tcells (cs j))) (hcs : ∀ j, j < nc → (cs j).size ≤ 9223372036854775807) (hs : Lst 4 W az ns (fun j => mcells (sm j))) (hsm : ∀ j, j < ns → okM (sm j)) (hb : I64 base) (hl : Lst 4 W al n (fun j => scells (S j))) (hS : ∀ j, j < n → okS (S j)) :
    Calls Try.prog 8 #[.slice ac nc cc, .slice az ns cz, .int .i64 base, .slice al n cl] W fun e w' => e = .returned (.bool true) ∧ Below W.heap.size W w' := by
  have hn1 := hc.1
  have hn2 := hs.1
  have hn3 := hl.1
  obtain ⟨m, hm⟩ : ∃ m, min nc ns = m := ⟨_, rfl⟩
  have hfound := Lib.hid (fun t (wx : World) (h : Below W.heap.size W wx) => found_is ac nc cc cs az ns cz sm t wx (hc.step h) (hs.step h))
  rw [hm] at hfound
  have hmm := @run_makeMap Try.prog
  go_enter Try.func8, Try.ntmps8
  go_wp2_with fail
  refine (awake_any _).mono ?_
  rintro e w1 ⟨rfl, hb1⟩
  by_cases n70 : 70 < n
  · have n70' : (70 : Int) < (n : Int) := by omega
    go_wp2_with fail
    go_ret
    exact ⟨rfl, hb1⟩
  by_cases c20 : 20 < nc
  · have n70' : ¬ (70 : Int) < (n : Int) := by omega
    have c20' : (20 : Int) < (nc : Int) := by omega
    go_wp2_with fail
    go_ret
    exact ⟨rfl, hb1⟩
  have n70' : ¬ (70 : Int) < (n : Int) := by omega
  have c20' : ¬ (20 : Int) < (nc : Int) := by omega
  go_wp2_with fail
  have hM0 : MapS (w1.alloc (.map #[] 0)) w1.heap.size 0 (gm cs sm 0) := mapIs_made w1
  have hBM : Below W.heap.size W (w1.alloc (.map #[] 0)) := balloc hb1 _
  have hpos := hb1.size
  generalize w1.alloc (.map #[] 0) = U at *
  generalize w1.heap.size = b0 at *
  clear hmm hb1
  go_loopw [10] (fun s10 wx => ∃ i : Nat, i ≤ m ∧ s10 = .int .i64 i ∧ Below W.heap.size W wx ∧ MapS wx b0 (gn cs sm i) (gm cs sm i)) (fun s10 _ => m - (intOf s10).toNat)
  case atStart => exact ⟨0, Nat.zero_le _, rfl, hBM, hM0⟩
  case round =>
    as_aux_lemma =>
      obtain ⟨i, hi, rfl, hbel, hM⟩ := hrel
      clear hBM hM0
      have hgn := gn_le cs sm i
      by_cases ci : i < m
      · have hw : IntKind.i64.wrap ((i : Int) + 1) = (i : Int) + 1 := IntWalk.i64_in _ (by omega)
        have l1 : (i : Int) < (nc : Int) := by omega
        have l2 : (i : Int) < (ns : Int) := by omega
        have l0 : (0 : Int) ≤ (i : Int) := by omega
        obtain ⟨b1, o1, rfl, hlt1, hc1⟩ := (hc.step hbel).at_ (j := i) (by omega)
        obtain ⟨b2, o2, rfl, hlt2, hc2⟩ := (hs.step hbel).at_ (j := i) (by omega)
        have d0 := hc1 0 (.string (cs i)) rfl
        have e0 := hc2 0 (.int .i64 (sm i).1) rfl
        have e1 := hc2 1 (.int .i64 (sm i).2.1) rfl
        have e2 := hc2 2 (.int .i64 (sm i).2.2.1) rfl
        have e3 := hc2 3 (.int .i64 (sm i).2.2.2) rfl
        rw [Nat.mul_one, Nat.add_zero] at d0
        rw [Nat.add_zero] at e0
        have hsz := hcs i (by omega)
        have hgn' : gn cs sm (i + 1) = more (gm cs sm i) (cs i) (gn cs sm i) := rfl
        have hgm' : gm cs sm (i + 1) = Go.Proofs.Ytdmkjdlneadkcaa.M.upd (gm cs sm i) (cs i) (sm i) := rfl
        clear hc1 hc2 hc hs hl hS hsm hcs hfound
        by_cases c300 : 300 < (cs i).size
        · have c300' : (300 : Int) < ((cs i).size : Int) := by omega
          go_wp2_with fail
          go_ret
          exact ⟨rfl, hbel⟩
        · have c300' : ¬ (300 : Int) < ((cs i).size : Int) := by omega
          go_upto_region 11 with fail
          go_still_tail 9, (by kernel_rfl)
          change wpList _ _ _ _ _ wr.drew
          go_wp2_with (at_mapUpdate; refine wpList_mapUpdate_is _ rfl _ _ _ 46 rfl 9 24 kStr Try.underlying9 Try.underlying46 reads_sum b0 (gn cs sm i) (gm cs sm i) rfl hM.drew (by unfold maxLen; omega) (cs i) rfl hsz (sm i) rfl ?_)
          intro w2 hM2 ht2
          rw [← hgn', ← hgm'] at hM2
          have hbel2 : Below W.heap.size W w2 := Below.grown (hbel.drew) ht2.grown hbel.size (fun k hk => by cases hk; exact hpos)
          go_wp2_with fail
          go_roundw
          case rel => exact ⟨i + 1, by omega, by go_num, hbel2, hM2⟩
          case measure => simp [intOf]; omega
      · obtain rfl : i = m := by omega
        have hgI : ∀ s : ByteArray, I64 ((gm cs sm i s).getD (0, 0, 0, 0)).1 ∧ I64 ((gm cs sm i s).getD (0, 0, 0, 0)).2.1 ∧ I64 ((gm cs sm i s).getD (0, 0, 0, 0)).2.2.1 ∧ I64 ((gm cs sm i s).getD (0, 0, 0, 0)).2.2.2 := fun s => gm_ok cs sm s i (fun j hj => hsm j (by omega))
        go_upto_region 7 with fail
        go_cut [53] (fun s53 wx => s53 = .bool false ∧ wx = wr)
        case first =>
          as_aux_lemma =>
            by_cases cq : i < nc
            · have cq1 : (i : Int) < (nc : Int) := by omega
              have cq2 : ¬ (i : Int) < (ns : Int) := by omega
              go_wp2_with fail
              go_meet
              exact ⟨rfl, rfl⟩
            · have cq1 : ¬ (i : Int) < (nc : Int) := by omega
              go_wp2_with fail
              go_meet
              exact ⟨rfl, rfl⟩
        obtain ⟨rfl, rfl⟩ := hcut
        have hL0 : Lw W b0 wc (gn cs sm i) (gm cs sm i) (.slice none 0 0) (.slice none 0 0) [] [] := ⟨hbel, hpos, hM, ownL_nil _ _, ownL_nil _ _, fun b h => (by cases h)⟩
        have hgat := Lib.hid (gm_at cs sm i)
        clear hbel hM ci hi hpos
        generalize wc = w2 at *
        generalize gn cs sm i = N0 at *
        generalize hG : gm cs sm i = G at *
        have HG := Lib.hid hG
        clear hG
        obtain ⟨c5, hc5⟩ : ∃ c, (if 64 < n then (5 : Int) else 0) = c := ⟨_, rfl⟩
        go_upto_if 73 with fail
        go_cut [11] (fun s11 wx => s11 = .int .i64 c5 ∧ wx = w2)
        case first =>
          as_aux_lemma =>
            by_cases n64 : 64 < n
            · have n64' : (64 : Int) < (n : Int) := by omega
              rw [if_pos n64] at hc5
              subst hc5
              go_wp2_with fail
              go_meet
              exact ⟨rfl, rfl⟩
            · have n64' : ¬ (64 : Int) < (n : Int) := by omega
              rw [if_neg n64] at hc5
              subst hc5
              go_wp2_with fail
              go_meet
              exact ⟨rfl, rfl⟩
        case rest =>
          as_aux_lemma =>
            obtain ⟨rfl, rfl⟩ := hcut
            go_wp2_with fail
            go_loopw [11, 12, 13, 14] (fun s11 s12 s13 s14 wx => ∃ (k : Nat) (cd : Int) (L1 L2 : List (ByteArray × Int)), k ≤ n ∧ s14 = .int .i64 k ∧ s11 = .int .i64 cd ∧ Lw W b0 wx N0 G s12 s13 L1 L2 ∧ L1.length ≤ k ∧ L2.length ≤ k ∧ Hid ((cd = 0 ∧ n ≤ 64 ∧ aerr G base S k = 0 ∧ L1 = lw G base S k ∧ L2 = lf G base S k) ∨ (cd ≠ 0 ∧ cd = aerrs G base S n))) (fun _ _ _ s14 _ => n - (intOf s14).toNat)
            case atStart =>
              refine ⟨0, c5, [], [], Nat.zero_le _, rfl, rfl, hL0, by simp, by simp, ?_⟩
              by_cases n64 : 64 < n
              · rw [if_pos n64] at hc5
                exact .inr ⟨by omega, by unfold aerrs; rw [if_pos n64]; exact hc5.symm⟩
              · rw [if_neg n64] at hc5
                exact .inl ⟨hc5.symm, by omega, rfl, rfl, rfl⟩
            case round =>
              as_aux_lemma =>
                obtain ⟨k, cd, L1, L2, hk, rfl, rfl, hL, hl1, hl2, hst⟩ := hrel
                clear hL0 hc5
                by_cases ck : k < n ∧ cd = 0
                · obtain ⟨ck, rfl⟩ := ck
                  have hst' : n ≤ 64 ∧ aerr G base S k = 0 ∧ L1 = lw G base S k ∧ L2 = lf G base S k := by
                    rcases hst.out with h | h
                    · exact h.2
                    · exact absurd rfl h.1
                  clear hst
                  have l1 : (k : Int) < (n : Int) := by omega
                  have l0 : (0 : Int) ≤ (k : Int) := by omega
                  have hw : IntKind.i64.wrap ((k : Int) + 1) = (k : Int) + 1 := IntWalk.i64_in _ (by omega)
                  obtain ⟨b1, o1, rfl, hltW, hall0⟩ := hl.2 (by omega)
                  have hlt1 : b1 < wr.heap.size := Nat.lt_of_lt_of_le hltW hL.bel.size
                  have hall : ∀ j, j < n → ∀ i u, (scells (S j))[i]? = some u → wr.cell? ⟨b1, o1 + j * 4 + i, none⟩ = some u := fun j hj i u hu => bc hL.bel hltW (hall0 j hj i u hu)
                  have hr12 := Lib.hid (fun g h => (hL.r1.lt g h).2)
                  have hr13 := Lib.hid (fun g h => (hL.r2.lt g h).2)
                  clear hall0
                  have hSk := hS k ck
                  have d0 := hall k ck 0 (.string (S k).code) rfl
                  rw [Nat.add_zero] at d0
                  by_cases c300 : 300 < (S k).code.size
                  · have c300' : (300 : Int) < ((S k).code.size : Int) := by omega
                    go_wp2_with fail
                    go_ret
                    exact ⟨rfl, hL.bel⟩
                  have c300' : ¬ (300 : Int) < ((S k).code.size : Int) := by omega
                  go_wp2_with fail
                  have HALL := Lib.hid hall
                  clear hall hl hcs hc hs hsm
                  generalize wr = w3 at *
                  go_loopw [11, 15] (fun s11 s15 wx => ∃ (q : Nat) (c7 : Int), q ≤ k ∧ s15 = .int .i64 q ∧ s11 = .int .i64 c7 ∧ Below w3.heap.size w3 wx ∧ Hid ((c7 = 0 ∧ ∀ i, i < q → (S i).code ≠ (S k).code) ∨ (c7 = 7 ∧ ¬ fresh S k))) (fun _ s15 _ => k - (intOf s15).toNat)
                  case atStart => exact ⟨0, 0, Nat.zero_le _, rfl, rfl, Below.refl _ _, .inl ⟨rfl, fun i h => absurd h (by omega)⟩⟩
                  case round =>
                    as_aux_lemma =>
                      obtain ⟨q, c7, hq, rfl, rfl, hbq, h7⟩ := hrel
                      by_cases cq : q < k ∧ c7 = 0
                      · obtain ⟨cq, rfl⟩ := cq
                        have h7' : ∀ i, i < q → (S i).code ≠ (S k).code := by
                          rcases h7.out with h | h
                          · exact h.2
                          · have := h.1; omega
                        have H7 := Lib.hid h7'
                        clear h7 h7'
                        have m1 : (q : Int) < (k : Int) := by omega
                        have m2 : (q : Int) < (n : Int) := by omega
                        have m0 : (0 : Int) ≤ (q : Int) := by omega
                        have hwq : IntKind.i64.wrap ((q : Int) + 1) = (q : Int) + 1 := IntWalk.i64_in _ (by omega)
                        have dk := bc hbq hlt1 d0
                        have dq := bc hbq hlt1 (HALL.out q (by omega) 0 (.string (S q).code) rfl)
                        rw [Nat.add_zero] at dq
                        by_cases hqe : (S q).code = (S k).code
                        · have hnf : ¬ fresh S k := fun hf => hf q cq hqe
                          have HNF := Lib.hid hnf
                          rw [hqe] at dq
                          clear hqe hnf hSk hfound d0
                          generalize (S k).code = ck0 at *
                          go_wp2_with fail
                          go_quiet (fail)
                          go_wp2_with fail
                          go_roundw
                          case rel => exact ⟨q + 1, 7, by omega, by go_num, rfl, below_drewN hbq _, .inr ⟨rfl, HNF.out⟩⟩
                          case measure => simp [intOf]; omega
                        · have hne := str_ne hqe
                          have HNE := Lib.hid hqe
                          clear hqe hSk hfound d0
                          go_wp2_with fail
                          go_quiet (fail)
                          go_wp2_with fail
                          go_roundw
                          case rel =>
                            refine ⟨q + 1, 0, by omega, by go_num, rfl, below_drewN hbq _, .inl ⟨rfl, fun i hi => ?_⟩⟩
                            rcases Nat.lt_or_ge i q with h | h
                            · exact H7.out i h
                            · obtain rfl : i = q := by omega
                              exact HNE.out
                          case measure => simp [intOf]; omega
                      · have h7' : (c7 = 0 ∧ fresh S k) ∨ (c7 = 7 ∧ ¬ fresh S k) := by
                          rcases h7.out with ⟨h1, h2⟩ | h
                          · left
                            have hqk : q = k := by
                              rcases Nat.lt_or_ge q k with h | h
                              · exact absurd ⟨h, h1⟩ cq
                              · omega
                            subst hqk
                            exact ⟨h1, h2⟩
                          · exact .inr h
                        have H7 := Lib.hid h7'
                        clear h7 h7'
                        go_upto_region 22 with fail
                        go_cut [97] (fun s97 wx => s97 = .bool false ∧ wx = wr)
                        case first =>
                          as_aux_lemma =>
                            by_cases c1 : q < k
                            · have c0 : c7 ≠ 0 := fun h => cq ⟨c1, h⟩
                              have c0' : (c7 == 0) = false := by simp [c0]
                              have c0'' : decide (c7 = 0) = false := decide_eq_false c0
                              have m1 : (q : Int) < (k : Int) := by omega
                              go_wp2_with fail
                              go_meet
                              exact ⟨by first | rfl | rw [c0'], rfl⟩
                            · have m1 : ¬ (q : Int) < (k : Int) := by omega
                              go_wp2_with fail
                              go_meet
                              exact ⟨rfl, rfl⟩
                        case rest =>
                          as_aux_lemma =>
                            obtain ⟨rfl, rfl⟩ := hcut
                            have hLc := hL.below hbq
                            have e0 := bc hbq hlt1 d0
                            have e1 := bc hbq hlt1 (HALL.out k ck 1 (.int .i64 (S k).wr) rfl)
                            have e2 := bc hbq hlt1 (HALL.out k ck 2 (.int .i64 (S k).fr) rfl)
                            have e3 := bc hbq hlt1 (HALL.out k ck 3 (.int .i64 (S k).ce) rfl)
                            have hlt2 : b1 < wc.heap.size := Nat.lt_of_lt_of_le hlt1 hbq.size
                            clear hL d0 cq HALL hq
                            obtain ⟨⟨za, zb, zc, zd⟩, hz⟩ : ∃ x, (G (S k).code).getD (0, 0, 0, 0) = x := ⟨_, rfl⟩
                            have hfd : ∀ wx, Below W.heap.size W wx → Calls Try.prog 16 #[.slice ac nc cc, .slice az ns cz, .string (S k).code] wx fun e w' => e = .returned (.agg #[.int .i64 za, .int .i64 zb, .int .i64 zc, .int .i64 zd]) ∧ Below wx.heap.size wx w' := fun wx h => by
                              have h2 := hfound.out (S k).code wx h
                              rw [hz] at h2
                              exact h2
                            have hrs := fun wx => rstep_any za zb zc zd (S k).code (S k).wr (S k).fr (S k).ce base wx hSk.1
                            have hst4 : stAt G base (S k) = sstep za zb zc zd (S k).code.data.toList (S k).wr (S k).fr (S k).ce base := by unfold stAt was; rw [hz]
                            rw [← hst4] at hrs
                            have hwz : was G (S k) = (za, zb, zc, zd) := hz
                            obtain ⟨⟨⟨A, B, C, D⟩, f⟩, hf⟩ : ∃ x, stAt G base (S k) = x := ⟨_, rfl⟩
                            rw [hf] at hrs
                            have hrs' : ∀ wx, Calls Try.prog 12 #[.agg #[.int .i64 za, .int .i64 zb, .int .i64 zc, .int .i64 zd], .agg #[.string (S k).code, .int .i64 (S k).wr, .int .i64 (S k).fr, .int .i64 (S k).ce], .int .i64 base] wx fun e w' => e = .returned (.tuple #[.agg #[.int .i64 A, .int .i64 B, .int .i64 C, .int .i64 D], .int .i64 f]) ∧ Below wx.heap.size wx w' := hrs
                            have HRS := Lib.hid hrs'
                            have HZ := Lib.hid hwz
                            have HF := Lib.hid hf
                            have HSL := Lib.hid hst'
                            clear hrs hrs' hz hst4 hf hwz hst'
                            go_wp2_with fail
                            refine (hfd _ hLc.bel).mono ?_
                            rintro e w5 ⟨rfl, hb5⟩
                            clear hfd
                            have hL5 := (hLc.below hb5).below (balloc (Below.refl _ _) (.cells #[.int .i64 za, .int .i64 zb, .int .i64 zc, .int .i64 zd] 24))
                            have hb5' : Below wc.heap.size wc (w5.alloc (.cells #[.int .i64 za, .int .i64 zb, .int .i64 zc, .int .i64 zd] 24)) := bstep hb5 (balloc (Below.refl _ _) _)
                            have h16 := Four.new w5 (za, zb, zc, zd) 24
                            go_upto_region 27 with fail
                            have e0 := bc hb5' hlt2 e0
                            have e1 := bc hb5' hlt2 e1
                            have e2 := bc hb5' hlt2 e2
                            have e3 := bc hb5' hlt2 e3
                            have hlt3 := Nat.lt_of_lt_of_le hlt2 hb5'.size
                            clear hb5' hLc hlt2
                            have h3p16 : w3.heap.size ≤ w5.heap.size := Nat.le_trans hbq.size hb5.size
                            have h3U : w3.heap.size ≤ (w5.alloc (.cells #[.int .i64 za, .int .i64 zb, .int .i64 zc, .int .i64 zd] 24)).heap.size := Nat.le_trans h3p16 (by simp)
                            clear hb5 hbq
                            generalize w5.alloc (.cells #[.int .i64 za, .int .i64 zb, .int .i64 zc, .int .i64 zd] 24) = U at *
                            generalize w5.heap.size = p16 at *
                            obtain ⟨y5, y0, y1, y2, y3, yf⟩ := id h16
                            try simp only at y0 y1 y2 y3
                            go_cut [17, 18] (fun s17 s18 wx => ∃ g : Nat, s17 = .pointer (some ⟨g, 0, none⟩) ∧ s18 = .int .i64 f ∧ U.heap.size ≤ g ∧ Four wx g (A, B, C, D) ∧ Below U.heap.size U wx)
                            case first =>
                              as_aux_lemma =>
                                clear hfound hS hSk hL5 HSL HF HZ H7 h16 hgat HG hgI
                                go_region_held2 (fun w' => Below U.heap.size U w' ∧ ∀ b o, b < U.heap.size → w'.cell? ⟨b, o, none⟩ = U.cell? ⟨b, o, none⟩)
                                  ((refine keepS' ?_; first | with_reducible exact (Below.refl _ _).drew | with_reducible exact hBB | with_reducible exact hBA | with_reducible exact balloc hBB _ | with_reducible exact balloc hBA _ | with_reducible exact balloc (And.left (by assumption)) _ | with_reducible exact balloc_drew' (And.left (by assumption)) _ | (refine set4 hBB ?_; (first | exact Nat.le_refl _ | exact hBA.size | (have q1 := hBA.size; have q2 := hBB.size; omega)))))
                                  (first | (go_at_call 13; refine (of_is' za zb zc zd _).mono ?_; rintro e wA ⟨rfl, hbA⟩; have hBA : Below U.heap.size U wA := bstep (And.left (by assumption)) hbA; obtain ⟨hcA, hfA⟩ := bcell hbA; (first | (have hzA : U.heap.size < wA.heap.size := by (have hq := hbA.size; (try simp at hq); omega)) | skip)) | (go_at_call 12; refine (HRS.out _).mono ?_; rintro e wB ⟨rfl, hbB⟩; have hBB : Below U.heap.size U wB := bstep (And.left (by assumption)) hbB; obtain ⟨hcB, hfB⟩ := bcell hbB; (first | (have hzB : U.heap.size < wB.heap.size := by (have hq := hbB.size; (try simp at hq); omega)) | skip)))
                                all_goals
                                  go_wp2_with fail
                                  go_meet
                                  first
                                    | exact ⟨_, rfl, rfl, hBB.size, Four.new _ (A, B, C, D) _, balloc hBB _⟩
                                    | exact ⟨_, rfl, rfl, hBA.size, ((Four.new _ (0, 0, 0, 0) _).step hbB).put A B C D, set4 hBB hBA.size⟩
                                    | exact ⟨_, rfl, rfl, Nat.le_refl _, (((Four.new _ (0, 0, 0, 0) _).step (below_drew' hbA)).step hbB).put A B C D, set4 hBB (Nat.le_refl _)⟩
                            case rest =>
                              as_aux_lemma =>
                                obtain ⟨p17, rfl, rfl, hg17, h17, hb17⟩ := hcut
                                have h3p17 : w3.heap.size ≤ p17 := Nat.le_trans h3U hg17
                                have hLd := hL5.below hb17
                                have h16 := h16.step hb17
                                have e0 := bc hb17 hlt3 e0
                                clear hL5 y0 y1 y2 y3 yf e1 e2 e3 HRS hb17
                                obtain ⟨c8, hc8⟩ : ∃ c, (if c7 = 0 then f else c7) = c := ⟨_, rfl⟩
                                have HC8 := Lib.hid hc8
                                go_upto_if 131 with fail
                                go_cut [11] (fun s11 wx => s11 = .int .i64 c8 ∧ wx = wc)
                                case first =>
                                  as_aux_lemma =>
                                    by_cases c0 : c7 = 0
                                    · rw [if_pos c0] at hc8
                                      subst c0 hc8
                                      go_wp2_with fail
                                      go_meet
                                      exact ⟨rfl, rfl⟩
                                    · rw [if_neg c0] at hc8
                                      subst hc8
                                      have c0' : (c7 == 0) = false := by simp [c0]
                                      go_wp2_with fail
                                      go_meet
                                      exact ⟨rfl, rfl⟩
                                case rest =>
                                  as_aux_lemma =>
                                    obtain ⟨rfl, rfl⟩ := hcut
                                    clear hc8
                                    obtain ⟨s0, hs0⟩ : ∃ t, (S k).code = t := ⟨_, rfl⟩
                                    rw [hs0] at e0
                                    have HS0 := Lib.hid hs0
                                    obtain ⟨ie, hie, he0, he1, he2⟩ := info_parts infoItem
                                    have hb1 : b1 < b0 := Nat.lt_of_lt_of_le hltW hLd.pos
                                    clear hs0 hfound hgat HG hgI hSk hS
                                    have x16 := h16.c2
                                    have x17 := h17.c2
                                    simp only at x16 x17
                                    go_upto_if 137 with fail
                                    go_cut [12] (fun s12 wx => Lw W b0 wx N0 G s12 u13 (addL L1 s0 zc C) L2 ∧ Four wx p16 (za, zb, zc, zd) ∧ Four wx p17 (A, B, C, D) ∧ wx.cell? ⟨b1, o1 + k * 4, none⟩ = some (.string s0))
                                    case first =>
                                      as_aux_lemma =>
                                        by_cases cq : zc < C
                                        · obtain ⟨z, hzz⟩ : ∃ z, IntKind.i64.wrap (C - zc) = z := ⟨_, rfl⟩
                                          go_upto_region 31 with fail
                                          have hmlt := hLd.m.lt
                                          have hbl : b1 < wc.heap.size := Nat.lt_trans hb1 hmlt
                                          have BA : Below wc.heap.size wc (wc.alloc (.cells #[.string s0, .int .i64 z] 50)) := balloc (Below.refl _ _) _
                                          have hnb : ∀ q, w3.heap.size ≤ q → some q ≠ (u12 : Value).ownBlock := fun q hq hh => by have := hr12.out q hh.symm; omega
                                          have hlt16 := h16.lt
                                          have hlt17 := h17.lt
                                          go_region_held2 (fun w' => w'.cell? ⟨p17, 2, none⟩ = some (.int .i64 C) ∧ w'.cell? ⟨p16, 2, none⟩ = some (.int .i64 zc) ∧ w'.cell? ⟨b1, o1 + k * 4, none⟩ = some (.string s0))
                                            ((first | exact ⟨x17, x16, e0⟩ | exact ⟨bc BA hlt17 x17, bc BA hlt16 x16, bc BA hbl e0⟩ | exact HS6))
                                            (((with_reducible refine if_step' ?_); refine step_append_lies (w := _) rfl (.tmp 138) (.tmp 150) 47 rfl (b0 + 1) 50 ie (.agg #[.string ByteArray.empty, .int .i64 0]) 2 24 Try.underlying47 hie he0 he1 he2 rfl (by decide) u12 L1.length (flat L1) rfl (by first | exact World.ownsRow.alloc hLd.r1 _ | exact (World.ownsRow.alloc hLd.r1 _).drew) _ 1 1 [.string s0, .int .i64 z] rfl rfl (World.news_of_block (by first | exact block_alloc_last wc _ | exact block_alloc_last (wc.drew) _)) (by intro u hu; simp at hu; rcases hu with rfl | rfl <;> rfl) (by decide) (by unfold maxLen; omega) (by omega) (by simp; omega) _ rfl ?_; intro gq cp w6 hown2 hgr hat hglt; have hgr' : (wc.alloc (.cells #[.string s0, .int .i64 z] 50)).grownBy w6 (u12 : Value).ownBlock := ⟨hgr.os, hgr.tape, hgr.output, hgr.size, hgr.block⟩; have hgr2 := grown_alloc hgr' (fun j hj => (hLd.r1.lt j hj).2); have HS6 : w6.cell? ⟨p17, 2, none⟩ = some (.int .i64 C) ∧ w6.cell? ⟨p16, 2, none⟩ = some (.int .i64 zc) ∧ w6.cell? ⟨b1, o1 + k * 4, none⟩ = some (.string s0) := ⟨(hgr2.cell_far _ hlt17 (hnb _ h3p17)).trans x17, (hgr2.cell_far _ hlt16 (hnb _ h3p16)).trans x16, (hgr2.cell_far _ hbl (ownblock_ne hLd.r1 (Nat.lt_succ_of_lt hb1))).trans e0⟩))
                                          have ho : OwnL w6 (b0 + 1) (.slice (some ⟨gq, 0, none⟩) (L1.length + 1) cp) (addL L1 s0 zc C) := by
                                            unfold addL OwnL
                                            rw [if_pos cq, flat_app, hzz]
                                            simpa [flat] using hown2
                                          have hLy := hLd.put1 hgr2 ho (by
                                            rcases hat with h | h
                                            · exact .inl h.symm
                                            · exact .inr ⟨gq, rfl, by rw [h]; simp⟩)
                                          have y16 := h16.kept hgr2 (hnb _ h3p16)
                                          have y17 := h17.kept hgr2 (hnb _ h3p17)
                                          have ye := HS6.2.2
                                          go_wp2_with fail
                                          go_meet
                                          exact ⟨hLy, y16, y17, ye⟩
                                        · have e1 : addL L1 s0 zc C = L1 := by unfold addL; rw [if_neg cq]
                                          have hLy : Lw W b0 wc N0 G u12 u13 (addL L1 s0 zc C) L2 := by rw [e1]; exact hLd
                                          have y16 := h16
                                          have y17 := h17
                                          have ye := e0
                                          go_wp2_with fail
                                          go_meet
                                          exact ⟨hLy, y16, y17, ye⟩
                                    case rest =>
                                      as_aux_lemma =>
                                        obtain ⟨hLe, k16, k17, ke⟩ := hcut
                                        clear hLd h16 h17 e0 x16 x17
                                        have x16 := k16.c3
                                        have x17 := k17.c3
                                        simp only at x16 x17
                                        go_upto_if 156 with fail
                                        by_cases cq : zd < D
                                        · obtain ⟨z, hzz⟩ : ∃ z, IntKind.i64.wrap (D - zd) = z := ⟨_, rfl⟩
                                          go_upto_region 33 with fail
                                          have hmlt := hLe.m.lt
                                          have hbl : b1 < wc.heap.size := Nat.lt_trans hb1 hmlt
                                          have BA : Below wc.heap.size wc (wc.alloc (.cells #[.string s0, .int .i64 z] 50)) := balloc (Below.refl _ _) _
                                          have hnb : ∀ q, w3.heap.size ≤ q → some q ≠ (u13 : Value).ownBlock := fun q hq hh => by have := hr13.out q hh.symm; omega
                                          have hlt16 := k16.lt
                                          have hlt17 := k17.lt
                                          go_region_held2 (fun w' => w'.cell? ⟨p17, 3, none⟩ = some (.int .i64 D) ∧ w'.cell? ⟨p16, 3, none⟩ = some (.int .i64 zd) ∧ w'.cell? ⟨b1, o1 + k * 4, none⟩ = some (.string s0))
                                            ((first | exact ⟨x17, x16, ke⟩ | exact ⟨bc BA hlt17 x17, bc BA hlt16 x16, bc BA hbl ke⟩ | exact HS6))
                                            (((with_reducible refine if_step' ?_); refine step_append_lies (w := _) rfl (.tmp 157) (.tmp 169) 47 rfl (b0 + 1) 50 ie (.agg #[.string ByteArray.empty, .int .i64 0]) 2 24 Try.underlying47 hie he0 he1 he2 rfl (by decide) u13 L2.length (flat L2) rfl (by first | exact World.ownsRow.alloc hLe.r2 _ | exact (World.ownsRow.alloc hLe.r2 _).drew) _ 1 1 [.string s0, .int .i64 z] rfl rfl (World.news_of_block (by first | exact block_alloc_last wc _ | exact block_alloc_last (wc.drew) _)) (by intro u hu; simp at hu; rcases hu with rfl | rfl <;> rfl) (by decide) (by unfold maxLen; omega) (by omega) (by simp; omega) _ rfl ?_; intro gq cp w6 hown2 hgr hat hglt; have hgr' : (wc.alloc (.cells #[.string s0, .int .i64 z] 50)).grownBy w6 (u13 : Value).ownBlock := ⟨hgr.os, hgr.tape, hgr.output, hgr.size, hgr.block⟩; have hgr2 := grown_alloc hgr' (fun j hj => (hLe.r2.lt j hj).2); have HS6 : w6.cell? ⟨p17, 3, none⟩ = some (.int .i64 D) ∧ w6.cell? ⟨p16, 3, none⟩ = some (.int .i64 zd) ∧ w6.cell? ⟨b1, o1 + k * 4, none⟩ = some (.string s0) := ⟨(hgr2.cell_far _ hlt17 (hnb _ h3p17)).trans x17, (hgr2.cell_far _ hlt16 (hnb _ h3p16)).trans x16, (hgr2.cell_far _ hbl (ownblock_ne hLe.r2 (Nat.lt_succ_of_lt hb1))).trans ke⟩))
                                          have ho : OwnL w6 (b0 + 1) (.slice (some ⟨gq, 0, none⟩) (L2.length + 1) cp) (addL L2 s0 zd D) := by
                                            unfold addL OwnL
                                            rw [if_pos cq, flat_app, hzz]
                                            simpa [flat] using hown2
                                          have hLy := hLe.put2 hgr2 ho (by
                                            rcases hat with h | h
                                            · exact .inl h.symm
                                            · exact .inr ⟨gq, rfl, by rw [h]; simp⟩)
                                          have y16 := k16.kept hgr2 (hnb _ h3p16)
                                          have y17 := k17.kept hgr2 (hnb _ h3p17)
                                          have ye := HS6.2.2
                                          go_wp2_with fail
                                          go_roundw
                                          case rel =>
                                            have hx1 := addL_len L1 (S k).code zc C
                                            have hx2 := addL_len L2 (S k).code zd D
                                            rw [← HS0.out] at hLy
                                            refine ⟨k + 1, c8, addL L1 (S k).code zc C, addL L2 (S k).code zd D, by omega, by go_num, rfl, hLy, by omega, by omega, ?_⟩
                                            obtain ⟨n64, z0, z1, z2⟩ := HSL.out
                                            exact round_end n64 ck z0 HZ.out HF.out H7.out HC8.out z1 z2
                                          case measure => simp [intOf]; omega
                                        · have e1 : addL L2 s0 zd D = L2 := by unfold addL; rw [if_neg cq]
                                          have hLy : Lw W b0 wc N0 G u12 u13 (addL L1 s0 zc C) (addL L2 s0 zd D) := by rw [e1]; exact hLe
                                          have y16 := k16
                                          have y17 := k17
                                          have ye := ke
                                          go_wp2_with fail
                                          go_roundw
                                          case rel =>
                                            have hx1 := addL_len L1 (S k).code zc C
                                            have hx2 := addL_len L2 (S k).code zd D
                                            rw [← HS0.out] at hLy
                                            refine ⟨k + 1, c8, addL L1 (S k).code zc C, addL L2 (S k).code zd D, by omega, by go_num, rfl, hLy, by omega, by omega, ?_⟩
                                            obtain ⟨n64, z0, z1, z2⟩ := HSL.out
                                            exact round_end n64 ck z0 HZ.out HF.out H7.out HC8.out z1 z2
                                          case measure => simp [intOf]; omega
                · have hcd : cd = aerrs G base S n ∧ (cd = 0 → L1 = lw G base S n ∧ L2 = lf G base S n) := by
                    rcases hst.out with ⟨h0, h1, h2, h3, h4⟩ | ⟨h0, h1⟩
                    · have hkn : k = n := by
                        rcases Nat.lt_or_ge k n with h | h
                        · exact absurd ⟨h, h0⟩ ck
                        · omega
                      subst hkn
                      exact ⟨by unfold aerrs; rw [if_neg (by omega), h2, h0], fun _ => ⟨h3, h4⟩⟩
                    · exact ⟨h1, fun h => absurd h h0⟩
                  have hl1' : L1.length ≤ n := by omega
                  have hl2' : L2.length ≤ n := by omega
                  have HCD := Lib.hid hcd
                  clear hst hcd
                  go_upto_region 17 with fail
                  go_cut [81] (fun s81 wx => s81 = .bool false ∧ wx = wr)
                  case first =>
                    as_aux_lemma =>
                      by_cases c1 : k < n
                      · have c0 : cd ≠ 0 := fun h => ck ⟨c1, h⟩
                        have c0' : (cd == 0) = false := by simp [c0]
                        have m1 : (k : Int) < (n : Int) := by omega
                        go_wp2_with fail
                        go_meet
                        exact ⟨by first | rfl | rw [c0'], rfl⟩
                      · have m1 : ¬ (k : Int) < (n : Int) := by omega
                        go_wp2_with fail
                        go_meet
                        exact ⟨rfl, rfl⟩
                  case rest =>
                    as_aux_lemma =>
                      obtain ⟨rfl, rfl⟩ := hcut
                      clear ck hl1 hl2
                      go_wp2_with fail
                      refine (all_ex base al n cl S _ (hl.step hL.bel) hS hb b0 N0 G hL.m (by omega) hgI).mono ?_
                      rintro e w4 ⟨ma, x1, x2, rfl, hb4, hok, hbad⟩
                      have hL4 := hL.below hb4
                      obtain ⟨hcd, hls⟩ := HCD.out
                      clear HCD
                      obtain ⟨er, her⟩ : ∃ er, aerrs G base S n = er := ⟨_, rfl⟩
                      have hpos := aerrs_pos G base S n
                      have hzero : er = 0 → aerr G base S n = 0 := fun h => by
                        have h2 := her.trans h
                        unfold aerrs at h2
                        split at h2
                        · omega
                        · exact h2
                      rw [her] at hcd hok hbad hpos
                      rw [her]
                      subst hcd
                      have HZERO := Lib.hid hzero
                      clear her hzero
                      by_cases c0 : cd = 0
                      · subst c0
                        obtain ⟨n64, ⟨NF, hHas⟩, ho1, ho2⟩ := hok rfl
                        obtain ⟨rfl, rfl⟩ := hls rfl
                        have h0 := HZERO.out rfl
                        have hw1 := lw_len G base S n
                        have hw2 := lf_len G base S n
                        have ho3 := own_below hL.r1 hb4
                        have ho4 := own_below hL.r2 hb4
                        obtain ⟨t1, k1, rfl, hi1⟩ := ownL_lst ho1 (by omega) (ByteArray.empty, 0)
                        obtain ⟨t2, k2, rfl, hi2⟩ := ownL_lst ho2 (by omega) (ByteArray.empty, 0)
                        obtain ⟨t3, k3, rfl, hi3⟩ := ownL_lst (L := lw G base S n) ho3 (by omega) (ByteArray.empty, 0)
                        obtain ⟨t4, k4, rfl, hi4⟩ := ownL_lst (L := lf G base S n) ho4 (by omega) (ByteArray.empty, 0)
                        clear hok hbad hls HZERO ho1 ho2 ho3 ho4 hL hpos
                        have hHAS := Lib.hid hHas
                        have hM4 := hL4.m
                        have hB4 := hL4.bel
                        clear hHas hL4
                        go_wp2_with fail
                        refine (items_is t1 t3 (lw G base S n).length k1 k3 _ w4 hi1 hi3).mono ?_
                        rintro e w5 ⟨rfl, hb5⟩
                        go_wp2_with fail
                        refine (items_is t2 t4 (lf G base S n).length k2 k4 _ w5 (hi2.step hb5) (hi4.step hb5)).mono ?_
                        rintro e w6 ⟨rfl, hb6⟩
                        go_wp2_with fail
                        have hB6 : Below W.heap.size W w6 := bstep hB4 (bstep hb5 hb6)
                        have hM6 : MapS w6 b0 N0 G := (hM4.next hb5 hM4.lt).next hb6 (hM4.next hb5 hM4.lt).lt
                        have hH6 : Hid (Has w6 (ma) NF (fo G base S n)) := fun wx hx => hHAS.out wx (bstep hb5 (bstep hb6 hx))
                        clear hi1 hi2 hi3 hi4 hb5 hb6 hM4 hB4 hHAS hb4 hgat hw1 hw2
                        have hfr := Lib.hid ((aerr_zero n).1 h0)
                        have hgu1 : Try.prog.eqGuardType Try.prog.depth 24 = false := by kernel_rfl
                        have hgu2 : Try.prog.eqGuardType Try.prog.depth 32 = false := by kernel_rfl
                        clear h0
                        go_loopw [23] (fun s23 wx => ∃ j : Nat, j ≤ n ∧ s23 = .int .i64 j ∧ Below w6.heap.size w6 wx) (fun s23 _ => n - (intOf s23).toNat)
                        case atStart => exact ⟨0, Nat.zero_le _, rfl, Below.refl _ _⟩
                        case round =>
                          as_aux_lemma =>
                            obtain ⟨j, hj, rfl, hbj⟩ := hrel
                            by_cases cj : j < n
                            · have l1 : (j : Int) < (n : Int) := by omega
                              have l0 : (0 : Int) ≤ (j : Int) := by omega
                              have hw : IntKind.i64.wrap ((j : Int) + 1) = (j : Int) + 1 := IntWalk.i64_in _ (by omega)
                              obtain ⟨b1, o1, rfl, hltW, hall⟩ := hl.2 (by omega)
                              have hBU : Below W.heap.size W wr := bstep hB6 hbj
                              have hSj := hS j cj
                              have e0 := bc hBU hltW (hall j cj 0 (.string (S j).code) rfl)
                              have e1 := bc hBU hltW (hall j cj 1 (.int .i64 (S j).wr) rfl)
                              have e2 := bc hBU hltW (hall j cj 2 (.int .i64 (S j).fr) rfl)
                              have e3 := bc hBU hltW (hall j cj 3 (.int .i64 (S j).ce) rfl)
                              rw [Nat.add_zero] at e0
                              have hlt3 : b1 < wr.heap.size := Nat.lt_of_lt_of_le hltW hBU.size
                              have hbj' := hbj
                              generalize wr = U at *
                              obtain ⟨⟨za, zb, zc, zd⟩, hz⟩ : ∃ x, (G (S j).code).getD (0, 0, 0, 0) = x := ⟨_, rfl⟩
                              have hfd : ∀ wx, Below W.heap.size W wx → Calls Try.prog 16 #[.slice ac nc cc, .slice az ns cz, .string (S j).code] wx fun e w' => e = .returned (.agg #[.int .i64 za, .int .i64 zb, .int .i64 zc, .int .i64 zd]) ∧ Below wx.heap.size wx w' := fun wx h => by
                                have h2 := hfound.out (S j).code wx h
                                rw [hz] at h2
                                exact h2
                              have hrs := fun wx => rstep_any za zb zc zd (S j).code (S j).wr (S j).fr (S j).ce base wx hSj.1
                              have hst4 : stAt G base (S j) = sstep za zb zc zd (S j).code.data.toList (S j).wr (S j).fr (S j).ce base := by unfold stAt was; rw [hz]
                              rw [← hst4] at hrs
                              have hat := fo_at (g := G) (base := base) (S := S) n (fun q hq => (hfr.out q hq).1) j cj
                              obtain ⟨⟨⟨A, B, C, D⟩, f⟩, hf⟩ : ∃ x, stAt G base (S j) = x := ⟨_, rfl⟩
                              rw [hf] at hrs hat
                              have hrs' : ∀ wx, Calls Try.prog 12 #[.agg #[.int .i64 za, .int .i64 zb, .int .i64 zc, .int .i64 zd], .agg #[.string (S j).code, .int .i64 (S j).wr, .int .i64 (S j).fr, .int .i64 (S j).ce], .int .i64 base] wx fun e w' => e = .returned (.tuple #[.agg #[.int .i64 A, .int .i64 B, .int .i64 C, .int .i64 D], .int .i64 f]) ∧ Below wx.heap.size wx w' := hrs
                              have HRS := Lib.hid hrs'
                              have hlk : ∀ wx, Below w6.heap.size w6 wx → (Instr.lookup 46 (.map ma) (.string (S j).code) true).run Try.prog wx = .ok (.tuple #[.agg #[.int .i64 A, .int .i64 B, .int .i64 C, .int .i64 D], .bool true]) wx := fun wx hx => by
                                have h := ((hH6.out wx hx).1 _ hSj.1).2
                                rw [hat] at h
                                exact h
                              have HLK := Lib.hid hlk
                              clear hrs hrs' hz hst4 hf hat hlk hall hfound hfr hS hH6 hM6
                              go_upto_region 42 with fail
                              go_cut [24] (fun s24 wx => ∃ g : Nat, s24 = .pointer (some ⟨g, 0, none⟩) ∧ Four wx g (A, B, C, D) ∧ Below U.heap.size U wx)
                              case first =>
                                as_aux_lemma =>
                                  clear HLK hbj hB6 hgI hSj
                                  go_region_held2 (fun w' => Below U.heap.size U w' ∧ ∀ b o, b < U.heap.size → w'.cell? ⟨b, o, none⟩ = U.cell? ⟨b, o, none⟩)
                                    ((refine keepS' ?_; first | with_reducible exact (Below.refl _ _).drew | with_reducible exact hBB | with_reducible exact hBA | with_reducible exact hBF | with_reducible exact balloc hBB _ | with_reducible exact balloc hBA _ | with_reducible exact balloc hBF _ | with_reducible exact balloc (And.left (by assumption)) _ | with_reducible exact balloc_drew' (And.left (by assumption)) _ | (refine set4 hBB ?_; (first | exact Nat.le_refl _ | exact hBA.size | exact hBF.size))))
                                    (first | (go_at_call 16; refine (hfd _ (bstep hBU (And.left (by assumption)))).mono ?_; rintro e wF ⟨rfl, hbF⟩; have hBF : Below U.heap.size U wF := bstep (And.left (by assumption)) hbF; obtain ⟨hcwF, hfwF⟩ := bcell hbF; (first | (have hzF : U.heap.size < wF.heap.size := by (have hq := hbF.size; (try simp at hq); omega)) | skip)) | (go_at_call 13; refine (of_is' za zb zc zd _).mono ?_; rintro e wA ⟨rfl, hbA⟩; have hBA : Below U.heap.size U wA := bstep (And.left (by assumption)) hbA; obtain ⟨hcwA, hfwA⟩ := bcell hbA; (first | (have hzG : wF.heap.size < wA.heap.size := by (have hq := hbA.size; (try simp at hq); omega)) | skip); (first | (have hzA : U.heap.size < wA.heap.size := by (have hq := hbA.size; (try simp at hq); omega)) | skip)) | (go_at_call 12; refine (HRS.out _).mono ?_; rintro e wB ⟨rfl, hbB⟩; have hBB : Below U.heap.size U wB := bstep (And.left (by assumption)) hbB; obtain ⟨hcwB, hfwB⟩ := bcell hbB; (first | (have hzB : U.heap.size < wB.heap.size := by (have hq := hbB.size; (try simp at hq); omega)) | skip)))
                                  all_goals
                                    go_wp2_with fail
                                    go_meet
                                    first
                                      | exact ⟨_, rfl, Four.new _ (A, B, C, D) _, balloc hBB _⟩
                                      | exact ⟨_, rfl, ((Four.new _ (0, 0, 0, 0) _).step hbB).put A B C D, set4 hBB hBA.size⟩
                                      | exact ⟨_, rfl, (((Four.new _ (0, 0, 0, 0) _).step hbA).step hbB).put A B C D, set4 hBB hBF.size⟩
                                      | exact ⟨_, rfl, ((((Four.new _ (0, 0, 0, 0) _).step (below_drew' hbF)).step hbA).step hbB).put A B C D, set4 hBB (Nat.le_refl _)⟩
                              case rest =>
                                as_aux_lemma =>
                                  obtain ⟨g, rfl, h24, hbc⟩ := hcut
                                  have hlk := HLK.out wc (bstep hbj hbc)
                                  have e0 := bc hbc hlt3 e0
                                  have hbn := bstep hbj hbc
                                  clear e1 e2 e3 HLK HRS hfd
                                  have h26 := Four.new wc (A, B, C, D) 24
                                  have h24' := h24.step (balloc (Below.refl _ _) (.cells #[.int .i64 A, .int .i64 B, .int .i64 C, .int .i64 D] 24))
                                  have hbn' : Below w6.heap.size w6 (wc.alloc (.cells #[.int .i64 A, .int .i64 B, .int .i64 C, .int .i64 D] 24)) := balloc hbn _
                                  go_upto_region 44 with fail
                                  clear hlk e0 h24 hbn hbc
                                  generalize wc.alloc (.cells #[.int .i64 A, .int .i64 B, .int .i64 C, .int .i64 D] 24) = U2 at *
                                  generalize wc.heap.size = p26 at *
                                  obtain ⟨y5, y0, y1, y2, y3, yf⟩ := id h26
                                  obtain ⟨z5, z0, z1, z2, z3, zf⟩ := id h24'
                                  try simp only at y0 y1 y2 y3
                                  try simp only at z0 z1 z2 z3
                                  go_region_held2 (fun w' => Below U2.heap.size U2 w' ∧ ∀ b o, b < U2.heap.size → w'.cell? ⟨b, o, none⟩ = U2.cell? ⟨b, o, none⟩)
                                    ((refine keepS' ?_; first | with_reducible exact (Below.refl _ _).drew | with_reducible exact hBA))
                                    ((go_at_call 13; refine (of_is' A B C D _).mono ?_; rintro e wA ⟨rfl, hbA⟩; have hBA : Below U2.heap.size U2 wA := bstep (And.left (by assumption)) hbA))
                                  go_wp2_with fail
                                  go_roundw
                                  case rel => exact ⟨j + 1, by omega, by go_num, bstep hbn' hBA⟩
                                  case measure => simp [intOf]; omega
                            · obtain rfl : j = n := by omega
                              go_wp2_with fail
                              have hB7 : Below W.heap.size W wr := bstep hB6 hbj
                              have hM7 : MapS wr b0 N0 G := hM6.next hbj hM6.lt
                              have hH7 : Hid (Has wr ma NF (fo G base S j)) := fun wx hx => hH6.out wx (bstep hbj hx)
                              clear hbj hB6 hM6 hH6 cj
                              generalize wr = w7 at *
                              go_loopw [28] (fun s28 wx => ∃ q : Nat, q ≤ i ∧ s28 = .int .i64 q ∧ Below w7.heap.size w7 wx) (fun s28 _ => i - (intOf s28).toNat)
                              case atStart => exact ⟨0, Nat.zero_le _, rfl, Below.refl _ _⟩
                              case round =>
                                as_aux_lemma =>
                                  obtain ⟨q, hq, rfl, hbq⟩ := hrel
                                  by_cases cq : q < i
                                  · have l1 : (q : Int) < (nc : Int) := by omega
                                    have l2 : (q : Int) < (ns : Int) := by omega
                                    have l0 : (0 : Int) ≤ (q : Int) := by omega
                                    have hw : IntKind.i64.wrap ((q : Int) + 1) = (q : Int) + 1 := IntWalk.i64_in _ (by omega)
                                    obtain ⟨d1, r1, rfl, hltC, hallC⟩ := hc.2 (by omega)
                                    have hBU : Below W.heap.size W wr := bstep hB7 hbq
                                    have e0 := bc hBU hltC (hallC q (by omega) 0 (.string (cs q)) rfl)
                                    rw [Nat.mul_one, Nat.add_zero] at e0
                                    have hltU : d1 < wr.heap.size := Nat.lt_of_lt_of_le hltC hBU.size
                                    have hcq := hcs q (by omega)
                                    have hsome : (G (cs q)).isSome = true := by rw [← HG.out]; exact gm_at cs sm i q cq
                                    obtain ⟨⟨za, zb, zc, zd⟩, hz⟩ : ∃ x, (G (cs q)).getD (0, 0, 0, 0) = x := ⟨_, rfl⟩
                                    have hfd : ∀ wx, Below W.heap.size W wx → Calls Try.prog 16 #[.slice (some ⟨d1, r1, none⟩) nc cc, .slice az ns cz, .string (cs q)] wx fun e w' => e = .returned (.agg #[.int .i64 za, .int .i64 zb, .int .i64 zc, .int .i64 zd]) ∧ Below wx.heap.size wx w' := fun wx h => by
                                      have h2 := hfound.out (cs q) wx h
                                      rw [hz] at h2
                                      exact h2
                                    have HFD := Lib.hid hfd
                                    obtain ⟨st, hst⟩ : ∃ st, decide (∃ j', j' < j ∧ (S j').code = cs q) = st := ⟨_, rfl⟩
                                    obtain ⟨FX, hFX⟩ : ∃ x, fo G base S j (cs q) = x := ⟨_, rfl⟩
                                    have hFs : FX.isSome = true := by
                                      rw [← hFX]
                                      by_cases hh : ∃ j', j' < j ∧ (S j').code = cs q
                                      · obtain ⟨j', hj', e⟩ := hh
                                        rw [← e, fo_at (g := G) (base := base) (S := S) j (fun q hq => (hfr.out q hq).1) j' hj']
                                        rfl
                                      · rw [fo_else (cs q) j (fun j' hj' e => hh ⟨j', hj', e⟩)]
                                        exact hsome
                                    have hFe : st = false → FX = G (cs q) := fun h => by
                                      rw [← hFX]
                                      rw [← hst] at h
                                      exact fo_else (cs q) j (fun j' hj' e => of_decide_eq_false h ⟨j', hj', e⟩)
                                    have hlk : ∀ wx, Below w7.heap.size w7 wx → (Instr.lookup 46 (.map ma) (.string (cs q)) true).run Try.prog wx = .ok (.tuple #[sval (FX.getD (0, 0, 0, 0)), .bool true]) wx := fun wx hx => by
                                      have h := ((hH7.out wx hx).1 _ hcq).2
                                      rw [hFX, hFs] at h
                                      exact h
                                    have hlw : ∀ wx, Below w7.heap.size w7 wx → (Instr.lookup 46 (.map (some b0)) (.string (cs q)) false).run Try.prog wx = .ok (.agg #[.int .i64 za, .int .i64 zb, .int .i64 zc, .int .i64 zd]) wx := fun wx hx => by
                                      have h := (hM7.next hx hM7.lt).look reads_sum kStr Try.underlying9 Try.underlying46 (zeroSums wx) hcq
                                      rw [hz] at h
                                      exact h
                                    have hFX2 : st = false → FX.getD (0, 0, 0, 0) = (za, zb, zc, zd) := fun h => by rw [hFe h]; exact hz
                                    obtain ⟨⟨xa, xb, xc, xd⟩, hxx⟩ : ∃ x, FX.getD (0, 0, 0, 0) = x := ⟨_, rfl⟩
                                    rw [hxx] at hlk hFX2
                                    have HLK := Lib.hid hlk
                                    have HLW := Lib.hid hlw
                                    have HST := Lib.hid hst
                                    have HF2 := Lib.hid hFX2
                                    clear hlk hlw hst hFX2 hFX hFs hFe hxx hz hfd hsome hfound hallC hcs hsm hs hc hM7 hH7 hfr
                                    go_wp2_with fail
                                    have hbq0 := hbq
                                    generalize wr = w8 at *
                                    go_loopw [29, 30] (fun s29 s30 wx => ∃ (p : Nat) (b : Bool), p ≤ j ∧ s30 = .int .i64 p ∧ s29 = .bool b ∧ Below w8.heap.size w8 wx ∧ Hid (decide (∃ j', j' < p ∧ (S j').code = cs q) = b)) (fun _ s30 _ => j - (intOf s30).toNat)
                                    case atStart => exact ⟨0, false, Nat.zero_le _, rfl, rfl, Below.refl _ _, decide_eq_false (fun ⟨j', h, _⟩ => by omega)⟩
                                    case round =>
                                      as_aux_lemma =>
                                        obtain ⟨p, b, hp, rfl, rfl, hbp, hbb⟩ := hrel
                                        by_cases cp : p < j
                                        · have m1 : (p : Int) < (j : Int) := by omega
                                          have m0 : (0 : Int) ≤ (p : Int) := by omega
                                          have hwp : IntKind.i64.wrap ((p : Int) + 1) = (p : Int) + 1 := IntWalk.i64_in _ (by omega)
                                          obtain ⟨b1, o1, rfl, hltW, hall⟩ := hl.2 (by omega)
                                          have dk := bc (bstep hBU hbp) hltW (hall p cp 0 (.string (S p).code) rfl)
                                          rw [Nat.add_zero] at dk
                                          have dq := bc hbp hltU e0
                                          cases b
                                          · have hno : ∀ j', j' < p → (S j').code ≠ cs q := fun j' hj' e => of_decide_eq_false hbb.out ⟨j', hj', e⟩
                                            by_cases he : (S p).code = cs q
                                            · have hnew : Hid (decide (∃ j', j' < p + 1 ∧ (S j').code = cs q) = true) := decide_eq_true ⟨p, by omega, he⟩
                                              rw [he] at dk
                                              clear hno he hbb hall
                                              generalize cs q = cq0 at *
                                              go_wp2_with fail
                                              go_quiet (fail)
                                              go_wp2_with fail
                                              go_roundw
                                              case rel => exact ⟨p + 1, true, by omega, by go_num, rfl, below_drewN hbp _, hnew⟩
                                              case measure => simp [intOf]; omega
                                            · have hnew : Hid (decide (∃ j', j' < p + 1 ∧ (S j').code = cs q) = false) := decide_eq_false (fun ⟨j', h1, h2⟩ => by
                                                rcases Nat.lt_or_ge j' p with h | h
                                                · exact hno j' h h2
                                                · obtain rfl : j' = p := by omega
                                                  exact he h2)
                                              have hne := str_ne he
                                              clear hno he hbb hall
                                              go_wp2_with fail
                                              go_quiet (fail)
                                              go_wp2_with fail
                                              go_roundw
                                              case rel => exact ⟨p + 1, false, by omega, by go_num, rfl, below_drewN hbp _, hnew⟩
                                              case measure => simp [intOf]; omega
                                          · have hnew : Hid (decide (∃ j', j' < p + 1 ∧ (S j').code = cs q) = true) := by
                                              obtain ⟨j', h1, h2⟩ := of_decide_eq_true hbb.out
                                              exact decide_eq_true ⟨j', by omega, h2⟩
                                            clear hbb hall
                                            go_wp2_with fail
                                            go_quiet (fail)
                                            go_wp2_with fail
                                            go_roundw
                                            case rel => exact ⟨p + 1, true, by omega, by go_num, rfl, below_drewN hbp _, hnew⟩
                                            case measure => simp [intOf]; omega
                                        · obtain rfl : p = j := by omega
                                          have hbst : b = st := hbb.out.symm.trans HST.out
                                          subst hbst
                                          have hb9 := bstep hbq0 hbp
                                          have hlk := HLK.out wr hb9
                                          have e0 := bc hbp hltU e0
                                          have hltR : d1 < wr.heap.size := Nat.lt_of_lt_of_le hltU hbp.size
                                          clear hbb HST cp
                                          simp only [sval] at hlk
                                          have h31 := Four.new wr (xa, xb, xc, xd) 24
                                          have hBZ : Below wr.heap.size wr (wr.alloc (.cells #[.int .i64 xa, .int .i64 xb, .int .i64 xc, .int .i64 xd] 24)) := balloc (Below.refl _ _) _
                                          have hb10 := bstep hb9 hBZ
                                          go_upto_region 55 with fail
                                          have e0 := bc hBZ hltR e0
                                          have hltZ : d1 < (wr.alloc (.cells #[.int .i64 xa, .int .i64 xb, .int .i64 xc, .int .i64 xd] 24)).heap.size := Nat.lt_of_lt_of_le hltR hBZ.size
                                          clear hlk hb9 hBZ hltR hBU hbp hbq0 hbq HLK
                                          have hBT : Below W.heap.size W (wr.alloc (.cells #[.int .i64 xa, .int .i64 xb, .int .i64 xc, .int .i64 xd] 24)) := bstep hB7 hb10
                                          generalize wr.alloc (.cells #[.int .i64 xa, .int .i64 xb, .int .i64 xc, .int .i64 xd] 24) = U at *
                                          generalize wr.heap.size = p31 at *
                                          obtain ⟨y5, y0, y1, y2, y3, yf⟩ := id h31
                                          try simp only at y0 y1 y2 y3
                                          have hlw : (Instr.lookup 46 (.map (some b0)) (.string (cs q)) false).run Try.prog U.drew = .ok (.agg #[.int .i64 za, .int .i64 zb, .int .i64 zc, .int .i64 zd]) U.drew := HLW.out U.drew hb10.drew
                                          cases b
                                          · have hx := HF2.out rfl
                                            injection hx with hx1 hx2
                                            injection hx2 with hx2 hx3
                                            injection hx3 with hx3 hx4
                                            subst hx1 hx2 hx3 hx4
                                            go_region_held2 (fun w' => Below U.heap.size U w' ∧ (∀ b o, b < U.heap.size → w'.cell? ⟨b, o, none⟩ = U.cell? ⟨b, o, none⟩) ∧ (Instr.lookup 46 (.map (some b0)) (.string (cs q)) false).run Try.prog w' = .ok (.agg #[.int .i64 xa, .int .i64 xb, .int .i64 xc, .int .i64 xd]) w')
                                              ((first | exact ⟨(Below.refl _ _).drew, fun _ _ _ => rfl, hlw⟩ | exact ⟨hBF, (bcell hBF).1, HLW.out _ (bstep hb10 hBF)⟩ | assumption))
                                              ((go_at_call 16; refine (HFD.out _ (bstep hBT (And.left (by assumption)))).mono ?_; rintro e wF ⟨rfl, hbF⟩; have hBF : Below U.heap.size U wF := bstep (And.left (by assumption)) hbF))
                                            all_goals
                                              go_wp2_with fail
                                              go_roundw
                                              case rel => exact ⟨q + 1, by omega, by go_num, bstep hb10 hBF⟩
                                              case measure => simp [intOf]; omega
                                          · clear HF2
                                            refine wp_region_noPanic ?_
                                            refine wp_region_held_drew (S := fun w' => Below U.heap.size U w' ∧ (∀ b o, b < U.heap.size → w'.cell? ⟨b, o, none⟩ = U.cell? ⟨b, o, none⟩) ∧ (Instr.lookup 46 (.map (some b0)) (.string (cs q)) false).run Try.prog w' = .ok (.agg #[.int .i64 za, .int .i64 zb, .int .i64 zc, .int .i64 zd]) w') (by kernel_rfl) (by exact ⟨(Below.refl _ _).drew, fun _ _ _ => rfl, hlw⟩) (fun hHa => ?_)
                                            refine wpAnyH_take (i := 0) (oi := ({ dst := some 296, op := Op.move (Operand.tmp 32), type := 4, pos := "law.go:114", after := #[], guard := none })) (v := ?_) rfl (by kernel_rfl) (by kernel_rfl) (by kernel_rfl) (fun _ _ _ h => h) (Or.inl ⟨by rfl, ?_⟩) hHa ?_
                                            rotate_left 1
                                            focus ((intro w hSw); (try dsimp only at hSw); go_simp; (try with_reducible rfl))
                                            try simp only [Act.put, List.setIfInBounds_toArray, List.set_cons_zero, List.set_cons_succ]
                                            refine wpAnyH_take (i := 1) (oi := ({ dst := some 297, op := Op.unOp UnOp.not 4 (Operand.tmp 296), type := 4, pos := "law.go:114", after := #[{ on := 0, ground := Ground.data }], guard := none })) (v := ?_) rfl (by kernel_rfl) (by kernel_rfl) (by kernel_rfl) (fun _ _ _ h => h) (Or.inl ⟨by rfl, ?_⟩) hHa ?_
                                            rotate_left 1
                                            focus ((intro w hSw); (try dsimp only at hSw); go_simp; (try with_reducible rfl))
                                            try simp only [Act.put, List.setIfInBounds_toArray, List.set_cons_zero, List.set_cons_succ]
                                            refine wpAnyH_take (i := 2) (oi := ({ dst := some 298, op := Op.move (Operand.tmp 297), type := 4, pos := "law.go:114", after := #[{ on := 1, ground := Ground.data }], guard := none })) (v := ?_) rfl (by kernel_rfl) (by kernel_rfl) (by kernel_rfl) (fun _ _ _ h => h) (Or.inl ⟨by rfl, ?_⟩) hHa ?_
                                            rotate_left 1
                                            focus ((intro w hSw); (try dsimp only at hSw); go_simp; (try with_reducible rfl))
                                            try simp only [Act.put, List.setIfInBounds_toArray, List.set_cons_zero, List.set_cons_succ]
                                            refine wpAnyH_take (i := 3) (oi := ({ dst := some 299, op := Op.move (Operand.tmp 29), type := 4, pos := "law.go:114", after := #[{ on := 2, ground := Ground.guard }], guard := some (2, false) })) (v := ?_) rfl (by kernel_rfl) (by kernel_rfl) (by kernel_rfl) (fun _ _ _ h => h) (Or.inl ⟨by rfl, ?_⟩) hHa ?_
                                            rotate_left 1
                                            focus ((intro w hSw); (try dsimp only at hSw); go_simp; (try with_reducible rfl))
                                            try simp only [Act.put, List.setIfInBounds_toArray, List.set_cons_zero, List.set_cons_succ]
                                            refine wpAnyH_take (i := 4) (oi := ({ dst := some 300, op := Op.unOp UnOp.not 4 (Operand.tmp 299), type := 4, pos := "law.go:114", after := #[{ on := 3, ground := Ground.data }, { on := 2, ground := Ground.guard }], guard := some (2, false) })) (v := ?_) rfl (by kernel_rfl) (by kernel_rfl) (by kernel_rfl) (fun _ _ _ h => h) (Or.inl ⟨by rfl, ?_⟩) hHa ?_
                                            rotate_left 1
                                            focus ((intro w hSw); (try dsimp only at hSw); go_simp; (try with_reducible rfl))
                                            try simp only [Act.put, List.setIfInBounds_toArray, List.set_cons_zero, List.set_cons_succ]
                                            refine wpAnyH_take (i := 5) (oi := ({ dst := some 301, op := Op.move (Operand.tmp 300), type := 4, pos := "law.go:114", after := #[{ on := 4, ground := Ground.data }, { on := 2, ground := Ground.chain }, { on := 2, ground := Ground.guard }], guard := some (2, false) })) (v := ?_) rfl (by kernel_rfl) (by kernel_rfl) (by kernel_rfl) (fun _ _ _ h => h) (Or.inl ⟨by rfl, ?_⟩) hHa ?_
                                            rotate_left 1
                                            focus ((intro w hSw); (try dsimp only at hSw); go_simp; (try with_reducible rfl))
                                            try simp only [Act.put, List.setIfInBounds_toArray, List.set_cons_zero, List.set_cons_succ]
                                            refine wpAnyH_take (i := 6) (oi := ({ dst := some 302, op := Op.load 24 (Operand.tmp 31), type := 24, pos := "law.go:114", after := #[{ on := 5, ground := Ground.guard }], guard := some (5, true) })) (v := undef) rfl (by kernel_rfl) (by kernel_rfl) (by kernel_rfl) (fun _ _ _ h => h) (Or.inr ⟨by rfl, rfl⟩) hHa ?_
                                            try simp only [Act.put, List.setIfInBounds_toArray, List.set_cons_zero, List.set_cons_succ]
                                            refine wpAnyH_take (i := 7) (oi := ({ dst := some 303, op := Op.move (Operand.tmp 0), type := 43, pos := "law.go:114", after := #[{ on := 5, ground := Ground.guard }], guard := some (5, true) })) (v := undef) rfl (by kernel_rfl) (by kernel_rfl) (by kernel_rfl) (fun _ _ _ h => h) (Or.inr ⟨by rfl, rfl⟩) hHa ?_
                                            try simp only [Act.put, List.setIfInBounds_toArray, List.set_cons_zero, List.set_cons_succ]
                                            refine wpAnyH_take (i := 8) (oi := ({ dst := some 304, op := Op.move (Operand.tmp 1), type := 44, pos := "law.go:114", after := #[{ on := 5, ground := Ground.guard }], guard := some (5, true) })) (v := undef) rfl (by kernel_rfl) (by kernel_rfl) (by kernel_rfl) (fun _ _ _ h => h) (Or.inr ⟨by rfl, rfl⟩) hHa ?_
                                            try simp only [Act.put, List.setIfInBounds_toArray, List.set_cons_zero, List.set_cons_succ]
                                            refine wpAnyH_take (i := 9) (oi := ({ dst := some 305, op := Op.move (Operand.tmp 0), type := 43, pos := "law.go:114", after := #[{ on := 5, ground := Ground.guard }], guard := some (5, true) })) (v := undef) rfl (by kernel_rfl) (by kernel_rfl) (by kernel_rfl) (fun _ _ _ h => h) (Or.inr ⟨by rfl, rfl⟩) hHa ?_
                                            try simp only [Act.put, List.setIfInBounds_toArray, List.set_cons_zero, List.set_cons_succ]
                                            refine wpAnyH_take (i := 10) (oi := ({ dst := some 306, op := Op.move (Operand.tmp 28), type := 3, pos := "law.go:114", after := #[{ on := 5, ground := Ground.guard }], guard := some (5, true) })) (v := undef) rfl (by kernel_rfl) (by kernel_rfl) (by kernel_rfl) (fun _ _ _ h => h) (Or.inr ⟨by rfl, rfl⟩) hHa ?_
                                            try simp only [Act.put, List.setIfInBounds_toArray, List.set_cons_zero, List.set_cons_succ]
                                            refine wpAnyH_take (i := 11) (oi := ({ dst := some 307, op := Op.indexAddr 43 (Operand.tmp 305) (Operand.tmp 306), type := 0, pos := "law.go:114", after := #[{ on := 9, ground := Ground.data }, { on := 10, ground := Ground.data }, { on := 5, ground := Ground.guard }], guard := some (5, true) })) (v := undef) rfl (by kernel_rfl) (by kernel_rfl) (by kernel_rfl) (fun _ _ _ h => h) (Or.inr ⟨by rfl, rfl⟩) hHa ?_
                                            try simp only [Act.put, List.setIfInBounds_toArray, List.set_cons_zero, List.set_cons_succ]
                                            refine wpAnyH_take (i := 12) (oi := ({ dst := some 308, op := Op.load 9 (Operand.tmp 307), type := 9, pos := "law.go:114", after := #[{ on := 11, ground := Ground.data }, { on := 5, ground := Ground.guard }], guard := some (5, true) })) (v := undef) rfl (by kernel_rfl) (by kernel_rfl) (by kernel_rfl) (fun _ _ _ h => h) (Or.inr ⟨by rfl, rfl⟩) hHa ?_
                                            try simp only [Act.put, List.setIfInBounds_toArray, List.set_cons_zero, List.set_cons_succ]
                                            refine wpAnyH_take (i := 13) (oi := ({ dst := some 309, op := Op.call { callee := Callee.value (Operand.func 16), args := #[Operand.tmp 303, Operand.tmp 304, Operand.tmp 308], argTypes := #[43, 44, 9] }, type := 24, pos := "law.go:114", after := #[{ on := 7, ground := Ground.data }, { on := 8, ground := Ground.data }, { on := 12, ground := Ground.data }, { on := 5, ground := Ground.chain }, { on := 5, ground := Ground.guard }], guard := some (5, true) })) (v := undef) rfl (by kernel_rfl) (by kernel_rfl) (by kernel_rfl) (fun _ _ _ h => h) (Or.inr ⟨by rfl, rfl⟩) hHa ?_
                                            try simp only [Act.put, List.setIfInBounds_toArray, List.set_cons_zero, List.set_cons_succ]
                                            refine wpAnyH_take (i := 14) (oi := ({ dst := some 310, op := Op.binOp BinOp.neq 24 (Operand.tmp 302) (Operand.tmp 309) 24, type := 4, pos := "law.go:114", after := #[{ on := 6, ground := Ground.data }, { on := 13, ground := Ground.data }, { on := 5, ground := Ground.guard }], guard := some (5, true) })) (v := undef) rfl (by kernel_rfl) (by kernel_rfl) (by kernel_rfl) (fun _ _ _ h => h) (Or.inr ⟨by rfl, rfl⟩) hHa ?_
                                            try simp only [Act.put, List.setIfInBounds_toArray, List.set_cons_zero, List.set_cons_succ]
                                            refine wpAnyH_take (i := 15) (oi := ({ dst := some 311, op := Op.pick (Operand.tmp 301) (Operand.tmp 310) (Operand.const (Value.bool false)), type := 4, pos := "law.go:114", after := #[{ on := 5, ground := Ground.data }, { on := 14, ground := Ground.data }, { on := 2, ground := Ground.guard }], guard := some (2, false) })) (v := ?_) rfl (by kernel_rfl) (by kernel_rfl) (by kernel_rfl) (fun _ _ _ h => h) (Or.inl ⟨by rfl, ?_⟩) hHa ?_
                                            rotate_left 1
                                            focus ((intro w hSw); (try dsimp only at hSw); go_simp; (try with_reducible rfl))
                                            try simp only [Act.put, List.setIfInBounds_toArray, List.set_cons_zero, List.set_cons_succ]
                                            refine wpAnyH_take (i := 16) (oi := ({ dst := some 312, op := Op.pick (Operand.tmp 298) (Operand.const (Value.bool true)) (Operand.tmp 311), type := 4, pos := "law.go:114", after := #[{ on := 2, ground := Ground.data }, { on := 15, ground := Ground.data }], guard := none })) (v := ?_) rfl (by kernel_rfl) (by kernel_rfl) (by kernel_rfl) (fun _ _ _ h => h) (Or.inl ⟨by rfl, ?_⟩) hHa ?_
                                            rotate_left 1
                                            focus ((intro w hSw); (try dsimp only at hSw); go_simp; (try with_reducible rfl))
                                            try simp only [Act.put, List.setIfInBounds_toArray, List.set_cons_zero, List.set_cons_succ]
                                            refine wpAnyH_take (i := 17) (oi := ({ dst := some 313, op := Op.move (Operand.tmp 312), type := 4, pos := "law.go:114", after := #[{ on := 16, ground := Ground.data }, { on := 13, ground := Ground.chain }], guard := none })) (v := ?_) rfl (by kernel_rfl) (by kernel_rfl) (by kernel_rfl) (fun _ _ _ h => h) (Or.inl ⟨by rfl, ?_⟩) hHa ?_
                                            rotate_left 1
                                            focus ((intro w hSw); (try dsimp only at hSw); go_simp; (try with_reducible rfl))
                                            try simp only [Act.put, List.setIfInBounds_toArray, List.set_cons_zero, List.set_cons_succ]
                                            refine wpAnyH_take (i := 18) (oi := ({ dst := some 314, op := Op.move (Operand.tmp 9), type := 46, pos := "law.go:114", after := #[{ on := 17, ground := Ground.guard }], guard := some (17, false) })) (v := ?_) rfl (by kernel_rfl) (by kernel_rfl) (by kernel_rfl) (fun _ _ _ h => h) (Or.inl ⟨by rfl, ?_⟩) hHa ?_
                                            rotate_left 1
                                            focus ((intro w hSw); (try dsimp only at hSw); go_simp; (try with_reducible rfl))
                                            try simp only [Act.put, List.setIfInBounds_toArray, List.set_cons_zero, List.set_cons_succ]
                                            refine wpAnyH_take (i := 19) (oi := ({ dst := some 315, op := Op.move (Operand.tmp 0), type := 43, pos := "law.go:114", after := #[{ on := 17, ground := Ground.guard }], guard := some (17, false) })) (v := ?_) rfl (by kernel_rfl) (by kernel_rfl) (by kernel_rfl) (fun _ _ _ h => h) (Or.inl ⟨by rfl, ?_⟩) hHa ?_
                                            rotate_left 1
                                            focus ((intro w hSw); (try dsimp only at hSw); go_simp; (try with_reducible rfl))
                                            try simp only [Act.put, List.setIfInBounds_toArray, List.set_cons_zero, List.set_cons_succ]
                                            refine wpAnyH_take (i := 20) (oi := ({ dst := some 316, op := Op.move (Operand.tmp 28), type := 3, pos := "law.go:114", after := #[{ on := 17, ground := Ground.guard }], guard := some (17, false) })) (v := ?_) rfl (by kernel_rfl) (by kernel_rfl) (by kernel_rfl) (fun _ _ _ h => h) (Or.inl ⟨by rfl, ?_⟩) hHa ?_
                                            rotate_left 1
                                            focus ((intro w hSw); (try dsimp only at hSw); go_simp; (try with_reducible rfl))
                                            try simp only [Act.put, List.setIfInBounds_toArray, List.set_cons_zero, List.set_cons_succ]
                                            refine wpAnyH_take (i := 21) (oi := ({ dst := some 317, op := Op.indexAddr 43 (Operand.tmp 315) (Operand.tmp 316), type := 0, pos := "law.go:114", after := #[{ on := 19, ground := Ground.data }, { on := 20, ground := Ground.data }, { on := 17, ground := Ground.guard }], guard := some (17, false) })) (v := ?_) rfl (by kernel_rfl) (by kernel_rfl) (by kernel_rfl) (fun _ _ _ h => h) (Or.inl ⟨by rfl, ?_⟩) hHa ?_
                                            rotate_left 1
                                            focus ((intro w hSw); (try dsimp only at hSw); go_simp; (try with_reducible rfl))
                                            try simp only [Act.put, List.setIfInBounds_toArray, List.set_cons_zero, List.set_cons_succ]
                                            refine wpAnyH_take (i := 22) (oi := ({ dst := some 318, op := Op.load 9 (Operand.tmp 317), type := 9, pos := "law.go:114", after := #[{ on := 21, ground := Ground.data }, { on := 17, ground := Ground.guard }], guard := some (17, false) })) (v := ?_) rfl (by kernel_rfl) (by kernel_rfl) (by kernel_rfl) (fun _ _ _ h => h) (Or.inl ⟨by rfl, ?_⟩) hHa ?_
                                            rotate_left 1
                                            focus ((intro w hSw); (try dsimp only at hSw); go_simp; (try with_reducible rfl))
                                            try simp only [Act.put, List.setIfInBounds_toArray, List.set_cons_zero, List.set_cons_succ]
                                            refine wpAnyH_take (i := 23) (oi := ({ dst := some 319, op := Op.lookup 46 (Operand.tmp 314) (Operand.tmp 318) false, type := 24, pos := "law.go:114", after := #[{ on := 18, ground := Ground.data }, { on := 22, ground := Ground.data }, { on := 17, ground := Ground.guard }], guard := some (17, false) })) (v := ?_) rfl (by kernel_rfl) (by kernel_rfl) (by kernel_rfl) (fun _ _ _ h => h) (Or.inl ⟨by rfl, ?_⟩) hHa ?_
                                            rotate_left 1
                                            focus ((intro w hSw); (try dsimp only at hSw); go_simp; (try with_reducible rfl))
                                            try simp only [Act.put, List.setIfInBounds_toArray, List.set_cons_zero, List.set_cons_succ]
                                            refine wpAnyH_take (i := 24) (oi := ({ dst := some 320, op := Op.move (Operand.tmp 0), type := 43, pos := "law.go:114", after := #[{ on := 17, ground := Ground.guard }], guard := some (17, false) })) (v := ?_) rfl (by kernel_rfl) (by kernel_rfl) (by kernel_rfl) (fun _ _ _ h => h) (Or.inl ⟨by rfl, ?_⟩) hHa ?_
                                            rotate_left 1
                                            focus ((intro w hSw); (try dsimp only at hSw); go_simp; (try with_reducible rfl))
                                            try simp only [Act.put, List.setIfInBounds_toArray, List.set_cons_zero, List.set_cons_succ]
                                            refine wpAnyH_take (i := 25) (oi := ({ dst := some 321, op := Op.move (Operand.tmp 1), type := 44, pos := "law.go:114", after := #[{ on := 17, ground := Ground.guard }], guard := some (17, false) })) (v := ?_) rfl (by kernel_rfl) (by kernel_rfl) (by kernel_rfl) (fun _ _ _ h => h) (Or.inl ⟨by rfl, ?_⟩) hHa ?_
                                            rotate_left 1
                                            focus ((intro w hSw); (try dsimp only at hSw); go_simp; (try with_reducible rfl))
                                            try simp only [Act.put, List.setIfInBounds_toArray, List.set_cons_zero, List.set_cons_succ]
                                            refine wpAnyH_take (i := 26) (oi := ({ dst := some 322, op := Op.move (Operand.tmp 0), type := 43, pos := "law.go:114", after := #[{ on := 17, ground := Ground.guard }], guard := some (17, false) })) (v := ?_) rfl (by kernel_rfl) (by kernel_rfl) (by kernel_rfl) (fun _ _ _ h => h) (Or.inl ⟨by rfl, ?_⟩) hHa ?_
                                            rotate_left 1
                                            focus ((intro w hSw); (try dsimp only at hSw); go_simp; (try with_reducible rfl))
                                            try simp only [Act.put, List.setIfInBounds_toArray, List.set_cons_zero, List.set_cons_succ]
                                            refine wpAnyH_take (i := 27) (oi := ({ dst := some 323, op := Op.move (Operand.tmp 28), type := 3, pos := "law.go:114", after := #[{ on := 17, ground := Ground.guard }], guard := some (17, false) })) (v := ?_) rfl (by kernel_rfl) (by kernel_rfl) (by kernel_rfl) (fun _ _ _ h => h) (Or.inl ⟨by rfl, ?_⟩) hHa ?_
                                            rotate_left 1
                                            focus ((intro w hSw); (try dsimp only at hSw); go_simp; (try with_reducible rfl))
                                            try simp only [Act.put, List.setIfInBounds_toArray, List.set_cons_zero, List.set_cons_succ]
                                            refine wpAnyH_take (i := 28) (oi := ({ dst := some 324, op := Op.indexAddr 43 (Operand.tmp 322) (Operand.tmp 323), type := 0, pos := "law.go:114", after := #[{ on := 26, ground := Ground.data }, { on := 27, ground := Ground.data }, { on := 17, ground := Ground.guard }], guard := some (17, false) })) (v := ?_) rfl (by kernel_rfl) (by kernel_rfl) (by kernel_rfl) (fun _ _ _ h => h) (Or.inl ⟨by rfl, ?_⟩) hHa ?_
                                            rotate_left 1
                                            focus ((intro w hSw); (try dsimp only at hSw); go_simp; (try with_reducible rfl))
                                            try simp only [Act.put, List.setIfInBounds_toArray, List.set_cons_zero, List.set_cons_succ]
                                            refine wpAnyH_take (i := 29) (oi := ({ dst := some 325, op := Op.load 9 (Operand.tmp 324), type := 9, pos := "law.go:114", after := #[{ on := 28, ground := Ground.data }, { on := 17, ground := Ground.guard }], guard := some (17, false) })) (v := ?_) rfl (by kernel_rfl) (by kernel_rfl) (by kernel_rfl) (fun _ _ _ h => h) (Or.inl ⟨by rfl, ?_⟩) hHa ?_
                                            rotate_left 1
                                            focus ((intro w hSw); (try dsimp only at hSw); go_simp; (try with_reducible rfl))
                                            try simp only [Act.put, List.setIfInBounds_toArray, List.set_cons_zero, List.set_cons_succ]
                                            refine wpAnyH_ready (rs := [30]) (by kernel_rfl) (by simp) ?_
                                            refine AllReadyH.cons (o := ({ dst := some 326, op := Op.call { callee := Callee.value (Operand.func 16), args := #[Operand.tmp 320, Operand.tmp 321, Operand.tmp 325], argTypes := #[43, 44, 9] }, type := 24, pos := "law.go:114", after := #[{ on := 24, ground := Ground.data }, { on := 25, ground := Ground.data }, { on := 29, ground := Ground.data }, { on := 17, ground := Ground.chain }, { on := 17, ground := Ground.guard }], guard := some (17, false) })) rfl (fun K hK => ?_) AllReadyH.nil
                                            go_simp
                                            refine (HFD.out _ (bstep hBT hHa.1)).mono ?_; rintro e wF ⟨rfl, hbF⟩; have hBF : Below U.heap.size U wF := bstep hHa.1 hbF
                                            try go_wp2_with fail
                                            refine hK.out _ _ (by exact ⟨hBF, (bcell hBF).1, HLW.out _ (bstep hb10 hBF)⟩) (fun hHb => ?_)
                                            clear hK K hHa
                                            try simp only [Act.put, List.setIfInBounds_toArray, List.set_cons_zero, List.set_cons_succ]
                                            refine wpAnyH_take (i := 31) (oi := ({ dst := some 327, op := Op.binOp BinOp.neq 24 (Operand.tmp 319) (Operand.tmp 326) 24, type := 4, pos := "law.go:114", after := #[{ on := 23, ground := Ground.data }, { on := 30, ground := Ground.data }, { on := 17, ground := Ground.guard }], guard := some (17, false) })) (v := ?_) rfl (by kernel_rfl) (by kernel_rfl) (by kernel_rfl) (fun _ _ _ h => h) (Or.inl ⟨by rfl, ?_⟩) hHb ?_
                                            rotate_left 1
                                            focus ((intro w hSw); (try dsimp only at hSw); go_simp; (try with_reducible rfl))
                                            try simp only [Act.put, List.setIfInBounds_toArray, List.set_cons_zero, List.set_cons_succ]
                                            refine wpAnyH_take (i := 32) (oi := ({ dst := some 328, op := Op.pick (Operand.tmp 313) (Operand.const (Value.bool true)) (Operand.tmp 327), type := 4, pos := "law.go:114", after := #[{ on := 17, ground := Ground.data }, { on := 31, ground := Ground.data }], guard := none })) (v := ?_) rfl (by kernel_rfl) (by kernel_rfl) (by kernel_rfl) (fun _ _ _ h => h) (Or.inl ⟨by rfl, ?_⟩) hHb ?_
                                            rotate_left 1
                                            focus ((intro w hSw); (try dsimp only at hSw); go_simp; (try with_reducible rfl))
                                            try simp only [Act.put, List.setIfInBounds_toArray, List.set_cons_zero, List.set_cons_succ]
                                            refine wpAnyH_done (by kernel_rfl) ?_ _
                                            refine NoPanic.normal ?_
                                            go_wp2_with fail
                                            go_roundw
                                            case rel => exact ⟨q + 1, by omega, by go_num, bstep hb10 hBF⟩
                                            case measure => simp [intOf]; omega
                                  · obtain rfl : q = i := by omega
                                    have hBE := bstep hB7 hbq
                                    go_upto_region 47 with fail
                                    go_cut [265] (fun s265 wx => s265 = .bool false ∧ wx = wr)
                                    case first =>
                                      as_aux_lemma =>
                                        by_cases cz1 : q < nc
                                        · have cq1 : (q : Int) < (nc : Int) := by omega
                                          have cq2 : ¬ (q : Int) < (ns : Int) := by omega
                                          go_wp2_with fail
                                          go_meet
                                          exact ⟨rfl, rfl⟩
                                        · have cq1 : ¬ (q : Int) < (nc : Int) := by omega
                                          go_wp2_with fail
                                          go_meet
                                          exact ⟨rfl, rfl⟩
                                    case rest =>
                                      as_aux_lemma =>
                                        obtain ⟨rfl, rfl⟩ := hcut
                                        go_wp2_with fail
                                        go_ret
                                        exact ⟨rfl, hBE⟩
                      · have hp : 0 < cd := by omega
                        obtain ⟨hh, ⟨a1, k1, rfl⟩, ⟨a2, k2, rfl⟩⟩ := hbad c0
                        have hlen := (hh _ (Below.refl _ _)).2
                        have hB4 := hL4.bel
                        clear hok hbad hls HZERO c0 hL hL4
                        go_wp2_with fail
                        go_ret
                        exact ⟨rfl, hB4⟩
end Go.Proofs.Ytdmkjdlneadkcaa.W
