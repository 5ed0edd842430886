/- The walk of AttachTotals. -/
import Derived.Test.YtjfcbflhnfjcfaaAtG
import Derived.StillTailTactics
import Derived.BigQuiet
import Derived.Deep.RegionHeld3
namespace Go.Proofs.Ytjfcbflhnfjcfaa.W
open Go.RowKit Go.Proofs.Ytjfcbflhnfjcfaa.M Go.Proofs.Ytjfcbflhnfjcfaa.B Go.Proofs.Ytjfcbflhnfjcfaa.S
open Go.Maps (Keyed)
set_option linter.unusedVariables false

/-- All that lay there lies as it lay, but for one block. -/
structure But (g : Nat) (w w' : World) : Prop where
  os : w'.os = w.os
  tape : w'.tape = w.tape
  output : w'.output = w.output
  size : w.heap.size ≤ w'.heap.size
  old : ∀ k, k < w.heap.size → k ≠ g → w'.heap[k]? = w.heap[k]?
theorem But.refl (g : Nat) (w : World) : But g w w := ⟨rfl, rfl, rfl, Nat.le_refl _, fun _ _ _ => rfl⟩
theorem But.step {g : Nat} {w w1 w2 : World} (h : But g w w1) (hb : Below w1.heap.size w1 w2) : But g w w2 :=
  ⟨hb.os.trans h.os, hb.tape.trans h.tape, hb.output.trans h.output, Nat.le_trans h.size hb.size, fun k hk hne => (hb.block k (Nat.lt_of_lt_of_le hk h.size)).trans (h.old k hk hne)⟩
theorem But.drewN {g : Nat} {w w1 : World} (h : But g w w1) (m : Nat) : But g w (w1.drewN m) := ⟨h.os, h.tape, h.output, h.size, h.old⟩
theorem But.drew {g : Nat} {w w1 : World} (h : But g w w1) : But g w w1.drew := ⟨h.os, h.tape, h.output, h.size, h.old⟩
theorem rowDrew {k : IntKind} {w : World} {g n : Nat} {f : Nat → Int} (h : Row k w g n f) : Row k w.drew g n f := ⟨h.lt, h.cell, h.frz⟩
theorem But.set {g : Nat} {w w1 : World} (h : But g w w1) (o : Nat) (u : Value) : But g w (w1.setCell ⟨g, o, none⟩ u) :=
  have hb := (Below.refl 0 w1).setCell (p := ⟨g, o, none⟩) (Nat.zero_le _) u
  ⟨hb.os.trans h.os, hb.tape.trans h.tape, hb.output.trans h.output, Nat.le_trans h.size hb.size, fun k hk hne => (Below.heap_setCell w1 ⟨g, o, none⟩ u k hne).trans (h.old k hk hne)⟩
theorem But.below {g B : Nat} {w w1 : World} (h : But g w w1) {W : World} (hB : Below B W w) (hg : B ≤ g) (hs : B ≤ w.heap.size) : Below B W w1 :=
  ⟨h.os.trans hB.os, h.tape.trans hB.tape, h.output.trans hB.output, Nat.le_trans hB.size h.size, fun k hk => (h.old k (Nat.lt_of_lt_of_le hk hs) (by omega)).trans (hB.block k hk)⟩
theorem But.lst {g z n : Nat} {w w1 : World} (h : But g w w1) {a : Option Addr} {c : Nat → List Value} (hl : Lst z w a n c) (hb : ∀ x, a = some x → 0 < n → x.block ≠ g) : Lst z w1 a n c :=
  ⟨hl.1, fun hn => by
    obtain ⟨b, off, ha, hlt, hc⟩ := hl.2 hn
    exact ⟨b, off, ha, Nat.lt_of_lt_of_le hlt h.size, fun j hj i u hu => (World.cell?_of_block (a := ⟨b, off + j * z + i, none⟩) (h.old b hlt (hb _ ha hn))).trans (hc j hj i u hu)⟩⟩
theorem But.map {g b N : Nat} {w w1 : World} {f : Mp} (h : But g w w1) (hm : MapP w b N f) (hb : b ≠ g) : MapP w1 b N f := hm.same (h.old b hm.lt hb)

/-- What Take answers; the items lie in memory of its own. -/
theorem take_told2 {M : Nat} {er net : Int} {g : Mp} {S : Nat → Ord} {n : Nat} {W w' : World} {e : Ending} (h : TakeOut M er net g S n W e w') (hnn : n ≤ 1000) :
    Below W.heap.size W w' ∧ ∃ (a : Option Addr) (k cap : Nat) (mo : Option Nat), e = .returned (.tuple #[.slice a k cap, .map mo, .int .i64 er]) ∧ (er ≠ 0 → a = none ∧ k = 0 ∧ cap = 0 ∧ mo = none) ∧
      (er = 0 → k = (itemsK net g (srvO S n) n).length ∧ Lst 2 w' a k (fun j => ic (itAt net g (srvO S n) n j)) ∧ (∀ x, a = some x → W.heap.size ≤ x.block) ∧ ∃ b N, mo = some b ∧ W.heap.size ≤ b ∧ MapP w' b N (outK net g (srvO S n) n) ∧ N ≤ M) := by
  refine ⟨h.1, ?_⟩
  have h2 := h.2
  by_cases c : er = 0
  · rw [if_pos c] at h2
    obtain ⟨v, b, N, rfl, hb, ho, hm, hN⟩ := h2
    have hlen := itemsK_len net g (srvO S n) n
    obtain ⟨a, cap, rfl, hl⟩ := ownL_lst ho (by omega) (cA, 0)
    refine ⟨a, _, cap, some b, by rw [c], fun h => absurd c h, fun _ => ⟨rfl, hl, fun x hx => ?_, b, N, rfl, hb, hm, hN⟩⟩
    rcases ho.2 with ⟨hv, h0⟩ | ⟨g', cap', cur, hv', hbb, _⟩
    · injection hv with h1
      rw [hx] at h1; cases h1
    · injection hv' with h1
      rw [hx] at h1
      injection h1 with h1
      rw [h1]; exact hbb
  · rw [if_neg c] at h2
    exact ⟨none, 0, 0, none, h2, fun _ => ⟨rfl, rfl, rfl, rfl⟩, fun h => absurd h c⟩

theorem strs_ne' {a b : ByteArray} (h : a ≠ b) : (a.toList == b.toList) = false := by
  rw [ByteArray.toList_eq, ByteArray.toList_eq]
  exact beq_eq_false_iff_ne.2 (fun e => h (key_inj (congrArg Lit.string e)))
theorem infoCents : (Try.prog.info? 22).map (fun i => (i.zero, i.size, i.bytes)) = some (some (.int .i64 0), 1, 8) := by kernel_rfl

set_option maxRecDepth 100000 in
set_option maxHeartbeats 8000000 in
theorem attachTotals (a0 : Option Addr) (m cap0 : Nat) (xs : List Int) (a : Option Addr) (n cap : Nat) (S : Nat → Ord) (W : World) (hX : Ints .i64 W a0 m cap0 xs) (hXB : ∀ x ∈ xs, -9223372036854775808 ≤ x ∧ x ≤ 9223372036854775807) (hl : Lst 6 W a n (fun j => ocells (S j))) (hS : ∀ j, j < n → okO (S j)) (hnil : a = none → n = 0 ∧ cap = 0) :
    Calls Try.prog 6 #[.slice a0 m cap0, .slice a n cap] W fun e w' => e = .returned (.bool true) ∧ Below W.heap.size W w' := by
  have HA := Lib.hid (awake_is W)
  have HT := Lib.hid (fun (w : World) (net : Int) (b0 n0 : Nat) (g : Mp) h (hnt : I64 net) (hg : MapP w b0 n0 g) (hN : n0 ≤ 500) (hI : Hid (∀ s : ByteArray, I64 (was g s))) (hn : n ≤ 1000) => (take_own net a n cap S w h hnil hS hnt hn b0 n0 g hg hN hI).mono (fun _ _ h => take_told2 h hn))
  have HSh := Lib.hid (fun (w : World) h => short_is a n cap 20 S w h (by omega))
  have HLL := Lib.hid hl
  have HLB : Hid (∀ x, a = some x → 0 < n → x.block < W.heap.size) := fun x hx h0 => by
    obtain ⟨b, off, ha, hlt, _⟩ := hl.2 h0
    rw [hx] at ha
    injection ha with ha
    rw [ha]; exact hlt
  have HNT : Hid (∀ j, j < m → I64 (xs.getD j 0)) := fun j hj => by
    have hj' : j < xs.length := by rw [hX.1]; exact hj
    have h1 : xs.getD j 0 ∈ xs := by rw [List.getD_eq_getElem?_getD, List.getElem?_eq_getElem hj']; exact List.getElem_mem hj'
    exact hXB _ h1
  have HX := Lib.hid hX
  have hm9 : m ≤ 9223372036854775807 := by have h1 := hX.2.1; have h2 := hX.2.2.1; unfold maxLen at h2; omega
  clear hnil hl hX hXB
  have hmm := @run_makeMap Try.prog
  go_enter Try.func6, Try.ntmps6
  go_wp2_with fail
  refine HA.out.mono ?_
  rintro e w1 ⟨rfl, hb1⟩
  by_cases cm : 20 < m
  · have cm' : (20 : Int) < (m : Int) := by omega
    go_wp2_with fail
    go_ret
    exact ⟨rfl, hb1⟩
  have cm' : ¬ (20 : Int) < (m : Int) := by omega
  go_wp2_with fail
  refine (HSh.out _ (HLL.out.step hb1)).mono ?_
  rintro e w2 ⟨rfl, rfl | ⟨rfl, hn20, h300⟩⟩
  · go_wp2_with fail
    go_ret
    exact ⟨rfl, hb1⟩
  · have hn : n ≤ 1000 := by omega
    have hmk : ∀ w : World, (Instr.makeSlice 53 (.int .i64 n) (.int .i64 n)).run Try.prog w = .ok (.slice (some ⟨w.heap.size, 0, none⟩) n n) (w.alloc (.cells (madeCells #[.int .i64 0] n) 22)) := run_make_row' (P := Try.prog) 53 22 (.int .i64 0) 8 Try.underlying53 infoCents rfl .i64 .i64 n (by omega) (by omega)
    clear HSh HA h300
    obtain ⟨U, hU⟩ : ∃ U, w1.alloc (.map #[] 0) = U := ⟨_, rfl⟩
    have hM0 : MapP U w1.heap.size 0 (fun _ => none) := by rw [← hU]; exact mapIs_made w1
    have hBU : Below W.heap.size W U := by rw [← hU]; exact balloc hb1 _
    have hR0 := Row.made .i64 U n 22
    have hBV : Below W.heap.size W (U.alloc (.cells (madeCells #[.int .i64 0] n) 22)) := balloc hBU _
    have hM1 : MapP (U.alloc (.cells (madeCells #[.int .i64 0] n) 22)) w1.heap.size 0 (fun _ => none) := hM0.alloc _
    have hGs : W.heap.size ≤ U.heap.size := hBU.size
    have hbg : w1.heap.size < U.heap.size := by rw [← hU]; simp
    have hle0 : n ≤ 9223372036854775807 := by omega
    go_wp2_with fail
    clear hU hmm hmk hBU hM0
    obtain ⟨G, hG⟩ : ∃ g, U.heap.size = g := ⟨_, rfl⟩
    rw [hG] at hR0 hGs hbg ⊢
    clear hG
    generalize U.alloc (.cells (madeCells #[.int .i64 0] n) 22) = V at *
    have hbM : w1.heap.size ≠ G := by omega
    have hbW : W.heap.size ≤ w1.heap.size := hb1.size
    generalize w1.heap.size = b00 at *
    have HBV := Lib.hid hBV
    have HR0 := Lib.hid hR0
    have HM1 := Lib.hid hM1
    obtain ⟨GG, hGG⟩ : ∃ GG, GG = GK (fun j => xs.getD j 0) S n := ⟨_, rfl⟩
    have HGG : Hid (∀ i, GG (i + 1) = outK (xs.getD i 0) (GG i) (srvO S n) n) := fun i => by rw [hGG]; rfl
    have HG0 : Hid (GG 0 = fun _ => none) := by show _ = _; rw [hGG]; rfl
    clear hGG hb1 hBV hR0 hM1
    go_loopw [5, 7] (fun s5 s7 wx => ∃ i b N : Nat, i ≤ m ∧ s7 = .int .i64 i ∧ s5 = .map (some b) ∧ b ≠ G ∧ N ≤ 20 * i ∧ Hid (Below W.heap.size W wx) ∧ Hid (MapP wx b N (GG i)) ∧ Hid (Row .i64 wx G n (fun k => was (GG i) (S k).code)) ∧ Hid (within S n (GG i))) (fun _ s7 _ => m - (intOf s7).toNat)
    case atStart =>
      refine ⟨0, b00, 0, Nat.zero_le _, rfl, rfl, hbM, by omega, HBV.out, ?_, ?_, ?_⟩
      · show MapP _ _ _ (GG 0); rw [HG0.out]; exact HM1.out
      · show Row _ _ _ _ _; rw [HG0.out]; exact HR0.out
      · show within _ _ (GG 0); rw [HG0.out]; exact within_none S n (fun _ _ => trivial)
    case round =>
      obtain ⟨i, b, N, hi, rfl, rfl, hbG, hN, hbw, hMp, hRw, hwi⟩ := hrel
      clear HBV HR0 HM1 HG0 hbM
      by_cases ci : i < m
      · obtain ⟨bn, on, rfl, hltn, hcn⟩ := HX.out.at_ ci
        have dn := bc hbw.out hltn hcn
        have ci' : (i : Int) < (m : Int) := by omega
        have hnt := HNT.out i ci
        have HGi := Lib.hid (HGG.out i)
        generalize xs.getD i 0 = net at *
        have hlw := Lib.hid (HLL.out.step hbw.out)
        clear hcn
        go_wp2_with fail
        refine (HT.out _ net b N (GG i) hlw.out hnt hMp.out (by omega) hwi.out.1 hn).mono ?_
        rintro e w3 ⟨hb3, a3, k3, cap3, mo3, rfl, hx3, hy3⟩
        have hB3 := Lib.hid (bstep hbw.out hb3)
        have hGw : G < wr.heap.size := hRw.out.lt
        have hRw3 := Lib.hid (hRw.out.step hb3)
        have hlw3 := Lib.hid (hlw.out.step hb3)
        have hWw : W.heap.size ≤ w3.heap.size := hB3.out.size
        generalize GG i = g at *
        by_cases te : takeErr net g S n = 0
        · obtain ⟨t1, t2, t3⟩ := takeErr_ok te
          obtain ⟨hw1, hmain⟩ := totals_next t2 t3 hwi.out
          obtain ⟨e3, hL3, hbk3, b', N', rfl, hbl, hm', hN'⟩ := hy3 te
          have E3 := Lib.hid e3
          have HW1 := Lib.hid hw1
          have HMN := Lib.hid hmain
          have HL3 := Lib.hid hL3
          have HBK : Hid (∀ x, a3 = some x → x.block ≠ G) := fun x hx => by have := hbk3 x hx; omega
          have hbG' : b' ≠ G := by omega
          have HM' := Lib.hid hm'
          have hk3 : k3 ≤ n := by rw [e3]; exact itemsK_len _ _ _ _
          rw [te]
          clear hx3 hy3 e3 hw1 hmain hL3 hbk3 hm' t1 t2 t3 te hlw hRw hMp hwi HT hb3 hbw dn
          obtain ⟨F0, hF0⟩ : ∃ F0 : Nat → Int, F0 = fun k => was g (S k).code := ⟨_, rfl⟩
          obtain ⟨F1, hF1⟩ : ∃ F1 : Nat → Int, F1 = outAt net g S n := ⟨_, rfl⟩
          have HR3 : Hid (Row .i64 w3 G n F0) := by rw [hF0]; exact hRw3.out
          have HMM : Hid (∀ j, j < n → (0 ≤ F0 j ∧ F0 j ≤ 1125899906842624) ∧ (0 ≤ F1 j ∧ F1 j ≤ 1125899906842624) ∧ F1 j = F0 j + isum (itAt net g (srvO S n) n) (S j).code k3 ∧ (0 < (S j).total → F1 j ≤ (S j).total ∧ leftP (F1 j) (S j).total = (S j).total - F1 j)) := fun j hj => by
            have := HMN.out j hj
            rw [← E3.out] at this
            rw [hF0, hF1]; exact this
          have HPS : Hid (∀ j, j < k3 → 0 ≤ (itAt net g (srvO S n) n j).2) := fun j hj => itAt_pos j (by rw [← E3.out]; exact hj)
          have HRD := Lib.hid (fun (wx : World) (h : But G w3 wx) => readP_map (h.map HM'.out hbG'))
          have HF1 : Hid (∀ j, was (outK net g (srvO S n) n) (S j).code = F1 j) := fun j => by rw [hF1]; rfl
          clear hRw3 HMN hF0 hF1
          go_wp2_with fail
          go_loopw [11] (fun s11 wx => ∃ k : Nat, k ≤ n ∧ s11 = .int .i64 k ∧ Hid (But G w3 wx) ∧ Hid (Row .i64 wx G n (fun j => if j < k then F1 j else F0 j))) (fun s11 _ => n - (intOf s11).toNat)
          case atStart => exact ⟨0, Nat.zero_le _, rfl, But.refl _ _, HR3.out.congr (fun j _ => by rw [if_neg (by omega)])⟩
          case round =>
            obtain ⟨k, hk, rfl, hbu, hRk⟩ := hrel
            by_cases ck : k < n
            · have ck' : (k : Int) < (n : Int) := by omega
              go_wp2_with fail
              go_loopw [12] (fun s12 wx => ∃ q : Nat, q ≤ k3 ∧ s12 = .int .i64 q ∧ Hid (But G w3 wx) ∧ Hid (Row .i64 wx G n (upd (fun j => if j < k then F1 j else F0 j) k (F0 k + isum (itAt net g (srvO S n) n) (S k).code q)))) (fun s12 _ => k3 - (intOf s12).toNat)
              case atStart => exact ⟨0, Nat.zero_le _, rfl, hbu.out, hRk.out.congr (fun j _ => by
                by_cases e : j = k
                · subst e; rw [upd_same, if_neg (by omega)]; simp [isum]
                · rw [upd_other _ _ e])⟩
              case round =>
                obtain ⟨q, hq, rfl, hbq, hRq⟩ := hrel
                have hlq := Lib.hid (hbq.out.lst hlw3.out (fun x hx h0 => by have := HLB.out x hx h0; omega))
                have hHM := HMM.out k ck
                have hmo := isum_mono (f := itAt net g (srvO S n) n) (c := (S k).code) k3 HPS.out
                by_cases cq : q < k3
                · have cq' : (q : Int) < (k3 : Int) := by omega
                  obtain ⟨bx, ox, rfl, hltx, hcx⟩ := (hbq.out.lst HL3.out (fun x hx h0 => HBK.out x hx)).at_ cq
                  obtain ⟨bl, ol, rfl, hltl, hcl⟩ := hlq.out.at_ ck
                  obtain ⟨⟨t, y⟩, hx⟩ : ∃ x, itAt net g (srvO S n) n q = x := ⟨_, rfl⟩
                  have hs1 : isum (itAt net g (srvO S n) n) (S k).code (q + 1) = isum (itAt net g (srvO S n) n) (S k).code q + if t = (S k).code then y else 0 := by
                    show _ + ite _ _ _ = _
                    rw [hx]
                  have hmo1 := hmo (q + 1) (by omega)
                  rw [hx] at hcx
                  have d0 := hcx 0 (.string t) rfl
                  have d1 := hcx 1 (.int .i64 y) rfl
                  have e0 := hcl 0 (.string (S k).code) rfl
                  rw [Nat.add_zero] at d0 e0
                  have hrk := hRq.out.cell k ck
                  rw [upd_same] at hrk
                  have hfz := hRq.out.frz k
                  have wq : IntKind.i64.wrap ((q : Int) + 1) = (q : Int) + 1 := IntWalk.i64_in _ (by omega)
                  obtain ⟨hm1, hm2, hm3, _⟩ := hHM
                  have HS1 := Lib.hid hs1
                  clear hcx hcl hx hmo hs1 hlq
                  by_cases ct : t = (S k).code
                  · have hs2 : isum (itAt net g (srvO S n) n) (S k).code (q + 1) = isum (itAt net g (srvO S n) n) (S k).code q + y := by rw [HS1.out, if_pos ct]
                    have HS2 := Lib.hid hs2
                    rw [← ct] at e0
                    have wv : IntKind.i64.wrap (F0 k + isum (itAt net g (srvO S n) n) (S k).code q + y) = F0 k + isum (itAt net g (srvO S n) n) (S k).code q + y := IntWalk.i64_in _ (by omega)
                    have hnx : Hid (F0 k + isum (itAt net g (srvO S n) n) (S k).code (q + 1) = F0 k + isum (itAt net g (srvO S n) n) (S k).code q + y) := by show _ = _; omega
                    have HRq := hRq
                    clear HS1 HS2 hs2 ct hm1 hm2 hm3 hmo1
                    generalize F0 k + isum (itAt net g (srvO S n) n) (S k).code q = v at *
                    have hbt : (t.toList == t.toList) = true := by simp
                    have z0k : (0 : Int) ≤ (k : Int) := by omega
                    have z0q : (0 : Int) ≤ (q : Int) := by omega
                    go_wp2_with fail
                    go_quiet (fail)
                    have f0 : (wr.drewN nq).cell? ⟨bx, ox + q * 2 + 1, none⟩ = some (.int .i64 y) := d1
                    have f1 : (wr.drewN nq).cell? ⟨G, k, none⟩ = some (.int .i64 v) := hrk
                    have f2 : (wr.drewN nq).frozen? ⟨G, k, none⟩ = false := hfz
                    have hbq' : Hid (But G w3 (wr.drewN nq)) := hbq.out.drewN nq
                    have hRq' : Hid (Row .i64 (wr.drewN nq) G n (upd (fun j => if j < k then F1 j else F0 j) k v)) := hRq.out.drewN nq
                    clear d0 d1 e0 hrk hfz hbq hRq HRq hltx hltl
                    generalize wr.drewN nq = wd at *
                    go_upto_region 20 with fail
                    go_still_tail 13, (by kernel_rfl)
                    change wpList _ _ _ _ _ wd.drew
                    go_wp2_with fail
                    exact ⟨⟨q + 1, by omega, by go_num, (hbq'.out.set k _).drew, (rowDrew (hRq'.out.set ck _)).congr (fun j _ => by
                      by_cases e : j = k
                      · subst e; rw [upd_same, upd_same, hnx.out]
                      · rw [upd_other _ _ e, upd_other _ _ e, upd_other _ _ e])⟩, by simp [intOf]; omega⟩
                  · have hnx : Hid (isum (itAt net g (srvO S n) n) (S k).code (q + 1) = isum (itAt net g (srvO S n) n) (S k).code q) := by show _ = _; rw [HS1.out, if_neg ct, Int.add_zero]
                    have hbn := strs_ne' ct
                    clear HS1 ct hm1 hm2 hm3 hmo1 hrk hfz
                    generalize hcd : (S k).code = cd at *
                    go_wp2_with fail
                    go_quiet (fail)
                    go_wp2_with fail
                    go_roundw
                    case rel => exact ⟨q + 1, by omega, by go_num, hbq.out.drewN _, by rw [hnx.out]; exact hRq.out.drewN _⟩
                    case measure => simp [intOf]; omega
                · obtain rfl : q = k3 := by omega
                  have cq' : ¬ (q : Int) < (q : Int) := by omega
                  obtain ⟨hm1, hm2, hm3, hm4⟩ := hHM
                  have hRn : Hid (Row .i64 wr G n (fun j => if j < k + 1 then F1 j else F0 j)) := hRq.out.congr (fun j _ => by
                    by_cases e : j = k
                    · subst e; rw [upd_same, if_pos (by omega), hm3]
                    · rw [upd_other _ _ e]
                      by_cases e2 : j < k
                      · rw [if_pos e2, if_pos (by omega)]
                      · rw [if_neg e2, if_neg (by omega)])
                  have hrk := hRn.out.cell k ck
                  rw [if_pos (by omega)] at hrk
                  have hRPq := Lib.hid (HRD.out wr hbq.out)
                  have hGw := hRn.out.lt
                  obtain ⟨bl, ol, rfl, hltl, hcl⟩ := hlq.out.at_ ck
                  have hok := hS k ck
                  have hwas := HF1.out k
                  have wk : IntKind.i64.wrap ((k : Int) + 1) = (k : Int) + 1 := IntWalk.i64_in _ (by omega)
                  have z0k : (0 : Int) ≤ (k : Int) := by omega
                  have HKN : Hid (k < n) := ck
                  obtain ⟨⟨s, r, u, f, p, t⟩, hx⟩ : ∃ x, S k = x := ⟨_, rfl⟩
                  rw [hx] at hcl hok hwas hm4
                  simp only at hwas hm4
                  have c0 := hcl 0 (.string s) rfl
                  have c1 := hcl 1 (.int .i64 r) rfl
                  have c2 := hcl 2 (.int .i64 u) rfl
                  have c3 := hcl 3 (.int .i64 f) rfl
                  have c4 := hcl 4 (.int .i64 p) rfl
                  have c5 := hcl 5 (.int .i64 t) rfl
                  rw [Nat.add_zero] at c0
                  have k0 := hok.1
                  have hwas' : was (outK net g (srvO S n) n) s = F1 k := hwas
                  generalize outK net g (srvO S n) n = G1 at *
                  generalize hF1k : F1 k = o at *
                  have HOK := Lib.hid hF1k
                  clear hF1k hcl hx hmo hm1 hm3 hRq hlq hwas
                  by_cases ct : 0 < t
                  · obtain ⟨ht1, ht2⟩ := hm4 ct
                    have ht5 : t ≤ 9223372036854775807 := hok.2.2.2.2.2.2
                    have hlk : (Instr.lookup 29 (.map (some b')) (.string s) false).run Try.prog wr.drew = .ok (.int .i64 o) wr.drew := by
                      have := (hRPq.out wr.drew ((Below.refl _ _).drew) s k0).1
                      rw [hwas'] at this; exact this
                    have HLF := Lib.hid (fun (W : World) h => left_is (some b') G1 ⟨s, r, u, f, p, t⟩ (t - o) (by show leftP (was G1 s) t = t - o; rw [hwas']; exact ht2) W h hok (by show I64 (was G1 s); rw [hwas']; unfold I64; omega))
                    have hLK : Hid (∀ w', Below wr.heap.size wr w' → (Instr.lookup 29 (.map (some b')) (.string s) false).run Try.prog w' = .ok (.int .i64 o) w') := fun w' hb => by
                      have := (hRPq.out w' hb s k0).1
                      rw [hwas'] at this; exact this
                    have wto : IntKind.i64.wrap (t - o) = t - o := IntWalk.i64_in _ (by omega)
                    have ct2 : ¬ t < o := by omega
                    clear hm4 ht2 hok hwas'
                    go_upto_region 21 with fail
                    go_region_held3 (fun w' => Below wr.heap.size wr w' ∧ (∀ b o, b < wr.heap.size → w'.cell? ⟨b, o, none⟩ = wr.cell? ⟨b, o, none⟩) ∧ (Instr.lookup 29 (.map (some b')) (.string s) false).run Try.prog w' = .ok (.int .i64 o) w')
                      (first | exact ⟨(Below.refl _ _).drew, fun _ _ _ => rfl, hlk⟩ | exact ⟨hBB, (bcell hBB).1, hLK.out _ hBB⟩ | assumption)
                      ((go_at_call 22; refine (HLF.out _ (hRPq.out.step (And.left (by assumption)))).mono ?_; rintro e wB ⟨rfl, hbB⟩; have hBB : Below wr.heap.size wr wB := bstep (And.left (by assumption)) hbB))
                    all_goals
                      go_wp2_with fail
                      go_roundw
                      case rel => exact ⟨k + 1, by omega, by go_num, hbq.out.step hBB, hRn.out.step hBB⟩
                      case measure => simp [intOf]; omega
                  · have hlk : ∀ m, (Instr.lookup 29 (.map (some b')) (.string s) false).run Try.prog (wr.drewN m) = .ok (.int .i64 o) (wr.drewN m) := fun m => by
                      have := (hRPq.out _ (below_drewN (Below.refl _ _) m) s k0).1
                      rw [hwas'] at this; exact this
                    have ctd : decide (0 < t) = false := decide_eq_false ct
                    clear hm4 hok hwas' ct
                    go_wp2_with fail
                    go_quiet (fail)
                    go_wp2_with fail
                    go_roundw
                    case rel => exact ⟨k + 1, by omega, by go_num, hbq.out.drewN _, hRn.out.drewN _⟩
                    case measure => simp [intOf]; omega
            · obtain rfl : k = n := by omega
              have wi : IntKind.i64.wrap ((i : Int) + 1) = (i : Int) + 1 := IntWalk.i64_in _ (by omega)
              have ck' : ¬ (k : Int) < (k : Int) := by omega
              have hMn : Hid (MapP wr b' N' (GG (i + 1))) := by show MapP _ _ _ _; rw [HGi.out]; exact hbu.out.map HM'.out hbG'
              have hWn : Hid (within S k (GG (i + 1))) := by show within _ _ _; rw [HGi.out]; exact HW1.out
              have hRn : Hid (Row .i64 wr G k (fun j => was (GG (i + 1)) (S j).code)) := hRk.out.congr (fun j hj => by rw [if_pos hj, HGi.out]; exact (HF1.out j).symm)
              have hBn : Hid (Below W.heap.size W wr) := hbu.out.below hB3.out hGs hWw
              clear hRk HRD HMM HPS HF1 HM' HR3 HW1 HGi
              go_wp2_with fail
              go_roundw
              case rel => exact ⟨i + 1, b', N', by omega, by go_num, rfl, hbG', by omega, hBn, hMn, hRn, hWn⟩
              case measure => simp [intOf]; omega
        · have te' : (takeErr net g S n != 0) = true := by rw [bne_iff_ne]; exact te
          obtain ⟨rfl, rfl, rfl, rfl⟩ := hx3 te
          clear hy3
          generalize takeErr net g S n = er at *
          go_wp2_with fail
          go_ret
          exact ⟨rfl, hB3.out⟩
      · obtain rfl : i = m := by omega
        go_wp2_with fail
        go_ret
        exact ⟨rfl, hbw.out⟩
end Go.Proofs.Ytjfcbflhnfjcfaa.W
