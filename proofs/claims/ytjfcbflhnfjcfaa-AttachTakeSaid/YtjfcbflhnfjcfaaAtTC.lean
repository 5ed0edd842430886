/- The walk of attach.Take, where the call's own map tells what was taken. -/
import Derived.Test.YtjfcbflhnfjcfaaAtTB
namespace Go.Proofs.Ytjfcbflhnfjcfaa.W
open Go.RowKit Go.Proofs.Ytjfcbflhnfjcfaa.M Go.Proofs.Ytjfcbflhnfjcfaa.B Go.Proofs.Ytjfcbflhnfjcfaa.S
open Go.Maps (Keyed)
set_option linter.unusedVariables false

set_option maxRecDepth 100000 in
set_option maxHeartbeats 8000000 in
theorem take_own (net : Int) (a : Option Addr) (n cap : Nat) (S : Nat → Ord) (W : World) (hl : Lst 6 W a n (fun j => ocells (S j))) (hnil : a = none → n = 0 ∧ cap = 0) (hS : ∀ j, j < n → okO (S j)) (hb : I64 net) (hn : n ≤ 1000) (b0 n0 : Nat) (g : Mp) (hg0 : MapP W b0 n0 g) (hN : n0 ≤ 500) (hIg : Hid (∀ s : ByteArray, I64 (was g s))) :
    Calls Try.prog 14 #[.int .i64 net, .map (some b0), .slice a n cap] W (TakeOut (n0 + n) (takeErr net g S n) net g S n W) := by
  by_cases hft : fit net
  · have HF := Lib.hid (fun W => fits_is net true (decide_eq_true hft) W hb)
    have HC := Lib.hid (check_is S a n cap W hl hS)
    have hmm := @run_makeMap Try.prog
    by_cases hck : check S n = 0
    · have hte : Hid (takeErr net g S n = terr net g (srvO S n) n) := takeErr_run hft hck
      rw [hck] at HC
      have n64 : n ≤ 64 := (check_right hck).1
      have hfb := Lib.hid hft
      unfold fit at hft
      have HCK := Lib.hid hck
      clear hck
      have hbl := hg0.lt
      have hread : Hid (ReadP W (some b0) g) := readP_map hg0
      go_enter Try.func14, Try.ntmps14
      go_wp2_with fail
      refine (HF.out _).mono ?_
      rintro e w0 ⟨rfl, rfl⟩
      go_wp2_with fail
      refine HC.out.mono ?_
      rintro e w1 ⟨rfl, hb1⟩
      clear HF HC
      go_upto_region 7 with fail
      clear hmm
      have hbU : Below W.heap.size W (w1.alloc (.map #[] 0)) := balloc hb1 _
      have hoU : MapP (w1.alloc (.map #[] 0)) w1.heap.size 0 (fun _ => none) := mapIs_made w1
      have hlo : W.heap.size ≤ w1.heap.size := hb1.size
      generalize w1.heap.size = bo at *
      generalize w1.alloc (.map #[] 0) = U at *
      clear hb1
      have hU := hg0.next hbU hbl
      obtain ⟨D, hDo, hDn, hDf⟩ := hU
      go_wp2_with (at_range; refine wpList_range_own _ rfl _ 29 rfl 9 22 kStr Try.underlying29 iR b0 n0 D rfl hDo ?_; intro U1 hrg0 hgr0 hsz0)
      try go_frame
      have hb1 : Below W.heap.size W U1 := hbU.grown hgr0 hbU.size (fun k h => by cases h)
      have ho1 : MapP U1 bo 0 (fun _ => none) := hoU.kept hgr0 (fun h => by cases h)
      have hbr : bo < U.heap.size := hoU.lt
      have hbl0 : b0 < W.heap.size := hbl
      have hWr : W.heap.size ≤ U.heap.size := hbU.size
      clear hgr0 hDo hbU hoU
      generalize U.heap.size = r at *
      have ef0 : (fun t => if Maps.has D (key t) then none else g t) = (fun _ => none) := by
        funext t
        rw [(hDf t).1]
        cases g t <;> rfl
      rw [← ef0] at ho1
      clear ef0
      go_loopw [29] (fun _ wx => ∃ (left : Lit → Bool) (cnt N : Nat), wx.ranges Try.prog 9 iR b0 r n0 D left cnt ∧ N + cnt ≤ n0 ∧ Below W.heap.size W wx ∧ MapP wx bo N (fun t => if left (key t) then none else g t)) (fun _ wx => wx.rangeLeft b0 r)
      case atStart => exact ⟨_, _, 0, hrg0, by omega, hb1, ho1⟩
      case round =>
        obtain ⟨left, cnt, N, hrg, hNc, hbV, hoV⟩ := hrel
        clear hrg0 hb1 ho1
        go_wp2_with (at_next; refine wpList_next_ranges _ rfl _ rfl 9 kStr iR Value.string (Value.int .i64) (fun key kl h => ⟨_, (Go.WideMaps.string_of_keyOf Try.underlying9 h).choose_spec.1⟩) (fun v y h => ⟨_, (reads_i.inv v y h).choose_spec.1⟩) b0 r n0 D left cnt rfl hrg ?_ ?_)
        · intro hc0 hl0
          have ef : (fun t => if left (key t) then none else g t) = g := by
            funext t; rw [hl0]; rfl
          rw [ef] at hoV
          clear hrg hDf ef hl0
          have hN1 : N ≤ n0 := by omega
          clear hNc hc0
          generalize wr = V at *
          go_wp2_with fail
          have hs := Lib.hid (sort_is S a n cap V (hl.step hbV) hnil hn)
          clear hl hnil
          go_wp2_with fail
          refine hs.out.mono ?_
          rintro e w2 ⟨a2, cap2, rfl, hls, hnil2, hcp1, hcp2, hbk2, hb2⟩
          have hst1 : TSt W w2 bo w2 N g (.slice none 0 0) [] := ⟨bstep hbV hb2, Nat.le_refl _, fun _ _ _ => rfl, hoV.next hb2 hoV.lt, ownL_nil _ _, hlo, Nat.lt_of_lt_of_le hoV.lt hb2.size⟩
          have hbk3 := Lib.hid (show ∀ x, a2 = some x → bo < x.block from fun x hx => Nat.lt_of_lt_of_le hoV.lt (hbk2 x hx))
          have hLS := Lib.hid hls
          have hlo2 := Lib.hid hst1.hi
          clear hs hnil2 hcp1 hcp2 hbk2 hb2 hbV hoV hls
          go_wp2_with fail
          go_loopw [13, 14, 41] (fun s13 s14 s41 wx => ∃ k : Nat, k ≤ n ∧ s41 = .int .i64 k ∧ s14 = .int .i64 (leftK net g (srvO S n) k) ∧ Hid (terr net g (srvO S n) k = 0) ∧ TSt W w2 bo wx (noK net g (srvO S n) N k) (outK net g (srvO S n) k) s13 (itemsK net g (srvO S n) k)) (fun _ _ s41 _ => n - (intOf s41).toNat)
          case atStart => exact ⟨0, Nat.zero_le _, rfl, rfl, rfl, hst1⟩
          case round =>
            obtain ⟨k, hk, rfl, rfl, he0, hst⟩ := hrel
            clear hst1
            by_cases ck : k < n
            · obtain ⟨b1, o1, rfl, hlt1, hcl⟩ := (hst.lst hLS.out hbk3.out).at_ ck
              have hbad := Lib.hid (fun e h hne => terr_bad (n := n) (e := e) he0.out h hne ck)
              have hstp := terr_step he0.out
              have hrg := frK (net := net) HCK.out k ck
              have hok := hS _ (srv_lt S ck)
              have hlf := leftK_fit (net := net) (g := g) hfb.out k (protK HCK.out (Nat.le_of_lt ck))
              have hno : noK net g (srvO S n) N (k + 1) = more (outK net g (srvO S n) k) (srvO S n k).code (noK net g (srvO S n) N k) := rfl
              have hou : outK net g (srvO S n) (k + 1) = upd (outK net g (srvO S n) k) (srvO S n k).code (was g (srvO S n k).code + takeK net g (srvO S n) k) := rfl
              have hit := items_succ (net := net) (g := g) (O := srvO S n) k
              have hle : leftK net g (srvO S n) (k + 1) = leftK net g (srvO S n) k - takeK net g (srvO S n) k := rfl
              have htk : takeK net g (srvO S n) k = takes net (leftK net g (srvO S n) k) (was g (srvO S n k).code) (srvO S n k) := rfl
              have htb : tbad net g (srvO S n) k = if ¬ amt (was g (srvO S n k).code) then 2 else if ¬ fit (was g (srvO S n k).code + takeK net g (srvO S n) k) then 9 else 0 := rfl
              have htn := takeK_nonneg (net := net) (g := g) (O := srvO S n) k
              have htl := takeK_le (net := net) (g := g) hfb.out k (protK HCK.out (Nat.le_of_lt ck)) hrg
              have hnl := noK_le net g (srvO S n) N k
              have hil := itemsK_len net g (srvO S n) k
              have hwI := hIg.out (srvO S n k).code
              have hRD := Lib.hid (ReadP.step hread.out hst.bel)
              generalize leftK net g (srvO S n) k = lf at *
              generalize takeK net g (srvO S n) k = c at *
              generalize noK net g (srvO S n) N k = nk at *
              generalize outK net g (srvO S n) k = fk at *
              generalize itemsK net g (srvO S n) k = lk at *
              change okO (srvO S n k) at hok
              have hcx : ∀ i u, (ocells (srvO S n k))[i]? = some u → wr.cell? ⟨b1, o1 + k * 6 + i, none⟩ = some u := hcl
              have hHST := Lib.hid (And.intro hno (And.intro hou (And.intro hit hle)))
              clear hcl hno hou hit hle
              obtain ⟨x, hx⟩ : ∃ x, srvO S n k = x := ⟨_, rfl⟩
              rw [hx] at hrg hok htk htb hwI hcx hHST
              clear hx
              obtain ⟨s, r, q, f, p, t⟩ := x
              have d0 := hcx 0 (.string s) rfl
              have d1 := hcx 1 (.int .i64 r) rfl
              have d2 := hcx 2 (.int .i64 q) rfl
              have d3 := hcx 3 (.int .i64 f) rfl
              have d4 := hcx 4 (.int .i64 p) rfl
              have d5 := hcx 5 (.int .i64 t) rfl
              rw [Nat.add_zero] at d0
              simp only at htk htb hwI hHST
              obtain ⟨k0, k1, k2, k3, k4, k5⟩ := id hok
              simp only at k0 k1 k2 k3 k4 k5
              have hB1 := balloc (Below.refl wr.heap.size wr) (.cells #[.string s, .int .i64 r, .int .i64 q, .int .i64 f, .int .i64 p, .int .i64 t] 43)
              have hlk1 := (hRD.out _ hB1 s k0).1
              obtain ⟨w, hw⟩ : ∃ w, was g s = w := ⟨_, rfl⟩
              have hWAS := Lib.hid hw
              rw [hw] at htk htb hwI hHST hlk1
              clear hw hcx
              have hx1 := Ints.made (k := .i64) (w := wr.alloc (.cells #[.string s, .int .i64 r, .int .i64 q, .int .i64 f, .int .i64 p, .int .i64 t] 43)) [w] 22 (show 1 ≤ maxLen by decide)
              rw [show (wr.alloc (.cells #[.string s, .int .i64 r, .int .i64 q, .int .i64 f, .int .i64 p, .int .i64 t] 43)).heap.size = wr.heap.size + 1 from by simp] at hx1
              have hB2 := Lib.hid (balloc hB1 (.cells #[.int .i64 w] 22))
              by_cases am : amt w
              · have hA := Lib.hid (amounts_is _ 1 1 [w] true (show decide _ = true from by simp [am]) _ hx1 (by intro y hy; simp at hy; subst hy; exact hwI))
                clear hx1
                rw [if_neg (by simpa using am)] at htb
                unfold amt at am
                go_wp2_with fail
                refine hA.out.mono ?_
                rintro e w' ⟨rfl, rfl⟩
                clear hA hlk1
                go_upto_region 18 with fail
                have hRU := Lib.hid (hRD.out.step hB2.out)
                have hstU := hst.below hB2.out
                have hw2s := hst.top
                clear hst
                have c0 : ((wr.alloc (.cells #[.string s, .int .i64 r, .int .i64 q, .int .i64 f, .int .i64 p, .int .i64 t] 43)).alloc (.cells #[.int .i64 w] 22)).cell? ⟨wr.heap.size, 0, none⟩ = some (.string s) := by simp
                have c1 : ((wr.alloc (.cells #[.string s, .int .i64 r, .int .i64 q, .int .i64 f, .int .i64 p, .int .i64 t] 43)).alloc (.cells #[.int .i64 w] 22)).cell? ⟨wr.heap.size, 1, none⟩ = some (.int .i64 r) := by simp
                have c2 : ((wr.alloc (.cells #[.string s, .int .i64 r, .int .i64 q, .int .i64 f, .int .i64 p, .int .i64 t] 43)).alloc (.cells #[.int .i64 w] 22)).cell? ⟨wr.heap.size, 2, none⟩ = some (.int .i64 q) := by simp
                have c3 : ((wr.alloc (.cells #[.string s, .int .i64 r, .int .i64 q, .int .i64 f, .int .i64 p, .int .i64 t] 43)).alloc (.cells #[.int .i64 w] 22)).cell? ⟨wr.heap.size, 3, none⟩ = some (.int .i64 f) := by simp
                have c4 : ((wr.alloc (.cells #[.string s, .int .i64 r, .int .i64 q, .int .i64 f, .int .i64 p, .int .i64 t] 43)).alloc (.cells #[.int .i64 w] 22)).cell? ⟨wr.heap.size, 4, none⟩ = some (.int .i64 p) := by simp
                have c5 : ((wr.alloc (.cells #[.string s, .int .i64 r, .int .i64 q, .int .i64 f, .int .i64 p, .int .i64 t] 43)).alloc (.cells #[.int .i64 w] 22)).cell? ⟨wr.heap.size, 5, none⟩ = some (.int .i64 t) := by simp
                have hp16 : wr.heap.size < ((wr.alloc (.cells #[.string s, .int .i64 r, .int .i64 q, .int .i64 f, .int .i64 p, .int .i64 t] 43)).alloc (.cells #[.int .i64 w] 22)).heap.size := by simp; omega
                have hp2 := Lib.hid (Nat.lt_of_lt_of_le hlo2.out hstU.top)
                clear hB1 hB2 d0 d1 d2 d3 d4 d5 hRD hlt1
                generalize wr.heap.size = p16 at *
                generalize (wr.alloc (.cells #[.string s, .int .i64 r, .int .i64 q, .int .i64 f, .int .i64 p, .int .i64 t] 43)).alloc (.cells #[.int .i64 w] 22) = U2 at *
                obtain ⟨v1, hv1⟩ : ∃ v, wants net ⟨s, r, q, f, p, t⟩ = v := ⟨_, rfl⟩
                obtain ⟨v2, hv2⟩ : ∃ v, leftP w t = v := ⟨_, rfl⟩
                obtain ⟨m, hm⟩ : ∃ m, min2 (min2 v1 v2) (lf - p) = m := ⟨_, rfl⟩
                have hcm := htk.trans (takes_is (c := 0) hv1 hv2 hm)
                have hwb := wants_bd hfb.out hrg
                obtain ⟨_, _, _, _, _, ⟨p0, p1⟩, _⟩ := id hrg
                simp only at p0 p1
                unfold fit at hlf
                have wlp : IntKind.i64.wrap (lf - p) = lf - p := IntWalk.i64_in _ (by omega)
                have HW := Lib.hid (fun W => wants_is net ⟨s, r, q, f, p, t⟩ v1 hv1 W hfb.out hrg)
                have HLF := Lib.hid (fun (W : World) h => left_is (some b0) g ⟨s, r, q, f, p, t⟩ v2 (by show leftP (was g s) t = v2; rw [hWAS.out]; exact hv2) W h hok (by show I64 (was g s); rw [hWAS.out]; exact hwI))
                have HL3 := Lib.hid (fun n W h => least3 n v1 v2 (lf - p) m hm W h)
                clear hv1 hv2 hm htk hwb hok
                go_cut [17] (fun s17 wx => s17 = .int .i64 c ∧ Below U2.heap.size U2 wx)
                case first =>
                  as_aux_lemma =>
                    have hcc : c = max m 0 := by rw [hcm]; split <;> omega
                    clear hcm hHST hLS hbad hstU HCK
                    go_region_held2 (fun w' => Below U2.heap.size U2 w' ∧ ∀ b o, b < U2.heap.size → w'.cell? ⟨b, o, none⟩ = U2.cell? ⟨b, o, none⟩)
                      (first | exact ⟨(Below.refl _ _).drew, fun _ _ _ => rfl⟩ | exact ⟨hBA, (bcell hBA).1⟩ | exact ⟨hBB, (bcell hBB).1⟩ | exact ⟨balloc (And.left (by assumption)) _, (bcell (balloc (And.left (by assumption)) _)).1⟩ | assumption)
                      (first | (go_at_call 27; refine (HW.out _).mono ?_; rintro e wA ⟨rfl, hbA⟩; have hBA : Below U2.heap.size U2 wA := bstep (And.left (by assumption)) hbA) | (go_at_call 22; refine (HLF.out _ (hRU.out.step (And.left (by assumption)))).mono ?_; rintro e wB ⟨rfl, hbB⟩; have hBB : Below U2.heap.size U2 wB := bstep (And.left (by assumption)) hbB) | (go_at_call 26; refine (HL3.out _ _ (three_cells rfl)).mono ?_; rintro e wC ⟨rfl, rfl⟩))
                    all_goals
                      go_wp2_with fail
                      go_meet
                      exact ⟨by rw [hcc], by first | exact balloc hBB _ | exact (balloc hBB _).drew | exact balloc (Below.drew hBB) _⟩
                case rest =>
                  as_aux_lemma =>
                    obtain ⟨rfl, hbc⟩ := hcut
                    clear HW HLF HL3 wlp hcm
                    have hstC := hstU.below hbc
                    have hRC := hRU.out.step hbc
                    have e0 : wc.cell? ⟨p16, 0, none⟩ = some (.string s) := bc hbc hp16 c0
                    have hlk2 := (hRC _ (Below.refl _ _) s k0).1
                    rw [hWAS.out] at hlk2
                    have hpc : p16 < wc.heap.size := Nat.lt_of_lt_of_le hp16 hbc.size
                    clear hstU hRU hRC c0 c1 c2 c3 c4 c5 hbc hp16
                    have wwc : IntKind.i64.wrap (w + c) = w + c := IntWalk.i64_in _ (by omega)
                    have wlc : IntKind.i64.wrap (lf - c) = lf - c := IntWalk.i64_in _ (by omega)
                    have hwc64 : I64 (w + c) := by unfold I64; omega
                    by_cases ft : fit (w + c)
                    · have HF2 := Lib.hid (fun W => fits_is (w + c) true (decide_eq_true ft) W hwc64)
                      rw [if_neg (by simpa using ft)] at htb
                      have hE := Lib.hid (hstp.trans htb)
                      have hnk : nk < maxLen := by unfold maxLen; omega
                      clear ft htb hbad hstp hwc64
                      go_wp2_with fail
                      refine (HF2.out _).mono ?_
                      rintro e w' ⟨rfl, rfl⟩
                      go_wp2_with (at_mapUpdate; refine wpList_mapUpdate_is _ rfl _ _ _ 29 rfl 9 22 kStr Try.underlying9 Try.underlying29 reads_i bo nk fk rfl hstC.o hnk s rfl k0 (w + c) rfl ?_)
                      intro w3 ho3 hto3
                      obtain ⟨hno, hou, hit, hle⟩ := id hHST.out
                      rw [← hno, ← hou] at ho3
                      have hst3 := hstC.put hto3 ho3
                      have hg3 := hto3.grown
                      have i0 : w3.cell? ⟨p16, 0, none⟩ = some (.string s) := (hg3.cell_far ⟨p16, 0, none⟩ hpc (fun hh => by have h5 : p16 = bo := Option.some.inj hh; have := hlo2.out; omega)).trans e0
                      clear e0 hto3 ho3 hg3 hstC hlk2 HF2 hno hou
                      by_cases cp : 0 < c
                      · rw [if_pos cp] at hit
                        obtain ⟨ii, hii, hz0, hz1, hz2⟩ := info_parts infoItem
                        have hst3' := hst3.below (balloc (Below.refl _ _) (.cells #[.string s, .int .i64 c] 38))
                        have hown1 := hst3'.r
                        have hnews : ∀ j u, [Value.string s, .int .i64 c][j]? = some u → (w3.alloc (.cells #[.string s, .int .i64 c] 38)).cell? ((⟨w3.heap.size, 0, none⟩ : Addr).add j) = some u :=
                          World.news_of_block (block_alloc_last w3 (.cells #[.string s, .int .i64 c] 38 (0, 0)))
                        have htop := hst3'.top
                        have hlz : (lk.length + 1) * 24 ≤ 140737488355328 := by omega
                        have hlm : lk.length + 1 ≤ maxLen := by unfold maxLen; omega
                        clear hst3
                        go_wp2_with (at_builtin; refine wpList_append_lies _ rfl _ _ 23 rfl w2.heap.size 38 ii (.agg #[.string ByteArray.empty, .int .i64 0]) 2 24 Try.underlying23 hii hz0 hz1 hz2 rfl (by decide) u13 lk.length (flat lk) rfl hown1 ⟨w3.heap.size, 0, none⟩ 1 1 [.string s, .int .i64 c] rfl rfl hnews (by intro u hu; simp at hu; rcases hu with rfl | rfl <;> rfl) (by decide) hlm hlz htop _ rfl ?_)
                        intro g4 cap4 w4 hown2 hgr hat hglt
                        have hst4 := hst3'.app hgr (L' := lk ++ [(s, c)]) (by unfold OwnL; rw [flat_app]; simpa [flat] using hown2)
                        rw [← hit] at hst4
                        clear hst3' hown1 hnews hown2 hgr hat hglt i0
                        go_wp2_with fail
                        go_roundw
                        case rel => exact ⟨k + 1, by omega, by go_num, by rw [hle], hE, hst4⟩
                        case measure => simp [intOf]; omega
                      · rw [if_neg cp] at hit
                        rw [← hit] at hst3
                        go_wp2_with fail
                        go_roundw
                        case rel => exact ⟨k + 1, by omega, by go_num, by rw [hle], hE, hst3⟩
                        case measure => simp [intOf]; omega
                    · have HF2 := Lib.hid (fun W => fits_is (w + c) false (decide_eq_false ft) W hwc64)
                      rw [if_pos ft] at htb
                      have hE := Lib.hid (hte.out.trans (hbad.out 9 htb (by omega)))
                      clear ft htb hbad hstp hwc64 hHST
                      go_wp2_with fail
                      refine (HF2.out _).mono ?_
                      rintro e w' ⟨rfl, rfl⟩
                      go_wp2_with fail
                      refine bodyPost_ret (v := .tuple #[.slice none 0 0, .map none, .int .i64 9]) (by simp [results, Try.results14, go_sem]) rfl ?_
                      exact take_bad 9 (by omega) hE.out hstC.bel
              · have hA := Lib.hid (amounts_is _ 1 1 [w] false (show decide _ = false from by simp [am]) _ hx1 (by intro y hy; simp at hy; subst hy; exact hwI))
                clear hx1
                rw [if_pos am] at htb
                have hE := Lib.hid (hte.out.trans (hbad.out 2 htb (by omega)))
                have hbe := Lib.hid (bstep hst.bel hB2.out)
                clear hbad hstp hHST htb am
                go_wp2_with fail
                refine hA.out.mono ?_
                rintro e w' ⟨rfl, rfl⟩
                clear hA hlk1
                go_wp2_with fail
                refine bodyPost_ret (v := .tuple #[.slice none 0 0, .map none, .int .i64 2]) (by simp [results, Try.results14, go_sem]) rfl ?_
                exact take_bad 2 (by omega) hE.out hbe.out
            · obtain rfl : k = n := by omega
              go_wp2_with fail
              refine bodyPost_ret (v := .tuple #[u13, .map (some bo), .int .i64 0]) (by simp [results, Try.results14, go_sem]) rfl ?_
              exact take_good (hte.out.trans he0.out) hst (by have := noK_le net g (srvO S k) N k; omega)
        · intro x c kl ya yb w1 cnt1 hwx hlx hRc hat hrg1 hlt hg1 hs1 hen
          obtain ⟨x', hx', rfl, hxs⟩ := Go.WideMaps.string_of_keyOf Try.underlying9 hwx
          injection hx' with hx'
          subst hx'
          have hy : ya = idat c := by rw [reads_i.enc c] at hRc; injection hRc with h; injection h with h _; exact h.symm
          subst hy
          have hgx : g x = some c := by
            cases hc : g x with
            | none => have h1 := hat (.nil); rw [show Lit.string x.data.toList = key x from rfl, (hDf x).2, hc] at h1; simp [idat] at h1
            | some c' =>
              have h1 := hat (.nil)
              rw [show Lit.string x.data.toList = key x from rfl, (hDf x).2, hc] at h1
              rw [reads_i.inj c' c (by simpa using h1)]
          have hb2 : Below W.heap.size W w1 := hbV.grown hg1 hbV.size (fun k h => by cases h; omega)
          have ho2 : MapP w1 bo N (fun t => if left (key t) then none else g t) := hoV.kept hg1 (fun h => by injection h with h; omega)
          have hff : (fun t => if (left (key t) && !(key t).sameKey (key x)) then none else g t) = upd (fun t => if left (key t) then none else g t) x c := by
            funext t
            unfold upd
            by_cases ht : t = x
            · subst ht
              rw [if_pos rfl, WideAt.sameKey_self (key_is t), Bool.not_true, Bool.and_false]
              exact hgx
            · rw [if_neg ht, Maps.sameKey_ne (fun h => ht (key_inj h)), Bool.not_false, Bool.and_true]
          have hmo : more (fun t => if left (key t) then none else g t) x N = N + 1 := by
            have h1 : left (key x) = true := hlx
            unfold more
            simp [h1]
          clear hoV hRc hat hwx hgx
          go_wp2_with (at_mapUpdate; refine wpList_mapUpdate_is _ rfl _ _ _ 29 rfl 9 22 kStr Try.underlying9 Try.underlying29 reads_i bo N _ rfl ho2 (by unfold maxLen; omega) x rfl hxs c rfl ?_)
          intro w2 ho3 hto2
          have ho4 : MapP w2 bo (N + 1) (fun t => if (left (key t) && !(key t).sameKey (key x)) then none else g t) := by rw [hff]; exact ho3
          have hb3 : Below W.heap.size W w2 := hb2.grown hto2.grown hb2.size (fun k h => by cases h; exact hlo)
          have hrg3 := hrg1.kept hto2.grown (fun e => by have := Option.some.inj e; omega) (fun e => by have := Option.some.inj e; omega)
          go_wp2_with fail
          go_roundw
          case rel => exact ⟨_, cnt1, N + 1, hrg3, by omega, hb3, ho4⟩
          case measure => rw [hrg3.left_eq, hrg.left_eq]; exact hlt
    · have hte : Hid (takeErr net g S n = check S n) := takeErr_chk hft hck
      have hck' : (check S n != 0) = true := by rw [bne_iff_ne]; exact hck
      have hck3 : check S n ≠ 0 := hck
      clear hck hmm
      generalize check S n = ce at *
      go_enter Try.func14, Try.ntmps14
      go_wp2_with fail
      refine (HF.out _).mono ?_
      rintro e w0 ⟨rfl, rfl⟩
      go_wp2_with fail
      refine HC.out.mono ?_
      rintro e w1 ⟨rfl, hb1⟩
      clear HF HC
      go_wp2_with fail
      refine bodyPost_ret (v := .tuple #[.slice none 0 0, .map none, .int .i64 ce]) (by simp [results, Try.results14, go_sem]) rfl ?_
      exact take_bad ce hck3 hte.out hb1
  · have HF := Lib.hid (fun W => fits_is net false (decide_eq_false hft) W hb)
    have hte : Hid (takeErr net g S n = 2) := takeErr_net hft
    clear hft
    go_enter Try.func14, Try.ntmps14
    go_wp2_with fail
    refine (HF.out _).mono ?_
    rintro e w0 ⟨rfl, rfl⟩
    go_wp2_with fail
    refine bodyPost_ret (v := .tuple #[.slice none 0 0, .map none, .int .i64 2]) (by simp [results, Try.results14, go_sem]) rfl ?_
    exact take_bad 2 (by omega) hte.out (Below.refl _ _)
end Go.Proofs.Ytjfcbflhnfjcfaa.W
