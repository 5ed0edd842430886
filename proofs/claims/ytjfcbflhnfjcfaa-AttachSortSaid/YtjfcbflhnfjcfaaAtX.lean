/- The walk of AttachSort. -/
import Derived.Test.YtjfcbflhnfjcfaaAtJ
import Derived.Test.YtjfcbflhnfjcfaaAtM
import Derived.Test.YtjfcbflhnfjcfaaAtO
import Derived.Test.YtjfcbflhnfjcfaaBlk
import Derived.Deep.RegionHeld3
namespace Go.Proofs.Ytjfcbflhnfjcfaa.W
open Go.RowKit Go.Proofs.Ytjfcbflhnfjcfaa.M Go.Proofs.Ytjfcbflhnfjcfaa.B Go.Proofs.Ytjfcbflhnfjcfaa.S
open Go.Maps (Keyed)
set_option linter.unusedVariables false

set_option maxRecDepth 100000 in
set_option maxHeartbeats 8000000 in
theorem attachSort (a : Option Addr) (n cap : Nat) (S : Nat → Ord) (a2 : Option Addr) (m cap2 : Nat) (I : Nat → ByteArray × Int) (y : Ord) (W : World) (hl : Lst 6 W a n (fun j => ocells (S j))) (hS : ∀ j, j < n → okO (S j)) (hnil : a = none → n = 0 ∧ cap = 0)
    (hI : Lst 2 W a2 m (fun j => ic (I j))) (hIk : ∀ j, j < m → okI (I j)) (hy : okO y) :
    Calls Try.prog 4 #[.slice a n cap, .slice a2 m cap2, oval y] W fun e w' => e = .returned (.bool true) ∧ Below W.heap.size W w' := by
  have HA := Lib.hid (fun W => awake_is W)
  have HSh := Lib.hid (fun (w : World) h => short_is a n cap 70 S w h (by omega))
  have HSi := Lib.hid (fun (w : World) h => shorti_is a2 m cap2 I w h)
  have HLL := Lib.hid hl
  have HII := Lib.hid hI
  have HNIL := Lib.hid hnil
  obtain ⟨s, r, u, f, q, t⟩ := y
  have hB0 := Lib.hid (balloc (Below.refl W.heap.size W) (.cells #[.string s, .int .i64 r, .int .i64 u, .int .i64 f, .int .i64 q, .int .i64 t] 43))
  clear hl hI hnil
  unfold oval
  go_enter Try.func4, Try.ntmps4
  go_wp2_with fail
  refine (HA.out _).mono ?_
  rintro e w1 ⟨rfl, hb1⟩
  have hB1 := Lib.hid (bstep hB0.out hb1)
  have hlt0 : W.heap.size < w1.heap.size := Nat.lt_of_lt_of_le (by simp) hb1.size
  have p0 : w1.cell? ⟨W.heap.size, 0, none⟩ = some (.string s) := bc hb1 (by simp) (by simp)
  have p1 : w1.cell? ⟨W.heap.size, 1, none⟩ = some (.int .i64 r) := bc hb1 (by simp) (by simp)
  have p2 : w1.cell? ⟨W.heap.size, 2, none⟩ = some (.int .i64 u) := bc hb1 (by simp) (by simp)
  have p3 : w1.cell? ⟨W.heap.size, 3, none⟩ = some (.int .i64 f) := bc hb1 (by simp) (by simp)
  have p4 : w1.cell? ⟨W.heap.size, 4, none⟩ = some (.int .i64 q) := bc hb1 (by simp) (by simp)
  have p5 : w1.cell? ⟨W.heap.size, 5, none⟩ = some (.int .i64 t) := bc hb1 (by simp) (by simp)
  have hl1 := Lib.hid (HLL.out.step hB1.out)
  have hI1 := Lib.hid (HII.out.step hB1.out)
  clear hb1 hB0 HLL HII HA
  generalize W.heap.size = P at hlt0 p0 p1 p2 p3 p4 p5 ⊢
  go_wp2_with fail
  refine (HSh.out _ hl1.out).mono ?_
  rintro e w2 ⟨rfl, rfl | ⟨rfl, hn70, h300⟩⟩
  · go_wp2_with fail
    go_ret
    exact ⟨rfl, hB1.out⟩
  · go_wp2_with fail
    refine (HSi.out _ hI1.out).mono ?_
    rintro e w2 ⟨rfl, rfl | ⟨rfl, hm30, hi300⟩⟩
    · go_wp2_with fail
      go_ret
      exact ⟨rfl, hB1.out⟩
    · by_cases c300 : 300 < s.size
      · have c300' : (300 : Int) < (s.size : Int) := by omega
        go_wp2_with fail
        go_ret
        exact ⟨rfl, hB1.out⟩
      · have c300' : ¬ (300 : Int) < (s.size : Int) := by omega
        have HI3 := Lib.hid hi300
        obtain ⟨c, hc⟩ : ∃ c, check S n = c := ⟨_, rfl⟩
        obtain ⟨v, hv⟩ : ∃ v, leftP (fnd I s m) t = v := ⟨_, rfl⟩
        obtain ⟨fv, hfv⟩ : ∃ v, fnd I s m = v := ⟨_, rfl⟩
        have hk0 := hy.1
        have hkt := hy.2.2.2.2.2
        have hfok : I64 fv := by rw [← hfv]; exact fnd_ok s m (fun j hj => (hIk j hj).2)
        have hn : n ≤ 1000 := by omega
        have hS' : ∀ j, j < n → okO (srvO S n j) := fun j hj => hS _ (srv_lt S hj)
        have HC := Lib.hid (fun (w : World) h => check_is S a n cap w h hS)
        have HRC := Lib.hid (fun (w : World) h => rcheck_is S a n cap w h hS)
        have HSO := Lib.hid (fun (w : World) h => sort_is S a n cap w h HNIL.out hn)
        have HRS := Lib.hid (fun (w : World) h => rsort_is S a n cap w h hn)
        have HSA := Lib.hid (fun (x y : Option Addr) (cx cy : Nat) (w : World) h1 h2 => same_is x y n cx cy (srvO S n) w h1 h2)
        have HPA := Lib.hid (fun (w : World) h => paid_is a2 m cap2 I w h HI3.out (by omega))
        have HLE := Lib.hid (fun (b : Nat) (w : World) h => left_is (some b) (pm I m) ⟨s, r, u, f, q, t⟩ v (by show leftP (was (pm I m) s) t = v; rw [pm_was]; exact hv) w h hy (by show I64 (was (pm I m) s); rw [pm_was, hfv]; exact hfok))
        have HFO := Lib.hid (fun (w : World) h => found_is a2 m cap2 I s fv hfv w h)
        have HRL := Lib.hid (fun (w : World) => rleft_is fv ⟨s, r, u, f, q, t⟩ v (by show leftP fv t = v; rw [← hfv]; exact hv) w hfok hkt)
        rw [hc] at HC HRC
        clear hS hIk hy hc hv hfv hfok hS' h300 hi300 HI3 HNIL HSh HSi c300
        generalize w1 = V at *
        go_upto_region 5 with fail
        go_region_held3 (fun w' => Below V.heap.size V w' ∧ ∀ b o, b < V.heap.size → w'.cell? ⟨b, o, none⟩ = V.cell? ⟨b, o, none⟩)
          (first | exact ⟨(Below.refl _ _).drew, fun _ _ _ => rfl⟩ | exact ⟨hBC, (bcell hBC).1⟩ | exact ⟨hBR, (bcell hBR).1⟩ | exact ⟨hBS, (bcell hBS).1⟩ | exact ⟨hBT, (bcell hBT).1⟩ | exact ⟨hBE, (bcell hBE).1⟩ | exact ⟨hBP, (bcell hBP).1⟩ | exact ⟨hBL, (bcell hBL).1⟩ | exact ⟨hBQ, (bcell hBQ).1⟩ | assumption)
          (first | (go_at_call 17; refine (HC.out _ (hl1.out.step (And.left (by assumption)))).mono ?_; rintro e wC ⟨rfl, hbC⟩; have hBC : Below V.heap.size V wC := bstep (And.left (by assumption)) hbC) | (go_at_call 18; refine (HRC.out _ (hl1.out.step (And.left (by assumption)))).mono ?_; rintro e wR ⟨rfl, hbR⟩; have hBR : Below V.heap.size V wR := bstep (And.left (by assumption)) hbR) | (go_at_call 20; refine (HSO.out _ (hl1.out.step (And.left (by assumption)))).mono ?_; rintro e wS ⟨aS, capS, rfl, hlS, _, _, _, _, hbS⟩; have hBS : Below V.heap.size V wS := bstep (And.left (by assumption)) hbS; (try have hlT := hlT.step hbS)) | (go_at_call 21; refine (HRS.out _ (hl1.out.step (And.left (by assumption)))).mono ?_; rintro e wT ⟨aT, capT, rfl, hlT, _, _, _, hbT⟩; have hBT : Below V.heap.size V wT := bstep (And.left (by assumption)) hbT; (try have hlS := hlS.step hbT)) | (go_at_call 19; refine (HSA.out _ _ _ _ _ hlS hlT).mono ?_; rintro e wE ⟨rfl, hbE⟩; have hBE : Below V.heap.size V wE := bstep (And.left (by assumption)) hbE) | (go_at_call 13; refine (HPA.out _ (hI1.out.step (And.left (by assumption)))).mono ?_; rintro e wP ⟨rfl, hbP, hmP⟩; have hBP : Below V.heap.size V wP := bstep (And.left (by assumption)) hbP; have hRP := readP_map hmP) | (go_at_call 22; refine (HLE.out _ _ hRP).mono ?_; rintro e wL ⟨rfl, hbL⟩; have hBL : Below V.heap.size V wL := bstep (And.left (by assumption)) hbL) | (go_at_call 23; refine (HRL.out _).mono ?_; rintro e wQ ⟨rfl, hbQ⟩; have hBQ : Below V.heap.size V wQ := bstep (And.left (by assumption)) hbQ; (try have hRP := hRP.step hbQ)) | (go_at_call 16; refine (HFO.out _ (hI1.out.step (And.left (by assumption)))).mono ?_; rintro e wF ⟨rfl, rfl⟩))
        all_goals
          go_wp2_with fail
          go_ret
          first | exact ⟨rfl, bstep hB1.out hBL⟩ | exact ⟨rfl, bstep hB1.out hBQ⟩
end Go.Proofs.Ytjfcbflhnfjcfaa.W
