/- The walk of AttachWants. -/
import Derived.Test.YtjfcbflhnfjcfaaAtK
namespace Go.Proofs.Ytjfcbflhnfjcfaa.S
open Go.Proofs.Ytjfcbflhnfjcfaa.B Go.Proofs.Ytjfcbflhnfjcfaa.M Go.Sort
set_option linter.unusedVariables false
theorem alone_srv (x : Ord) : srvO (fun _ => x) 1 0 = x := rfl
theorem min2_min (a b : Int) : min2 a b = min a b := by unfold min2; omega
/-- An order that stands alone. -/
theorem alone_law {net tk : Int} {x : Ord} (hf : fit net) (hx : rngO x) : 0 ≤ takes net net tk x ∧ takes net net tk x ≤ max (net - x.prot) 0 ∧ takes net net tk x ≤ leftP tk x.total ∧ (0 < x.fixed → takes net net tk x ≤ x.fixed ∧ takes net net tk x = min (min (max (net - x.prot) 0) (leftP tk x.total)) x.fixed) ∧ (¬ 0 < x.fixed → 0 < x.rate ∨ takes net net tk x = 0) := by
  have h1 := takes_bd net net tk x
  have h2 := leftP_i64 tk x.total
  obtain ⟨_, _, q0, q1, f0, p0, t0⟩ := hx
  unfold amt at f0
  have h3 : takes net net tk x = max (min (min (wants net x) (leftP tk x.total)) (net - x.prot)) 0 := by
    unfold takes
    simp only [min2_min]
    generalize min (min (wants net x) (leftP tk x.total)) (net - x.prot) = c
    split <;> omega
  have hw : 0 < x.fixed → wants net x = x.fixed := fun h => by unfold wants; rw [if_pos (by omega)]
  have hz : ¬ 0 < x.fixed → ¬ 0 < x.rate → wants net x = 0 := fun h h' => by
    unfold wants; rw [if_neg (by omega)]
    have : x.rate = 0 := by omega
    rw [this]; unfold rnd; simp
  refine ⟨h1.1, by omega, by omega, fun h => ?_, fun h => ?_⟩
  · rw [hw h] at h3; omega
  · by_cases hr : 0 < x.rate
    · exact .inl hr
    · rw [hz h hr] at h3
      right; omega
end Go.Proofs.Ytjfcbflhnfjcfaa.S
namespace Go.Proofs.Ytjfcbflhnfjcfaa.W
open Go.RowKit Go.Proofs.Ytjfcbflhnfjcfaa.M Go.Proofs.Ytjfcbflhnfjcfaa.B Go.Proofs.Ytjfcbflhnfjcfaa.S
open Go.Maps (Keyed)
set_option linter.unusedVariables false

set_option maxRecDepth 100000 in
set_option maxHeartbeats 8000000 in
theorem attachWants (net tk : Int) (x : Ord) (W : World) (hnt : I64 net) (hx : okO x) (htk : I64 tk) :
    Calls Try.prog 8 #[.int .i64 net, oval x, .int .i64 tk] W fun e w' => e = .returned (.bool true) ∧ Below W.heap.size W w' := by
  obtain ⟨g, hg⟩ : ∃ g : Mp, g = upd (fun _ => none) x.code tk := ⟨_, rfl⟩
  have hwas : was g x.code = tk := by rw [hg]; unfold was upd; rw [if_pos rfl]; rfl
  have hWI : Hid (∀ s : ByteArray, I64 (was g s)) := fun s => by
    rw [hg]; unfold was upd
    by_cases c : s = x.code
    · rw [if_pos c]; exact htk
    · rw [if_neg c]; show I64 0; unfold I64; omega
  have hlaw := Lib.hid (fun hf hr => alone_law (net := net) (tk := tk) (x := x) hf hr)
  have hlf := Lib.hid (fun (mo : Option Nat) (W : World) (h : ReadP W mo g) => left_is mo g x (leftP tk x.total) (by show leftP (was g x.code) x.total = _; rw [hwas]) W h hx (by rw [hwas]; exact htk))
  have hchk := Lib.hid (fun h => (check_right (S := fun _ => x) (n := 1) h).2.2.1 0 (by omega))
  have htake := Lib.hid (fun (W : World) (a : Option Addr) (h : Lst 6 W a 1 (fun _ => ocells x)) hn b n0 hg hN => take_own net a 1 1 (fun _ => x) W h hn (fun _ _ => hx) hnt (by omega) b n0 g hg hN hWI)
  have htk0 : takeK net g (srvO (fun _ => x) 1) 0 = takes net net tk x := by
    show takes net net (was g x.code) x = _
    rw [hwas]
  have hout := out_at (net := net) (g := g) (O := srvO (fun _ => x) 1) 1 (fun i j hi hj _ => by omega) 0 (by omega)
  have hit := items_succ (net := net) (g := g) (O := srvO (fun _ => x) 1) 0
  have hte := fun h => ((terr_zero (net := net) (g := g) (O := srvO (fun _ => x) 1) 1).1 h 0 (by omega)).1
  rw [htk0] at hit hout
  change outK net g (srvO (fun _ => x) 1) 1 x.code = some (was g x.code + takes net net tk x) at hout
  change itemsK net g (srvO (fun _ => x) 1) 1 = if 0 < takes net net tk x then [(x.code, takes net net tk x)] else [] at hit
  change ∀ h, amt (was g x.code) at hte
  rw [hwas] at hout hte
  have hout2 : was (outK net g (srvO (fun _ => x) 1) 1) x.code = tk + takes net net tk x := by unfold was; rw [hout]; rfl
  have hTE : takeErr net g (fun _ => x) 1 = 0 → fit net ∧ check (fun _ => x) 1 = 0 ∧ terr net g (srvO (fun _ => x) 1) 1 = 0 := fun h => by
    by_cases hf : fit net
    · by_cases hc : check (fun _ => x) 1 = 0
      · exact ⟨hf, hc, (takeErr_run hf hc).symm.trans h⟩
      · rw [takeErr_chk hf hc] at h; exact absurd h hc
    · rw [takeErr_net hf] at h; omega
  have HF := Lib.hid (And.intro hit (And.intro hout2 (And.intro hTE (And.intro hte hg))))
  clear hit hout hout2 hTE hte htk0 hwas
  obtain ⟨s, r, q, f, p, t⟩ := x
  obtain ⟨k0, k1, k2, k3, k4, k5⟩ := id hx
  simp only at k0 k1 k2 k3 k4 k5
  unfold oval
  simp only
  have hmm := @run_makeMap Try.prog
  have HA := Lib.hid (fun W => awake_is W)
  have hln := fun ty w => Maps.len_nil (P := Try.prog) (w := w) Try.underlying29 ty
  go_enter Try.func8, Try.ntmps8
  go_wp2_with fail
  refine (HA.out _).mono ?_
  rintro e w1 ⟨rfl, hb1⟩
  have c0 : w1.cell? ⟨W.heap.size, 0, none⟩ = some (.string s) := bc hb1 (by simp) (by simp)
  have c1 : w1.cell? ⟨W.heap.size, 1, none⟩ = some (.int .i64 r) := bc hb1 (by simp) (by simp)
  have c2 : w1.cell? ⟨W.heap.size, 2, none⟩ = some (.int .i64 q) := bc hb1 (by simp) (by simp)
  have c3 : w1.cell? ⟨W.heap.size, 3, none⟩ = some (.int .i64 f) := bc hb1 (by simp) (by simp)
  have c4 : w1.cell? ⟨W.heap.size, 4, none⟩ = some (.int .i64 p) := bc hb1 (by simp) (by simp)
  have c5 : w1.cell? ⟨W.heap.size, 5, none⟩ = some (.int .i64 t) := bc hb1 (by simp) (by simp)
  have hp1 : W.heap.size < w1.heap.size := Nat.lt_of_lt_of_le (by simp) hb1.size
  have hB1 : Below W.heap.size W w1 := bstep (balloc (Below.refl _ _) _) hb1
  clear HA hb1
  by_cases c300 : 300 < s.size
  · have c300' : (300 : Int) < (s.size : Int) := by omega
    go_wp2_with fail
    go_ret
    exact ⟨rfl, hB1⟩
  · have c300' : ¬ (300 : Int) < (s.size : Int) := by omega
    obtain ⟨wM, hrunM, hMM, htM⟩ := (mapIs_made (P := Try.prog) (k := 9) (dat := idat) (R := iR) w1).store reads_i kStr Try.underlying9 Try.underlying29 (by unfold maxLen; omega) (s := s) k0 tk
    have hgM : MapP wM w1.heap.size 1 g := by rw [HF.out.2.2.2.2]; exact hMM
    have hb2 : Below w1.heap.size w1 wM := (balloc (Below.refl _ _) (.map #[] 0)).grown htM.grown (by simp) (fun k hk => by cases hk; exact Nat.le_refl _)
    have d0 := bc hb2 hp1 c0
    have d1 := bc hb2 hp1 c1
    have d2 := bc hb2 hp1 c2
    have d3 := bc hb2 hp1 c3
    have d4 := bc hb2 hp1 c4
    have d5 := bc hb2 hp1 c5
    have hLx : Lst 6 (wM.alloc (.cells #[.string s, .int .i64 r, .int .i64 q, .int .i64 f, .int .i64 p, .int .i64 t] 43)) (some ⟨wM.heap.size, 0, none⟩) 1 (fun _ => ocells ⟨s, r, q, f, p, t⟩) :=
      ⟨by omega, fun _ => ⟨_, _, rfl, by simp, fun j hj i u hu => by
        rw [World.cell?_alloc_at _ _ _ _ rfl]
        obtain rfl : j = 0 := by omega
        simp only [Nat.zero_mul, Nat.zero_add]
        rw [← Array.getElem?_toList]
        exact hu⟩⟩
    have hT := Lib.hid (htake.out _ _ hLx (fun h => by cases h) w1.heap.size 1 (hgM.alloc _) (by omega))
    have hp2 : W.heap.size < (wM.alloc (.cells #[.string s, .int .i64 r, .int .i64 q, .int .i64 f, .int .i64 p, .int .i64 t] 43)).heap.size := by have := hb2.size; simp; omega
    have hb3 : Below w1.heap.size w1 (wM.alloc (.cells #[.string s, .int .i64 r, .int .i64 q, .int .i64 f, .int .i64 p, .int .i64 t] 43)) := balloc hb2 _
    clear hLx hMM htM htake hgM
    go_wp2_with fail
    refine hT.out.mono ?_
    rintro e w2 ⟨hb4, h2⟩
    have hb5 := bstep hb3 hb4
    have hB2 := bstep hB1 hb5
    have e0 := bc hb4 hp2 ((show _ from bc (balloc (Below.refl wM.heap.size wM) (.cells #[.string s, .int .i64 r, .int .i64 q, .int .i64 f, .int .i64 p, .int .i64 t] 43)) (Nat.lt_of_lt_of_le hp1 hb2.size) d0))
    have e1 := bc hb4 hp2 ((show _ from bc (balloc (Below.refl wM.heap.size wM) (.cells #[.string s, .int .i64 r, .int .i64 q, .int .i64 f, .int .i64 p, .int .i64 t] 43)) (Nat.lt_of_lt_of_le hp1 hb2.size) d1))
    have e2 := bc hb4 hp2 ((show _ from bc (balloc (Below.refl wM.heap.size wM) (.cells #[.string s, .int .i64 r, .int .i64 q, .int .i64 f, .int .i64 p, .int .i64 t] 43)) (Nat.lt_of_lt_of_le hp1 hb2.size) d2))
    have e3 := bc hb4 hp2 ((show _ from bc (balloc (Below.refl wM.heap.size wM) (.cells #[.string s, .int .i64 r, .int .i64 q, .int .i64 f, .int .i64 p, .int .i64 t] 43)) (Nat.lt_of_lt_of_le hp1 hb2.size) d3))
    have e4 := bc hb4 hp2 ((show _ from bc (balloc (Below.refl wM.heap.size wM) (.cells #[.string s, .int .i64 r, .int .i64 q, .int .i64 f, .int .i64 p, .int .i64 t] 43)) (Nat.lt_of_lt_of_le hp1 hb2.size) d4))
    have e5 := bc hb4 hp2 ((show _ from bc (balloc (Below.refl wM.heap.size wM) (.cells #[.string s, .int .i64 r, .int .i64 q, .int .i64 f, .int .i64 p, .int .i64 t] 43)) (Nat.lt_of_lt_of_le hp1 hb2.size) d5))
    have hp3 : W.heap.size < w2.heap.size := Nat.lt_of_lt_of_le hp2 hb4.size
    clear hrunM d0 d1 d2 d3 d4 d5 c0 c1 c2 c3 c4 c5 hT hb3 hb4 hp2 hb2
    by_cases te : takeErr net g (fun _ => ⟨s, r, q, f, p, t⟩) 1 = 0
    · rw [if_pos te] at h2
      obtain ⟨v, b, N, rfl, hbl, hown, hmp, hN⟩ := h2
      obtain ⟨hit, hout, hTE, hte, hg⟩ := HF.out
      obtain ⟨t1, t2, t3⟩ := hTE te
      have hrg := hchk.out t2
      have htkA := hte t3
      obtain ⟨l0, l1, l2, l3, l4⟩ := hlaw.out t1 hrg
      rw [hit] at hown
      have hlk := (readP_map hmp _ (Below.refl _ _) s k0).1
      change was (outK net g (srvO (fun _ => ⟨s, r, q, f, p, t⟩) 1) 1) s = _ at hout
      rw [hout] at hlk
      try simp only at hown
      try simp only at l1
      try simp only at l2
      try simp only at l3
      try simp only at l4
      have hwb := wants_bd t1 hrg
      have hc50 : takes net net tk ⟨s, r, q, f, p, t⟩ ≤ 1125899906842624 := by
        have := takes_bd net net tk ⟨s, r, q, f, p, t⟩
        by_cases h : 0 < takes net net tk ⟨s, r, q, f, p, t⟩
        · have := (this.2 h).1; omega
        · omega
      obtain ⟨_, _, _, _, g0, p0, _⟩ := hrg
      simp only at g0 p0
      unfold amt at htkA g0 p0
      unfold fit at t1
      have hL2 := leftP_i64 tk t
      obtain ⟨lv, hlv⟩ : ∃ z, leftP tk t = z := ⟨_, rfl⟩
      have hlf2 := fun mo W h => hlf.out mo W h
      change ∀ mo W h, Calls Try.prog 22 #[.map mo, .agg #[.string s, .int .i64 r, .int .i64 q, .int .i64 f, .int .i64 p, .int .i64 t]] W (fun e w' => e = .returned (.int .i64 (leftP tk t)) ∧ Below W.heap.size W w') at hlf2
      rw [hlv] at hlf2 l2 l3 hL2
      have HLF := Lib.hid hlf2
      clear hlf2 hlf hlaw hchk hit hout hTE hte HF t2 t3 hmp hwb te hlv hN hbl
      generalize takes net net tk ⟨s, r, q, f, p, t⟩ = c at *
      have wtc : IntKind.i64.wrap (tk + c) = tk + c := IntWalk.i64_in _ (by omega)
      have wnp : IntKind.i64.wrap (net - p) = net - p := IntWalk.i64_in _ (by omega)
      obtain ⟨wM2, hrunM, hMM, htM⟩ := (mapIs_made (P := Try.prog) (k := 9) (dat := idat) (R := iR) w2).store reads_i kStr Try.underlying9 Try.underlying29 (by unfold maxLen; omega) (s := s) k0 tk
      have hgM : MapP wM2 w2.heap.size 1 g := by rw [hg]; exact hMM
      have hb6 : Below w2.heap.size w2 wM2 := (balloc (Below.refl _ _) (.map #[] 0)).grown htM.grown (by simp) (fun k hk => by cases hk; exact Nat.le_refl _)
      have f0 := bc hb6 hp3 e0
      have f1 := bc hb6 hp3 e1
      have f2 := bc hb6 hp3 e2
      have f3 := bc hb6 hp3 e3
      have f4 := bc hb6 hp3 e4
      have f5 := bc hb6 hp3 e5
      have HL2 := Lib.hid (HLF.out (some w2.heap.size) wM2 (readP_map hgM))
      have hB3 := Lib.hid (bstep hB2 hb6)
      have hp4 : W.heap.size < wM2.heap.size := Nat.lt_of_lt_of_le hp3 hb6.size
      clear hgM hMM htM hb6 HLF hg hWI
      by_cases cc : 0 < c
      · rw [if_pos cc] at hown
        obtain ⟨a1, cap1, rfl, hl1⟩ := ownL_lst hown (show 1 ≤ 1000 by omega) (s, 0)
        obtain ⟨bx, ox, rfl, hlx, hc1⟩ := hl1.at_ (j := 0) (show 0 < 1 by omega)
        have y1 := hc1 1 (.int .i64 c) rfl
        rw [Nat.zero_mul, Nat.add_zero] at y1
        clear hc1 hl1 hown
        have bne1 : (tk + c != tk + c) = false := by simp
        go_wp2_with fail
        refine HL2.out.mono ?_
        rintro e w4 ⟨rfl, hb7⟩
        have k0' := bc hb7 hp4 f0
        have k2' := bc hb7 hp4 f2
        have k3' := bc hb7 hp4 f3
        have hB4 := Lib.hid (bstep hB3.out hb7)
        have n1 : ¬ max (net - p) 0 < c := by omega
        have n2 : ¬ lv < c := by omega
        clear HL2 hrunM f0 f1 f2 f3 f4 f5 e0 e1 e2 e3 e4 e5 hb7 hB3 hlk hp4
        by_cases cf : 0 < f
        · obtain ⟨l5, l6⟩ := l3 cf
          have n3 : ¬ f < c := by omega
          have L6 := Lib.hid l6
          clear l1 l2 l3 l4 l5 l6
          go_wp2_with fail
          all_goals
            go_ret
            exact ⟨ret_true (by (have l6 := L6.out); rw [beq_iff_eq]; omega), hB4.out⟩
        · have l5 := l4 (by omega)
          clear l1 l2 l3 l4
          rcases l5 with l5 | l5
          · go_wp2_with fail
            go_ret
            exact ⟨rfl, hB4.out⟩
          · first
              | (exfalso; omega)
              | (subst l5
                 by_cases cq : 0 < q
                 · go_wp2_with fail
                   go_ret
                   exact ⟨rfl, hB4.out⟩
                 · go_wp2_with fail
                   go_ret
                   exact ⟨rfl, hB4.out⟩)
      · obtain rfl : c = 0 := by omega
        rw [if_neg cc] at hown
        obtain ⟨a1, cap1, rfl, hl1⟩ := ownL_lst hown (show 0 ≤ 1000 by omega) (s, 0)
        clear hl1 hown
        have bne1 : (tk + 0 != tk + 0) = false := by simp
        simp only [Int.add_zero] at *
        go_wp2_with fail
        refine HL2.out.mono ?_
        rintro e w4 ⟨rfl, hb7⟩
        have k0' := bc hb7 hp4 f0
        have k2' := bc hb7 hp4 f2
        have k3' := bc hb7 hp4 f3
        have hB4 := Lib.hid (bstep hB3.out hb7)
        have n1 : ¬ max (net - p) 0 < (0 : Int) := by omega
        have n2 : ¬ lv < (0 : Int) := by omega
        clear HL2 hrunM f0 f1 f2 f3 f4 f5 e0 e1 e2 e3 e4 e5 hb7 hB3 hlk hp4
        by_cases cf : 0 < f
        · obtain ⟨l5, l6⟩ := l3 cf
          have n3 : ¬ f < (0 : Int) := by omega
          have L6 := Lib.hid l6
          clear l1 l2 l3 l4 l5 l6
          go_wp2_with fail
          all_goals
            go_ret
            exact ⟨ret_true (by (have l6 := L6.out); rw [beq_iff_eq]; omega), hB4.out⟩
        · have l5 := l4 (by omega)
          clear l1 l2 l3 l4
          rcases l5 with l5 | l5
          · go_wp2_with fail
            go_ret
            exact ⟨rfl, hB4.out⟩
          · first
              | (exfalso; omega)
              | (by_cases cq : 0 < q
                 · go_wp2_with fail
                   go_ret
                   exact ⟨rfl, hB4.out⟩
                 · go_wp2_with fail
                   go_ret
                   exact ⟨rfl, hB4.out⟩)
    · rw [if_neg te] at h2
      subst h2
      have hte' : (takeErr net g (fun _ => ⟨s, r, q, f, p, t⟩) 1 != 0) = true := by rw [bne_iff_ne]; exact te
      generalize takeErr net g (fun _ => ⟨s, r, q, f, p, t⟩) 1 = er at *
      go_wp2_with fail
      go_ret
      exact ⟨rfl, hB2⟩
end Go.Proofs.Ytjfcbflhnfjcfaa.W
