/- ShareWhole: the walk. -/
import Derived.Test.YtbmlingbohdpkaaShN
import Derived.Test.YtbmlingbohdpkaaApp
namespace Go.Proofs.Ytbmlingbohdpkaa.W
open Go.RowKit Go.Proofs.Ytbmlingbohdpkaa.M Go.Proofs.Ytbmlingbohdpkaa.B Go.Proofs.Ytbmlingbohdpkaa.H
set_option linter.unusedVariables false

theorem wherr_fine {c s : Int} (c1 : -1125899906842624 ≤ c) (c2 : c ≤ 1125899906842624) (s0 : 0 < s) (s1 : s ≤ 1125899906842624) : wherr c s = 0 := by
  unfold wherr; rw [if_neg (by omega), if_neg (by omega), if_neg (by omega)]
theorem bt_fine {c w v s : Int} (c1 : -1125899906842624 ≤ c) (c2 : c ≤ 1125899906842624) (w0 : 0 ≤ w) (wv : w ≤ v) (vs : v ≤ s) (s0 : 0 < s) (s1 : s ≤ 1125899906842624) : bterr c w v s = 0 ∧ btr c w v s = upv c v s - upv c w s := by
  have h : bterr c w v s = 0 := by unfold bterr; rw [if_pos (wherr_fine c1 c2 s0 s1), if_neg (by omega), if_neg (by omega)]
  exact ⟨h, btr_ok h⟩
theorem up_fine {c w s : Int} (c1 : -1125899906842624 ≤ c) (c2 : c ≤ 1125899906842624) (w0 : 0 ≤ w) (ws : w ≤ s) (s0 : 0 < s) (s1 : s ≤ 1125899906842624) : uperr c w s = 0 ∧ upr c w s = upv c w s := by
  have h : uperr c w s = 0 := by unfold uperr; rw [if_pos (wherr_fine c1 c2 s0 s1), if_neg (by omega)]
  exact ⟨h, upr_ok h⟩
theorem upv_zero (c s : Int) (hs : 0 < s) : upv c 0 s = 0 := by
  have e : ∀ a, up1 a 0 s = 0 := fun a => by
    unfold up1
    rw [Int.mul_zero, Int.zero_emod, Int.zero_ediv, if_neg (by omega)]
  unfold upv
  rw [e, e]; split <;> rfl
theorem upv_all (c s : Int) (hs : 0 < s) : upv c s s = c := by
  have e : ∀ a, up1 a s s = a := fun a => by
    unfold up1
    rw [Int.mul_emod_left, Int.mul_ediv_cancel _ (by omega), if_neg (by omega)]
  unfold upv
  rw [e, e]; split <;> omega

theorem wpList_append_ints {P : Program} {w : World} {ops : Array Oper} {rest : List Oper} {o : Oper} {a : Act} {Q : Exit → Act → World → Prop} (hgd : o.guard = none) (s x : Operand) (t : TypeId)
    (ho : o.op = .call { callee := .builtin .append, args := #[s, x], argTypes := #[t, t] })
    (base : Nat) (e : TypeId) (i : TypeInfo) (z : Value) (bytes : Nat) (ht : P.underlying t = some (.slice e)) (hi : P.info? e = some i) (hz : i.zero = some z)
    (hsize : i.size = 1) (hby : i.bytes = bytes) (hzs : z.cells.size = 1) {k : IntKind}
    (v : Value) (m : Nat) (ys : List Int) (hs : a.eval s = v) (hown : w.ownsRow base e 1 v m (ys.map (Value.int k)))
    (ad : Option Addr) (n cap : Nat) (xs : List Int) (hx : a.eval x = .slice ad n cap) (hI : Ints k w ad n cap xs) (hnil : ad = none → cap = 0) (h63 : m + n ≤ maxLen) (hbytes : (m + n) * bytes ≤ 140737488355328) (hbase : base ≤ w.heap.size)
    (h : ∀ v' w', w'.ownsRow base e 1 v' (m + n) ((ys ++ xs).map (Value.int k)) → w.grownBy w' v.ownBlock → wpList P ops Q rest (a.put o.dst v') w') :
    wpList P ops Q (o :: rest) a w := by
  refine wpList_plain hgd fun K hK => ?_
  obtain ⟨v', w', hr, h2, h3⟩ := run_append_ints (P := P) base t o.type e i z bytes ht hi hz hsize hby hzs v m ys hown ad n cap xs hI hnil h63 hbytes hbase
  unfold Oper.wp execOp
  simp only [ho, resolve, invoke, builtin, Sem.run_bind, Sem.run_pure, Result.andThen_ok, List.map_toArray, List.map_cons, List.map_nil, hs, hx, hr]
  exact hK _ _ (h v' w' h2 h3)
theorem own_none (w : World) (k : IntKind) (base : Nat) (hb : base ≤ w.heap.size) (e : TypeId) : (w.alloc (.cells #[] e)).ownsRow base e 1 (.slice (some ⟨w.heap.size, 0, none⟩) 0 0) 0 (([] : List Int).map (Value.int k)) :=
  World.ownsRow_lit w #[] 0 hb (by decide) rfl
theorem grown_b {B : Nat} {w W w' : World} {e : TypeId} {v : Value} {n : Nat} {xs : List Value} (hB : Below B w W) (hs : B ≤ W.heap.size) (h : W.ownsRow B e 1 v n xs) (hg : W.grownBy w' v.ownBlock) : Below B w w' :=
  hB.grown hg hs (fun k hk => (h.lt k hk).1)
theorem own_ints {w : World} {base : Nat} {e : TypeId} {v : Value} {N : Nat} {k : IntKind} {zs : List Int} (h : w.ownsRow base e 1 v N (zs.map (Value.int k))) : ∃ a cap, v = .slice a N cap ∧ Ints k w a N cap zs := by
  have hl : zs.length = N := by simpa using h.1
  subst hl
  exact Ints.of_own h
theorem infoU16 : (Try.prog.info? 25).map (fun i => (i.zero, i.size, i.bytes)) = some (some (.int .u16 0), 1, 2) := by kernel_rfl

set_option maxRecDepth 100000 in
theorem shareWhole (c : Int) (b : Option Addr) (n cap : Nat) (xs : List Int) (W : World) (hc : -9223372036854775808 ≤ c ∧ c ≤ 9223372036854775807) (hX : Ints .u16 W b n cap xs) (hB : ∀ x ∈ xs, 0 ≤ x ∧ x ≤ 65535) (hnil : b = none → cap = 0) :
    Calls Try.prog 8 #[.int .i64 c, .slice b n cap] W fun e w' => e = .returned (.bool true) ∧ Below W.heap.size W w' := by
  obtain ⟨f, hf⟩ : ∃ f : Nat → Int, (fun j => xs.getD j 0) = f := ⟨_, rfl⟩
  have hI : ∀ i, i < n → 0 ≤ f i ∧ f i ≤ 65535 := fun i hi => by
    rw [← hf]
    have h1 : i < xs.length := by rw [hX.len]; exact hi
    have h2 : xs.getD i 0 = xs[i] := by simp [List.getD_eq_getElem?_getD, h1]
    show 0 ≤ xs.getD i 0 ∧ xs.getD i 0 ≤ 65535
    rw [h2]; exact hB _ (List.getElem_mem _)
  have hx : Vec .u16 W b n cap f := by rw [← hf]; exact Vec.of_ints hX
  have hm := hx.1
  by_cases c1 : 1125899906842624 < c
  · clear hf hX hB
    go_enter Try.func8, Try.ntmps8
    go_wp2_with fail
    refine (awake_is _).mono ?_
    rintro e w1 ⟨rfl, hb1⟩
    go_wp2_with fail
    go_ret
    exact ⟨rfl, hb1⟩
  by_cases c2 : c < -1125899906842624
  · clear hf hX hB
    go_enter Try.func8, Try.ntmps8
    go_wp2_with fail
    refine (awake_is _).mono ?_
    rintro e w1 ⟨rfl, hb1⟩
    go_wp2_with fail
    go_ret
    exact ⟨rfl, hb1⟩
  have c3 : decide (c < -1125899906842624) = false := decide_eq_false c2
  by_cases bn : 60 < n
  · have bn' : (60 : Int) < (n : Int) := by omega
    clear hf hX hB
    go_enter Try.func8, Try.ntmps8
    go_wp2_with fail
    refine (awake_is _).mono ?_
    rintro e w1 ⟨rfl, hb1⟩
    go_wp2_with fail
    go_ret
    exact ⟨rfl, hb1⟩
  have bn' : ¬ (60 : Int) < (n : Int) := by omega
  have bn3 : decide ((60 : Int) < (n : Int)) = false := decide_eq_false bn'
  have HI := Lib.hid hI
  have HX := Lib.hid hX
  have hf' : Hid (∀ i, i < n → (xs ++ [1]).getD i 0 = f i) := fun i hi => by
    have h1 : i < xs.length := by rw [hX.len]; exact hi
    rw [← hf]
    simp [List.getD_eq_getElem?_getD, List.getElem?_append_left h1]
  have hf1 : Hid ((xs ++ [1]).getD n 0 = 1) := by
    show _ = _
    rw [← hX.len]
    simp [List.getD_eq_getElem?_getD]
  obtain ⟨i0, hi, hz0, hz1, hz2⟩ := info_parts infoU16
  have Hi := Lib.hid hi
  have HN := Lib.hid hnil
  clear hI hi hf hX hB hnil
  go_enter Try.func8, Try.ntmps8
  go_wp2_with fail
  go_loop [5, 32] (fun s5 s32 => ∃ (k : Nat) (T : Int), k ≤ n ∧ s32 = .int .i64 k ∧ s5 = .int .i64 T ∧ 1 ≤ T ∧ T ≤ 1 + k * 65535 ∧ Hid (sm f k + 1 = T)) (fun _ i => n - (intOf i).toNat)
  case atStart => exact ⟨0, 1, Nat.zero_le _, rfl, rfl, by omega, by omega, rfl⟩
  case round =>
    obtain ⟨k, T, hk, rfl, rfl, T0, T1, hT⟩ := hrel
    by_cases cj : k < n
    · obtain ⟨b2, o2, rfl, h2, d2⟩ := hx.at_ cj
      have hxr := HI.out k cj
      have hnx : Hid (sm f (k + 1) + 1 = T + f k) := by show _ = _; unfold sm; rw [← hT.out]; omega
      generalize f k = x at *
      go_wp2_with fail
      go_round
      case rel => exact ⟨k + 1, T + x, by omega, by go_num, rfl, by omega, by omega, hnx⟩
      case measure => simp [intOf]; omega
    · obtain rfl : k = n := by omega
      have h63 : k ≤ 60 := by omega
      go_upto_region 9 with fail
      go_wp2_with (first | (refine wpList_append_ints rfl (.tmp 41) (.tmp 42) 22 rfl W.heap.size 25 i0 (.int .u16 0) 2 Try.underlying22 Hi.out hz0 hz1 hz2 rfl (.slice (some ⟨W.heap.size, 0, none⟩) 0 0) 0 [] (by simp [Act.eval]; done) (own_none W .u16 W.heap.size (Nat.le_refl _) _) b k cap xs (by simp [Act.eval]; done) (HX.out.alloc _) HN.out (by unfold maxLen; omega) (by omega) (by simp) ?_; intro v1 w1 hown1 hgr1; have hB1 := grown_b (balloc (Below.refl _ _) _) (by simp) (own_none W .u16 W.heap.size (Nat.le_refl _) _) hgr1; rw [Nat.zero_add, List.nil_append] at hown1) | (refine wpList_append_ints rfl (.tmp 43) (.tmp 44) 22 rfl W.heap.size 25 i0 (.int .u16 0) 2 Try.underlying22 Hi.out hz0 hz1 hz2 rfl v1 k xs (by simp [Act.eval]; done) (hown1.alloc _) (some ⟨w1.heap.size, 0, none⟩) 1 1 [1] (by simp [Act.eval]; done) (Ints.made [1] _ (by decide)) (fun h => by cases h) (by unfold maxLen; omega) (by omega) (by have := hB1.size; simp; omega) ?_; intro v2 w2 hown2 hgr2; have hB2 := grown_b (balloc hB1 _) (by have := hB1.size; simp; omega) (hown1.alloc _) hgr2; obtain ⟨a2, cap2, hv2, hI2⟩ := own_ints hown2; subst hv2))
      have hV2 := Vec.of_ints hI2
      obtain ⟨G, hG⟩ : ∃ G : Nat → Int, (fun j => (xs ++ [1]).getD j 0) = G := ⟨_, rfl⟩
      rw [hG] at hV2
      have hGi : Hid (∀ i, i < k → G i = f i) := fun i hi => by rw [← hG]; exact hf'.out i hi
      have hGk : G k = 1 := by rw [← hG]; exact hf1.out
      have hGT : Hid (sm G (k + 1) = T) := by
        show _ = _; unfold sm
        rw [sm_congr k hGi.out, hGk]; exact hT.out
      have hGr : Hid (∀ i, i < k + 1 → 0 ≤ G i ∧ G i ≤ 65535) := fun i hi => by
        by_cases e : i = k
        · subst e; omega
        · rw [hGi.out i (by omega)]; exact HI.out i (by omega)
      clear hG hGk hf' hf1 hown1 hown2 hgr1 hgr2 hB1 hI2 hGi HX
      have b1 : ¬ 1125899906842624 < T := by omega
      have hw := fun w v (h0 : 0 ≤ w) (h1 : w ≤ v) (h2 : v ≤ T) => bt_fine (c := c) (w := w) (v := v) (s := T) (by omega) (by omega) h0 h1 h2 (by omega) (by omega)
      have hbt := Lib.hid fun (w v : Int) W (h0 : 0 ≤ w) (h1 : w ≤ v) (h2 : v ≤ T) => by
        have h := Between_is c w v T W hc (by omega) (by omega) (by omega)
        unfold BtOut at h
        rw [(hw w v h0 h1 h2).1, (hw w v h0 h1 h2).2] at h
        exact h
      have hup := Lib.hid fun (w : Int) W (h0 : 0 ≤ w) (h1 : w ≤ T) => by
        have h := UpTo_is c w T W hc (by omega) (by omega)
        unfold UpOut at h
        have hf := up_fine (c := c) (w := w) (s := T) (by omega) (by omega) h0 h1 (by omega) (by omega)
        rw [hf.1, hf.2] at h
        exact h
      clear hw
      go_loopw [6, 7, 47] (fun s6 s7 s47 wx => ∃ (j : Nat) (A S : Int), j ≤ k + 1 ∧ s47 = .int .i64 j ∧ s6 = .int .i64 A ∧ s7 = .int .i64 S ∧ 0 ≤ A ∧ A ≤ T ∧ Hid (sm G j = A) ∧ Hid (upv c A T = S) ∧ Below w2.heap.size w2 wx) (fun _ _ i _ => k + 1 - (intOf i).toNat)
      case atStart => exact ⟨0, 0, 0, Nat.zero_le _, rfl, rfl, rfl, by omega, by omega, rfl, upv_zero c T (by omega), Below.refl _ _⟩
      case round =>
        obtain ⟨j, A, S, hj, rfl, rfl, rfl, A0, A1, hA, hS, hbel⟩ := hrel
        have hSr := upv_range (c := c) (w := A) (s := T) (by omega) A0 A1 (by omega) (by omega)
        rw [hS.out] at hSr
        obtain ⟨S0, S1⟩ := hSr
        by_cases cj2 : j < k + 1
        · obtain ⟨b2, o2, rfl, h2, d2⟩ := hV2.at_ cj2
          have d3 := bc hbel h2 d2
          have h3 : b2 < wr.heap.size := Nat.lt_of_lt_of_le h2 hbel.size
          obtain ⟨x0, x1⟩ := hGr.out j cj2
          have hnx : Hid (sm G (j + 1) = A + G j) := by show _ = _; unfold sm; rw [hA.out]
          have htop : A + G j ≤ T := by
            have h1 := sm_upto G (show j + 1 ≤ k + 1 by omega) (fun i hi => (hGr.out i hi).1)
            rw [hnx.out, hGT.out] at h1
            exact h1
          generalize G j = x at *
          clear d2
          obtain ⟨S2, hS2⟩ : ∃ S2, upv c (A + x) T = S2 := ⟨_, rfl⟩
          have hS2r := upv_range (c := c) (w := A + x) (s := T) (by omega) (by omega) htop (by omega) (by omega)
          rw [hS2] at hS2r
          obtain ⟨S3, S4⟩ := hS2r
          have hcall := Lib.hid fun W => hbt.out A (A + x) W A0 (by omega) htop
          rw [hS.out, hS2] at hcall
          have HS2 := Lib.hid hS2
          clear hS2
          go_wp2_with fail
          refine (hcall.out _).mono ?_
          rintro e w3 ⟨rfl, hb3⟩
          go_wp2_with fail
          go_round
          case rel => exact ⟨j + 1, A + x, S2, by omega, by go_num, rfl, by go_num, by omega, htop, hnx, HS2, bstep hbel hb3⟩
          case measure => simp [intOf]; omega
        · obtain rfl : j = k + 1 := by omega
          obtain rfl : A = T := by rw [← hA.out]; exact hGT.out
          obtain rfl : S = c := by rw [← hS.out]; exact upv_all c A (by omega)
          have u1 := Lib.hid fun W => hup.out A W A0 (Int.le_refl _)
          have u2 := Lib.hid fun W => hup.out 0 W (by omega) A0
          rw [hS.out] at u1
          rw [upv_zero S A (by omega)] at u2
          go_wp2_with fail
          refine (u1.out _).mono ?_
          rintro e w3 ⟨rfl, hb3⟩
          go_wp2_with fail
          refine (u2.out _).mono ?_
          rintro e w4 ⟨rfl, hb4⟩
          go_wp2_with (go_at_call 10; refine (awake_is _).mono ?_; rintro e w5 ⟨rfl, hb5⟩)
          go_ret
          exact ⟨rfl, bstep (bstep (bstep (bstep hB2 hbel) hb3) hb4) hb5⟩
end Go.Proofs.Ytbmlingbohdpkaa.W
