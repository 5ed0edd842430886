/- attach.Sort: the orders as they are served. -/
import Derived.Test.YtjfcbflhnfjcfaaAtWF
import Derived.Test.YtjfcbflhnfjcfaaLstA
import Derived.Test.YtjfcbflhnfjcfaaAtLB
import Derived.Lib.OwnBridge
namespace Go.Proofs.Ytjfcbflhnfjcfaa.M
open Go.RowKit
/-- An append of a list, at its operation. -/
theorem wpList_append_lst {P : Program} {w : World} {ops : Array Oper} {rest : List Oper} {o : Oper} {a : Act} {Q : Exit → Act → World → Prop} (hgd : o.guard = none) (s x : Operand) (t : TypeId)
    (ho : o.op = .call { callee := .builtin .append, args := #[s, x], argTypes := #[t, t] })
    (base : Nat) (e : TypeId) (i : TypeInfo) (z0 : Value) (z bytes : Nat) (ht : P.underlying t = some (.slice e)) (hi : P.info? e = some i) (hz : i.zero = some z0)
    (hsize : i.size = z) (hby : i.bytes = bytes) (hzs : z0.cells.size = z) (hp : 0 < z)
    (v : Value) (m : Nat) (ys : List Value) (hs : a.eval s = v) (hown : w.ownsRow base e z v m ys)
    (ad : Option Addr) (n cap : Nat) (c : Nat → List Value) (hc : ∀ j, (c j).length = z) (hone : ∀ j, ∀ u ∈ c j, u.oneCell' = true) (hx : a.eval x = .slice ad n cap) (hI : Lst z w ad n c) (hnil : ad = none → n = 0 ∧ cap = 0) (h63 : m + n ≤ maxLen) (hbytes : (m + n) * bytes ≤ 140737488355328) (hbase : base ≤ w.heap.size)
    (h : ∀ v' w', w'.ownsRow base e z v' (m + n) (ys ++ XR c n) → w.grownBy w' v.ownBlock → wpList P ops Q rest (a.put o.dst v') w') :
    wpList P ops Q (o :: rest) a w := by
  refine wpList_plain hgd fun K' hK' => ?_
  obtain ⟨v', w', hr, h2, h3⟩ := run_append_lst (P := P) base t o.type e i z0 z bytes ht hi hz hsize hby hzs hp v m ys hown ad n cap c hc hone hI hnil h63 hbytes hbase
  unfold Oper.wp execOp
  simp only [ho, resolve, invoke, builtin, Sem.run_bind, Sem.run_pure, Result.andThen_ok, List.map_toArray, List.map_cons, List.map_nil, hs, hx, hr]
  exact hK' _ _ (h v' w' h2 h3)
end Go.Proofs.Ytjfcbflhnfjcfaa.M
namespace Go.Proofs.Ytjfcbflhnfjcfaa.W
open Go.RowKit Go.Lib Go.Sort Go.Proofs.Ytjfcbflhnfjcfaa.M Go.Proofs.Ytjfcbflhnfjcfaa.B Go.Proofs.Ytjfcbflhnfjcfaa.S
set_option linter.unusedVariables false

theorem infoOrder : (Try.prog.info? 43).map (fun i => (i.zero, i.size, i.bytes)) = some (some (.agg #[.string ByteArray.empty, .int .i64 0, .int .i64 0, .int .i64 0, .int .i64 0, .int .i64 0]), 6, 56) := by kernel_rfl

theorem sortStable_none (a : Option Addr) (cap : Nat) (w : World) : Calls Try.prog 34 #[.slice a 0 cap, .func (.func 35) #[] #[]] w fun e w' => e = .returned (.tuple #[]) ∧ w = w' := by
  have hi : ∀ W, Calls Try.prog 56 #[.slice a 0 cap, .int .i64 0, .int .i64 0, .func (.func 35) #[] #[]] W fun e w' => e = .returned (.tuple #[]) ∧ W = w' := fun W => by
    go_enter Try.func56, Try.ntmps56
    go_wp2_with fail
    go_loop [8] (fun s8 => s8 = .int .i64 1) (fun _ => 0)
    case atStart => rfl
    case round =>
      obtain rfl := hrel
      go_wp2_with fail
      go_end0
      exact ⟨rfl, rfl⟩
  have hs : ∀ W, Calls Try.prog 46 #[.slice a 0 cap, .int .i64 0, .func (.func 35) #[] #[]] W fun e w' => e = .returned (.tuple #[]) ∧ W = w' := fun W => by
    have HI := Lib.hid hi
    clear hi
    go_enter Try.func46, Try.ntmps46
    go_wp2_with fail
    go_loop [7, 8] (fun s7 s8 => s7 = .int .i64 0 ∧ s8 = .int .i64 20) (fun _ _ => 0)
    case atStart => exact ⟨rfl, rfl⟩
    case round =>
      obtain ⟨rfl, rfl⟩ := hrel
      go_wp2_with fail
      refine (HI.out _).mono ?_
      rintro e w' ⟨rfl, rfl⟩
      go_wp2_with fail
      go_loop [6, 7, 8, 9] (fun s6 _ _ _ => s6 = .int .i64 20) (fun _ _ _ _ => 0)
      case atStart => rfl
      case round =>
        obtain rfl := hrel
        go_wp2_with fail
        go_end0
        exact ⟨rfl, rfl⟩
  have HS := Lib.hid hs
  clear hs hi
  go_enter Try.func34, Try.ntmps34
  go_wp2_with fail
  refine (HS.out _).mono ?_
  rintro e w' ⟨rfl, rfl⟩
  go_wp2_with fail
  go_end0
  exact ⟨rfl, rfl⟩

theorem sortStable_is (S : Nat → Ord) (g n cap : Nat) (w : World) (hn : n ≤ 1000) (hH : HoldsK (encS S) 6 w g 0 (Array.range n)) (hblk : g < w.heap.size) :
    Calls Try.prog 34 #[.slice (some ⟨g, 0, none⟩) n cap, .func (.func 35) #[] #[]] w fun e w' => e = .returned (.tuple #[]) ∧ ∃ q os, w' = sortWorldK (encS S) 6 w g 0 q (Z.stable (aheadAt S) (Array.range n)) os := by
  have hsz : (Array.range n).size = n := Array.size_range
  have eg : ∀ args w, (callFunc 35 args).run Try.prog w = .ok (.enter 35 args) w := enters_of Try.func35 (by kernel_rfl) rfl
  have ei : ∀ args w, (callFunc 56 args).run Try.prog w = .ok (.enter 56 args) w := enters_of Try.func56 (by kernel_rfl) rfl
  have R : Z.Row Try.prog (encS S) 6 w g 0 (Array.range n) := ⟨encS_len S, encS_one S, hH, hblk, by omega⟩
  have hins : ∀ (a b q : Nat) (dq : Array Nat) (os : Array Obj), dq.size = (Array.range n).size → a ≤ b → b ≤ (Array.range n).size → Calls Try.prog 56 #[.slice (some ⟨g, 0, none⟩) (Array.range n).size cap, .int .i64 a, .int .i64 b, .func (.func 35) #[] #[]] (sortWorldK (encS S) 6 w g 0 q dq os) (Z.MergeOut (encS S) 6 w g 0 (insertionSort (ltOf (cfS S)) dq a b)) := fun a b q dq os hs hab hb => by
    have hc := AnyQ.insertionSortCmpFunc Z.insAt 6 Try.isAgg43 Try.sizeOf43 (encS S) (encS_len S) (encS_one S) (cfS S) 35 #[] g 0 cap a b dq (sortWorldK (encS S) 6 w g 0 q dq os) eg (cmpLays_S S _ _ _ _) (holdsK_sortWorldK_c (encS S) 6 w g 0 _ dq _ _ hH hblk hs) (Nat.lt_of_lt_of_le hblk (size_sortWorldK_c (encS S) 6 w g 0 q dq os)) hab (by omega) (by omega)
    change Calls Try.prog 56 _ _ _ at hc
    rw [hs] at hc
    refine hc.mono ?_
    rintro e w' ⟨he, q', os', hw⟩
    refine ⟨he, q + q', os ++ os', ?_⟩
    rw [hw, Z.sortWorldK_step (encS S) 6 w g 0 q q' dq _ os os' hblk (Z.insertion_size _ _ _ _)]
  have hst := Z.stable_at lay6 R (cmpLays_S S _ _ _ _) eg cap ei hins 0 #[]
  have e0 : sortWorldK (encS S) 6 w g 0 0 (Array.range n) #[] = w := by unfold sortWorldK; rw [grow_empty]; exact putRowK_self (encS S) 6 w g 0 _ hH
  rw [e0, ltOf_S, hsz] at hst
  have HST := Lib.hid hst
  clear hst hins R hH hsz e0 eg ei
  go_enter Try.func34, Try.ntmps34
  go_wp2_with fail
  refine HST.out.mono ?_
  rintro e w' ⟨rfl, q, os, rfl⟩
  go_wp2_with fail
  go_end0
  exact ⟨rfl, q, os, rfl⟩

/-- A copy of a list of orders, of the call's own. -/
theorem clone_is (S : Nat → Ord) (a : Option Addr) (n cap : Nat) (W : World) (hl : Lst 6 W a n (fun j => ocells (S j))) (hnil : a = none → n = 0 ∧ cap = 0) (hn : n ≤ 1000) :
    Calls Try.prog 33 #[.slice a n cap] W fun e w' => ∃ v, e = .returned v ∧ w'.ownsRow W.heap.size 43 6 v n (XR (fun j => ocells (S j)) n) ∧ Below W.heap.size W w' := by
  have q24 : ∀ (w : World) (a : Option Addr) (n c n' c' : Nat), (binOp .eql 24 (.slice a n c) (.slice none n' c')).run Try.prog w = .ok (.bool a.isNone) w := fun w a n c n' c' => Lib.run_eql_slice_nil w _ _ a n c n' c' Try.underlying24
  cases a with
  | none =>
    obtain ⟨rfl, rfl⟩ := hnil rfl
    clear hl hnil
    go_enter Try.func33, Try.ntmps33
    go_wp2
    go_ret
    exact ⟨_, rfl, World.ownsRow_nil _ _ _ _, Below.refl _ _⟩
  | some x =>
    obtain ⟨i, hi, hz0, hz1, hz2⟩ := info_parts infoOrder
    have HLL := Lib.hid hl
    clear hl hnil
    go_enter Try.func33, Try.ntmps33
    go_wp2_with (at_builtin; refine wpList_append_lst rfl _ _ 24 rfl W.heap.size 43 i (.agg #[.string ByteArray.empty, .int .i64 0, .int .i64 0, .int .i64 0, .int .i64 0, .int .i64 0]) 6 56 Try.underlying24 hi hz0 hz1 hz2 rfl (by decide) _ 0 [] rfl (World.ownsRow_made W #[] 0 (Nat.le_refl _) (Nat.zero_le _) (by simp)) (some x) n cap (fun j => ocells (S j)) (fun j => rfl) (fun j u hu => encS_one S j u hu) rfl (HLL.out.step (balloc (Below.refl _ _) _)) (fun h => by cases h) (by unfold maxLen; omega) (by omega) (by simp) ?_)
    intro v' w1 hown hgrow
    go_wp2
    go_ret
    refine ⟨v', rfl, by simpa using hown, ?_⟩
    exact ((Below.refl _ W).alloc (Nat.le_refl _) _).grown hgrow (by simp) (by intro k hk; simp [Value.ownBlock] at hk; omega)

theorem holdsK_own {S : Nat → Ord} {w : World} {base g n cap : Nat} (h : w.ownsRow base 43 6 (.slice (some ⟨g, 0, none⟩) n cap) n (XR (fun j => ocells (S j)) n)) : HoldsK (encS S) 6 w g 0 (Array.range n) := by
  intro t ht
  rw [size_flatK, Array.size_range] at ht
  rw [Nat.zero_add]
  refine ⟨?_, h.frozenAt t⟩
  rw [h.cellAt t ht, get_flatK _ _ _ _ (by rw [Array.size_range]; exact ht)]
  have hq : t / 6 < n := by omega
  have hlen : t % 6 < (ocells (S (t / 6))).length := by show t % 6 < 6; omega
  have h3 := XR_at (c := fun j => ocells (S j)) (z := 6) (fun j => rfl) n (t / 6) hq (t % 6) _ (List.getElem?_eq_getElem hlen)
  rw [show t / 6 * 6 + t % 6 = t by omega] at h3
  have e1 : (Array.range n)[t / 6]! = t / 6 := by rw [getElem!_pos _ _ (by simpa using hq)]; simp
  rw [e1, h3]
  exact congrArg some (getElem!_pos (ocells (S (t / 6))) (t % 6) hlen).symm

/-- What Sort answers: the orders as they are served, in memory of its own. -/
def SortOut (S : Nat → Ord) (n : Nat) (W : World) (e : Ending) (w' : World) : Prop :=
  ∃ a cap, e = .returned (.slice a n cap) ∧ Lst 6 w' a n (fun j => ocells (srvO S n j)) ∧ (a = none → n = 0 ∧ cap = 0) ∧ n ≤ cap ∧ cap ≤ maxLen ∧ (∀ x, a = some x → W.heap.size ≤ x.block) ∧ Below W.heap.size W w'
theorem sort_is (S : Nat → Ord) (a : Option Addr) (n cap : Nat) (W : World) (hl : Lst 6 W a n (fun j => ocells (S j))) (hnil : a = none → n = 0 ∧ cap = 0) (hn : n ≤ 1000) :
    Calls Try.prog 20 #[.slice a n cap] W (SortOut S n W) := by
  have hC := Lib.hid (clone_is S a n cap W hl hnil hn)
  clear hl hnil
  go_enter Try.func20, Try.ntmps20
  go_wp2_with fail
  refine hC.out.mono ?_
  rintro e w1 ⟨v, rfl, hown, hb1⟩
  have hcap : ∃ a' cap', v = .slice a' n cap' ∧ (a' = none → n = 0 ∧ cap' = 0) ∧ n ≤ cap' ∧ cap' ≤ maxLen ∧ (∀ x, a' = some x → W.heap.size ≤ x.block) ∧ (0 < n → ∃ g, a' = some ⟨g, 0, none⟩ ∧ W.heap.size ≤ g ∧ g < w1.heap.size) := by
    rcases hown.2 with ⟨hv, h0⟩ | ⟨g', cap', cur, hv', hb, hh, h1, h2, _⟩
    · exact ⟨none, 0, by rw [hv, h0], fun _ => ⟨h0, rfl⟩, by omega, by unfold maxLen; omega, (fun x h => by cases h), fun h => by omega⟩
    · exact ⟨_, cap', hv', (fun h => by cases h), h1, h2, (fun x h => by injection h with h; subst h; exact hb), fun _ => ⟨g', rfl, hb, (hown.lt g' (by rw [hv']; rfl)).2⟩⟩
  obtain ⟨a', cap', rfl, hnil', hc1, hc2, hbk, hg⟩ := hcap
  by_cases h0 : n = 0
  · subst h0
    have hS := Lib.hid (sortStable_none a' cap' w1)
    clear hown hg hC
    go_wp2_with fail
    refine hS.out.mono ?_
    rintro e w' ⟨rfl, rfl⟩
    go_wp2_with fail
    go_ret
    exact ⟨a', cap', rfl, ⟨by omega, fun h => absurd h (by omega)⟩, fun h => ⟨rfl, (hnil' h).2⟩, hc1, hc2, hbk, hb1⟩
  · obtain ⟨g, rfl, hgl, hgh⟩ := hg (by omega)
    have hH := holdsK_own hown
    have hS := Lib.hid (sortStable_is S g n cap' w1 hn hH hgh)
    clear hown hC hg
    have HH := Lib.hid hH
    clear hH
    go_wp2_with fail
    refine hS.out.mono ?_
    rintro e w' ⟨rfl, q, os, rfl⟩
    go_wp2_with fail
    go_ret
    obtain ⟨st1, st2⟩ := Z.stable_sorts (aheadAt_swo S) n
    have hsize : (Z.stable (aheadAt S) (Array.range n)).size = n := by rw [st1.1, Array.size_range]
    have hat : ∀ j, j < n → (Z.stable (aheadAt S) (Array.range n))[j]! = srv S n j := fun j hj => by
      have h1 := Z.stable_is (aheadAt_swo S) n
      have h2 : j < (Go.Proofs.Ytjfcbflhnfjcfaa.S.served S n).length := by rw [served_len]; exact hj
      unfold srv
      have hj' : j < (Z.stable (aheadAt S) (Array.range n)).size := by rw [hsize]; exact hj
      rw [List.getD_eq_getElem?_getD, getElem!_pos (Z.stable (aheadAt S) (Array.range n)) j hj', ← Array.getElem_toList hj']
      have h3 : (Z.stable (aheadAt S) (Array.range n)).toList = Go.Proofs.Ytjfcbflhnfjcfaa.S.served S n := h1
      simp only [h3]
      rw [List.getElem?_eq_getElem h2]; rfl
    have hHf := holdsK_sortWorldK_c (encS S) 6 w1 g 0 (Array.range n) (Z.stable (aheadAt S) (Array.range n)) q os HH.out hgh (by rw [hsize, Array.size_range])
    have hgz := size_sortWorldK_c (encS S) 6 w1 g 0 q (Z.stable (aheadAt S) (Array.range n)) os
    refine ⟨_, cap', rfl, ⟨by omega, fun _ => ⟨g, 0, rfl, Nat.lt_of_lt_of_le hgh hgz, fun j hj i u hu => ?_⟩⟩, (fun h => by cases h), hc1, hc2, hbk, ?_⟩
    · have hi : i < 6 := by have := (List.getElem?_eq_some_iff.1 hu).1; exact this
      have h1 := (HoldsK.cell hHf (i := j) (c := i) (by omega) hi).1
      rw [hat j hj] at h1
      rw [h1]
      show some ((ocells (S (srv S n j)))[i]!) = some u
      rw [getElem!_pos _ i (by show i < 6; exact hi)]
      rw [List.getElem?_eq_getElem (by show i < 6; exact hi)] at hu
      exact hu
    · unfold sortWorldK putRowK
      have h1 := Lib.below_putRow (enc := id) (q := q) (d := flatK (encS S) 6 (Z.stable (aheadAt S) (Array.range n))) hb1 hgl
      exact ⟨h1.os, h1.tape, h1.output, Nat.le_trans h1.size (by show _ ≤ (_ ++ _ : Array Obj).size; rw [Array.size_append]; omega), fun j hj => (Sort.heap_grow_old _ os (Nat.lt_of_lt_of_le hj h1.size)).trans (h1.block j hj)⟩
end Go.Proofs.Ytjfcbflhnfjcfaa.W
