/- A copy of a slip's lines. -/
import Derived.Test.YtnakcmliopcabaaTeM
import Derived.Lib.OwnBridge
import Derived.WalkLawsBesides
namespace Go.Proofs.Ytnakcmliopcabaa.W
open Go.RowKit Go.Proofs.Ytnakcmliopcabaa.M Go.Proofs.Ytnakcmliopcabaa.S
set_option linter.unusedVariables false

theorem wpList_append_lst {P : Program} {w : World} {ops : Array Oper} {rest : List Oper} {o : Oper} {a : Act} {Q : Exit → Act → World → Prop} (hgd : o.guard = none) (s x : Operand) (t : TypeId)
    (ho : o.op = .call { callee := .builtin .append, args := #[s, x], argTypes := #[t, t] })
    (base : Nat) (e : TypeId) (i : TypeInfo) (z0 : Value) (z bytes : Nat) (ht : P.underlying t = some (.slice e)) (hi : P.info? e = some i) (hz : i.zero = some z0)
    (hsize : i.size = z) (hby : i.bytes = bytes) (hzs : z0.cells.size = z) (hp : 0 < z)
    (v : Value) (m : Nat) (ys : List Value) (hs : a.eval s = v) (hown : w.ownsRow base e z v m ys)
    (ad : Option Addr) (n cap : Nat) (c : Nat → List Value) (hc : ∀ j, (c j).length = z) (hone : ∀ j, ∀ u ∈ c j, u.oneCell' = true) (hx : a.eval x = .slice ad n cap) (hI : Lst z w ad n c) (hnil : ad = none → n = 0 ∧ cap = 0) (h63 : m + n ≤ maxLen) (hbytes : (m + n) * bytes ≤ 140737488355328) (hbase : base ≤ w.heap.size)
    (h : ∀ v' w', w'.ownsRow base e z v' (m + n) (ys ++ XR c n) → w.grownBy w' v.ownBlock → wpList P ops Q rest (a.put o.dst v') w') :
    wpList P ops Q (o :: rest) a w := by
  refine wpList_plain hgd fun K' hK' => ?_
  obtain ⟨v', w', hr, h2, h3⟩ := run_append_lst (P := P) base t o.type e i z0 z bytes ht hi hz hsize hby hzs hp v m ys hown ad n cap c hc hone hI hnil h63 hbytes hbase
  unfold Oper.wp execOp
  simp only [ho, resolve, invoke, builtin, Sem.run_bind, Sem.run_pure, Result.andThen_ok, List.map_toArray, List.map_cons, List.map_nil, hs, hx, hr]
  exact hK' _ _ (h v' w' h2 h3)
def CloneOut (T : Nat → Int) (W : World) (e : Ending) (w' : World) : Prop := ∃ a' cap', e = .returned (.slice a' (ln T) cap') ∧ Lst 3 w' a' (ln T) (lcs T) ∧ (ln T ≤ cap' ∧ cap' ≤ maxLen) ∧ (a' = none → ln T = 0 ∧ cap' = 0) ∧ Below W.heap.size W w'
/-- A copy of a table's lines, of the call's own. -/
theorem clone_is (T : Nat → Int) (a : Option Addr) (cap : Nat) (W : World) (hl : Lst 3 W a (ln T) (lcs T)) (hnil : a = none → ln T = 0 ∧ cap = 0) :
    Calls Try.prog 19 #[.slice a (ln T) cap] W (CloneOut T W) := by
  have q24 : ∀ (w : World) (a : Option Addr) (n c n' c' : Nat), (binOp .eql 27 (.slice a n c) (.slice none n' c')).run Try.prog w = .ok (.bool a.isNone) w := fun w a n c n' c' => Lib.run_eql_slice_nil w _ _ a n c n' c' Try.underlying27
  have hn := ln_le T
  cases a with
  | none =>
    obtain ⟨h0, rfl⟩ := hnil rfl
    have HL := Lib.hid hl
    have H0 := Lib.hid h0
    clear hl hnil h0 hn
    go_enter Try.func19, Try.ntmps19
    go_wp2
    go_ret
    exact ⟨none, 0, by rw [H0.out]; rfl, HL.out, ⟨Nat.le_of_eq H0.out, Nat.zero_le _⟩, fun _ => ⟨H0.out, rfl⟩, Below.refl _ _⟩
  | some x =>
    obtain ⟨i, hi, hz0, hz1, hz2⟩ := info_parts infoLine
    have HLL := Lib.hid hl
    clear hl hnil
    go_enter Try.func19, Try.ntmps19
    go_wp2_with (at_builtin; refine wpList_append_lst rfl _ _ 27 rfl W.heap.size 45 i (.agg #[.int .i64 0, .string ByteArray.empty, .int .i64 0]) 3 32 Try.underlying27 hi hz0 hz1 hz2 rfl (by decide) _ 0 [] rfl (World.ownsRow_made W #[] 0 (Nat.le_refl _) (Nat.zero_le _) (by simp)) (some x) (ln T) cap (lcs T) (fun j => rfl) (fun j u hu => line_one _ _ u hu) rfl (HLL.out.step (balloc (Below.refl _ _) _)) (fun h => by cases h) (by unfold maxLen; omega) (by omega) (by simp) ?_)
    intro v' w1 hown hgrow
    go_wp2
    go_ret
    have hown' : w1.ownsRow W.heap.size 45 3 v' (ln T) (XR (lcs T) (ln T)) := by simpa using hown
    have hB : Below W.heap.size W w1 := ((Below.refl _ W).alloc (Nat.le_refl _) _).grown hgrow (by simp) (by intro k hk; simp [Value.ownBlock] at hk; omega)
    obtain ⟨a', cap', rfl, hlz⟩ := own_lst (z := 3) (fun j => rfl) hown' (by omega)
    rcases hown'.2 with ⟨hv, h0⟩ | ⟨g', c', cur, hv, _, _, k1, k2, _⟩
    · injection hv with e1 _ e3
      subst e1 e3
      exact ⟨none, 0, rfl, hlz, ⟨by omega, Nat.zero_le _⟩, fun _ => ⟨h0, rfl⟩, hB⟩
    · injection hv with e1 _ e3
      subst e1 e3
      exact ⟨_, _, rfl, hlz, ⟨k1, k2⟩, (fun h => by cases h), hB⟩
end Go.Proofs.Ytnakcmliopcabaa.W
