/- copy of elements of many cells into a row that the call has made; make. -/
import Derived.Test.YtbnjgbllenndaaaGreatDoorLstA
import Derived.Deep.MidRow
import Derived.Laws.CopyOwn
import Derived.Laws.OwnMore
namespace Go.Proofs.YtbnjgbllenndaaaGreatDoor.M
open Go.RowKit
set_option linter.unusedVariables false

theorem run_copy_mid {P : Program} (w : World) (dT sT ty elem : TypeId) (z : Nat) (g dLen dCap : Nat) (sp : Option Addr) (sLen sCap : Nat) (cs : List Value) (hu : P.underlying dT = some (.slice elem)) (hs : (P.info? elem).map (·.size) = some z)
    (hn : cs.length = Nat.min sLen dLen * z) (hnil : sp = none → sLen = 0) (hsrc : ∀ a, sp = some a → ∀ j v, cs[j]? = some v → w.cell? (a.add j) = some v) (ht : w.there g 0 cs.length) (h1 : ∀ v ∈ cs, v.oneCell' = true) :
    (Builtin.copy_ #[dT, sT] ty #[.slice (some ⟨g, 0, none⟩) dLen dCap, .slice sp sLen sCap]).run P w = .ok (goInt (Nat.min sLen dLen)) (w.setCells g 0 cs) := by
  have hst := run_storeCells_cells (P := P) g 0 cs 0 w (fun j hj => by simpa using (ht j hj).1) (fun j hj => by simpa using (ht j hj).2) h1
  simp only [Nat.add_zero] at hst
  cases hq : P.info? elem with
  | none => simp [hq] at hs
  | some i =>
    have hi : i.size = z := by simpa [hq] using hs
    cases sp with
    | none =>
      have h0 := hnil rfl
      subst h0
      have hcs : cs = [] := List.eq_nil_of_length_eq_zero (by rw [hn]; simp)
      subst hcs
      simp [Builtin.copy_, run_underlying hu, Builtin.lenOf, Builtin.firstCells, sizeOf, typeInfo, hq, storeCells, World.setCells]
    | some a =>
      have hl := run_loadCells_list (P := P) w a cs (hsrc a rfl)
      rw [hn] at hl
      simp [Builtin.copy_, run_underlying hu, Builtin.lenOf, Builtin.firstCells, sizeOf, typeInfo, hq, hi, hl, hst]
theorem wpList_copy_mid {P : Program} {w : World} {ops : Array Oper} {rest : List Oper} {o : Oper} {a : Act} {Q : Exit → Act → World → Prop} (hgd : o.guard = none) (d s : Operand) (dT sT : TypeId)
    (ho : o.op = .call { callee := .builtin .copy, args := #[d, s], argTypes := #[dT, sT] }) (elem : TypeId) (z : Nat) (hu : P.underlying dT = some (.slice elem)) (hsz : (P.info? elem).map (·.size) = some z)
    (g dLen dCap : Nat) (sp : Option Addr) (sLen sCap : Nat) (hd : a.eval d = .slice (some ⟨g, 0, none⟩) dLen dCap) (hs : a.eval s = .slice sp sLen sCap) (cs : List Value)
    (hn : cs.length = Nat.min sLen dLen * z) (hnil : sp = none → sLen = 0) (hsrc : ∀ a, sp = some a → ∀ j v, cs[j]? = some v → w.cell? (a.add j) = some v) (ht : w.there g 0 cs.length) (h1 : ∀ v ∈ cs, v.oneCell' = true)
    (h : wpList P ops Q rest (a.put o.dst (goInt (Nat.min sLen dLen))) (w.setCells g 0 cs)) : wpList P ops Q (o :: rest) a w := by
  refine wpList_plain hgd fun K hK => ?_
  have hrun := run_copy_mid (P := P) w dT sT o.type elem z g dLen dCap sp sLen sCap cs hu hsz hn hnil hsrc ht h1
  unfold Oper.wp
  simp [execOp, ho, resolve, invoke, builtin, hd, hs, hrun, Result.andThen]
  exact hK _ _ h
theorem below_setCells {B : Nat} {w0 : World} (g : Nat) (hg : B ≤ g) : ∀ (vs : List Value) (o : Nat) (w : World), Below B w0 w → Below B w0 (w.setCells g o vs)
  | [], _, _, h => h
  | v :: r, o, w, h => by
    rw [World.setCells]
    exact below_setCells g hg r (o + 1) _ (h.setCell (p := ⟨g, o, none⟩) hg v)
theorem size_setCells (g : Nat) : ∀ (vs : List Value) (o : Nat) (w : World), (w.setCells g o vs).heap.size = w.heap.size
  | [], _, _ => rfl
  | v :: r, o, w => by rw [World.setCells, size_setCells g r (o + 1)]; simp
theorem results_cell_mid {P : Program} {fn : Func} {p : Tmp} {ty : TypeId} (h : fn.results = #[.cell p ty]) (tmps : Array Value) (w : World) (b o : Nat) (cs : List Value) (d : TypeDesc)
    (hp : tmps.getD p undef = .pointer (some ⟨b, o, none⟩)) (hc : w.rangeAt b o cs) (hu : P.underlying ty = some d) (hd : d.isRow = true) (hi : (P.info? ty).map (·.size) = some cs.length) :
    (results fn tmps).run P w = .ok (.agg cs.toArray) w := by
  have hp' : tmps[p]?.getD undef = .pointer (some ⟨b, o, none⟩) := by simpa using hp
  simp [results, h, hp', asAddr, run_loadVar_mid w b o ty cs d hc hu hd hi]
theorem there_step {V w : World} {b o n : Nat} (h : V.there b o n) (hb : Below V.heap.size V w) (hl : b < V.heap.size) : w.there b o n := fun j hj => by
  obtain ⟨h1, h2⟩ := h j hj
  obtain ⟨v, hv⟩ := Option.isSome_iff_exists.1 h1
  exact ⟨by rw [bc hb hl hv]; rfl, bf hb hl h2⟩
theorem there_alloc (w : World) (cs : Array Value) (t : TypeId) : (w.alloc (.cells cs t)).there w.heap.size 0 cs.size := fun j hj => by
  rw [World.cell?_alloc_at _ _ _ _ rfl, Nat.zero_add]
  exact ⟨by simp [hj], World.frozen?_alloc_at _ _ _ _ rfl⟩
theorem range_step {V w : World} {b o : Nat} {cs : List Value} (h : V.rangeAt b o cs) (hb : Below V.heap.size V w) (hl : b < V.heap.size) : w.rangeAt b o cs := fun j v hv => bc hb hl (h j v hv)
end Go.Proofs.YtbnjgbllenndaaaGreatDoor.M
