/- Appending a slice of integers that reads as a list (nil too) to a slice that the call owns, in a region that draws its order. -/
import Derived.Test.YtjpjeimpmfoldaaDoorMem
import Derived.Deep.RegionLaw
import Derived.Deep.AppendLies
import Derived.Laws.AppendOwnNone
namespace Go.Proofs.YtjpjeimpmfoldaaDoor.M
open Go.RowKit

theorem run_append_ints {P : Program} {w : World} (base : Nat) (t ty e : TypeId) (i : TypeInfo) (z : Value) (bytes : Nat) (ht : P.underlying t = some (.slice e)) (hi : P.info? e = some i) (hz : i.zero = some z)
    (hsize : i.size = 1) (hby : i.bytes = bytes) (hzs : z.cells.size = 1) {k : IntKind}
    (v : Value) (m : Nat) (ys : List Int) (hown : w.ownsRow base e 1 v m (ys.map (Value.int k)))
    (ad : Option Addr) (n cap : Nat) (xs : List Int) (hI : Ints k w ad n cap xs) (hnil : ad = none → cap = 0) (h63 : m + n ≤ maxLen) (hbytes : (m + n) * bytes ≤ 140737488355328) (hbase : base ≤ w.heap.size) :
    ∃ v' w', (Builtin.append_ #[t, t] ty #[v, .slice ad n cap]).run P w = .ok v' w' ∧ w'.ownsRow base e 1 v' (m + n) ((ys ++ xs).map (Value.int k)) ∧ w.grownBy w' v.ownBlock := by
  cases ad with
  | none =>
    have hc := hnil rfl
    have hn : n = 0 := by
      by_cases c : 0 < n
      · obtain ⟨b, off, h, _⟩ := hI.2.2.2 c; cases h
      · omega
    subst hc hn
    have hxs : xs = [] := List.eq_nil_of_length_eq_zero hI.1
    subst hxs
    refine ⟨v, w, run_append_owned_none (P := P) (w := w) base t ty e i 1 ht hi v m _ hown, by simpa using hown, ?_⟩
    exact ⟨rfl, rfl, rfl, Nat.le_refl _, fun _ _ _ => rfl⟩
  | some x =>
    have hcell : ∀ (j : Nat) (u : Value), (xs.map (Value.int k))[j]? = some u → w.cell? (x.add j) = some u := fun j u hu => by
      have hj : j < n := by
        have := (List.getElem?_eq_some_iff.1 hu).1
        rw [List.length_map, hI.1] at this
        exact this
      obtain ⟨b, off, h, _, hc⟩ := hI.2.2.2 (by omega)
      injection h with h
      subst h
      have h2 : (⟨b, off, none⟩ : Addr).add j = ⟨b, off + j, none⟩ := by unfold Addr.add; split <;> simp_all
      rw [h2, hc j hj, ← hu]
      have hj' : j < xs.length := by rw [hI.1]; exact hj
      simp [List.getD_eq_getElem?_getD, hj']
    obtain ⟨v', w', hr, h2, h3, _⟩ := run_append_own_at (P := P) w base t ty e i z 1 bytes ht hi hz hsize hby hzs (by omega) v m _ hown x n cap (xs.map (Value.int k)) (by simp [hI.1]) hcell (by
      intro u hu
      obtain ⟨q, _, rfl⟩ := List.mem_map.1 hu
      rfl) h63 hbytes hbase
    exact ⟨v', w', hr, by simpa using h2, h3⟩

/-- .. at a step of a region that draws its order. -/
theorem step_append_ints {P : Program} {w : World} {ops : Array Oper} {o : Oper} {a : Act} {K : Act → World → Prop} {Q : Exit → Act → World → Prop} {E : Prop} (hgd : o.guard = none) (s x : Operand) (t : TypeId)
    (ho : o.op = .call { callee := .builtin .append, args := #[s, x], argTypes := #[t, t] })
    (base : Nat) (e : TypeId) (i : TypeInfo) (z : Value) (bytes : Nat) (ht : P.underlying t = some (.slice e)) (hi : P.info? e = some i) (hz : i.zero = some z)
    (hsize : i.size = 1) (hby : i.bytes = bytes) (hzs : z.cells.size = 1) {k : IntKind}
    (v : Value) (m : Nat) (ys : List Int) (hs : a.eval s = v) (hown : w.ownsRow base e 1 v m (ys.map (Value.int k)))
    (ad : Option Addr) (n cap : Nat) (xs : List Int) (hx : a.eval x = .slice ad n cap) (hI : Ints k w ad n cap xs) (hnil : ad = none → cap = 0) (h63 : m + n ≤ maxLen) (hbytes : (m + n) * bytes ≤ 140737488355328) (hbase : base ≤ w.heap.size)
    (h : ∀ v' w', w'.ownsRow base e 1 v' (m + n) ((ys ++ xs).map (Value.int k)) → w.grownBy w' v.ownBlock → K (a.put o.dst v') w') :
    if Region.wanted o (yielded ops a.tmps) = true then Oper.wp P o a w K Q else E := by
  have hw : Region.wanted o (yielded ops a.tmps) = true := by simp [Region.wanted, hgd]
  rw [if_pos hw]
  obtain ⟨v', w', hr, h2, h3⟩ := run_append_ints (P := P) base t o.type e i z bytes ht hi hz hsize hby hzs v m ys hown ad n cap xs hI hnil h63 hbytes hbase
  unfold Oper.wp execOp
  simp only [ho, resolve, invoke, builtin, Sem.run_bind, Sem.run_pure, Result.andThen_ok, List.map_toArray, List.map_cons, List.map_nil, hs, hx, hr]
  exact h v' w' h2 h3

open Go.ChangeShapes Go.WideShapes in
/-- .. and a nil argument has no room. -/
theorem ints_of_trodz {H : Type} {enc : TypeId × Value → H} {P : Program} {W : World} {t e : TypeId} {k : IntKind} {a : Option Addr} {len cap : Nat} {d : DataW H} {p : List MemPlace} {base : Nat} {sp : Nat → Bool} {hd : Bool}
    (ht : P.underlying t = some (.slice e)) (he : P.underlying e = some (.int k)) (hce : P.cellsOf e = 1)
    (h : DataW.Trod enc P W base sp hd t (.slice a len cap) d p) :
    ∃ zs, Ints k W a len cap zs ∧ (∀ n ∈ zs, (Lit.int k n).wf = true) ∧ (a = none → cap = 0) := by
  obtain ⟨zs, h1, h2⟩ := ints_of_trod ht he hce h
  refine ⟨zs, h1, h2, fun ha => ?_⟩
  subst ha
  obtain ⟨fuel, hf⟩ := h
  rcases open_ints ht he hce hf with ⟨hcs, _⟩ | ⟨x, l, c, zs, hcs, _⟩
  · simp [Value.cells] at hcs
    exact hcs.2
  · simp [Value.cells] at hcs
end Go.Proofs.YtjpjeimpmfoldaaDoor.M
