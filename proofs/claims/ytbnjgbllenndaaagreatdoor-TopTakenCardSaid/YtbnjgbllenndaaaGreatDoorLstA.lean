/- Lists of structs: opened out of an argument; appended to a row that the call owns. -/
import Derived.Test.YtbnjgbllenndaaaGreatDoorLst
import Derived.Deep.RegionLaw
import Derived.Deep.Slices
import Derived.Laws.AppendOwnNone
import Derived.ChangeArms
namespace Go.Proofs.YtbnjgbllenndaaaGreatDoor.M
open Go.RowKit
set_option linter.unusedVariables false

theorem XR_one {z : Nat} {c : Nat → List Value} (hc : ∀ j, ∀ u ∈ c j, u.oneCell' = true) : ∀ m, ∀ u ∈ XR c m, u.oneCell' = true
  | 0, u, h => by simp [XR] at h
  | m + 1, u, h => by
    unfold XR at h
    rcases List.mem_append.1 h with h | h
    · exact XR_one (z := z) hc m u h
    · exact hc m u h
theorem Lst.cells {z : Nat} {w : World} {a : Option Addr} {n : Nat} {c : Nat → List Value} (hz : ∀ j, (c j).length = z) (hz0 : 0 < z) (h : Lst z w a n c) {x : Addr} (ha : a = some x) : ∀ (j : Nat) (u : Value), (XR c n)[j]? = some u → w.cell? (x.add j) = some u := fun j u hu => by
  have hj : j < n * z := by
    have := (List.getElem?_eq_some_iff.1 hu).1
    rwa [XR_len hz] at this
  have hn : 0 < n := by
    rcases Nat.eq_zero_or_pos n with h0 | h0
    · subst h0; simp at hj
    · exact h0
  obtain ⟨b, off, h1, _, hc⟩ := h.2 hn
  rw [ha] at h1
  injection h1 with h1
  subst h1
  have h2 : (⟨b, off, none⟩ : Addr).add j = ⟨b, off + j, none⟩ := by unfold Addr.add; split <;> simp_all
  have hq : j / z < n := by rw [Nat.div_lt_iff_lt_mul hz0]; exact hj
  have hr : j % z < z := Nat.mod_lt _ hz0
  have he : j = j / z * z + j % z := by rw [Nat.mul_comm]; exact (Nat.div_add_mod j z).symm
  have hlen : j % z < (c (j / z)).length := by rw [hz]; exact hr
  have h3 := XR_at hz n (j / z) hq (j % z) _ (List.getElem?_eq_getElem hlen)
  rw [← he, hu] at h3
  have h4 := hc (j / z) hq (j % z) _ (List.getElem?_eq_getElem hlen)
  rw [h2, show off + j = off + j / z * z + j % z by omega, h4]
  exact h3.symm

theorem run_append_lst {P : Program} {w : World} (base : Nat) (t ty e : TypeId) (i : TypeInfo) (z0 : Value) (z bytes : Nat) (ht : P.underlying t = some (.slice e)) (hi : P.info? e = some i) (hz : i.zero = some z0)
    (hsize : i.size = z) (hby : i.bytes = bytes) (hzs : z0.cells.size = z) (hp : 0 < z)
    (v : Value) (m : Nat) (ys : List Value) (hown : w.ownsRow base e z v m ys)
    (ad : Option Addr) (n cap : Nat) (c : Nat → List Value) (hc : ∀ j, (c j).length = z) (hone : ∀ j, ∀ u ∈ c j, u.oneCell' = true) (hI : Lst z w ad n c) (hnil : ad = none → n = 0 ∧ cap = 0) (h63 : m + n ≤ maxLen) (hbytes : (m + n) * bytes ≤ 140737488355328) (hbase : base ≤ w.heap.size) :
    ∃ v' w', (Builtin.append_ #[t, t] ty #[v, .slice ad n cap]).run P w = .ok v' w' ∧ w'.ownsRow base e z v' (m + n) (ys ++ XR c n) ∧ w.grownBy w' v.ownBlock := by
  cases ad with
  | none =>
    obtain ⟨hn, hc⟩ := hnil rfl
    subst hn hc
    exact ⟨v, w, run_append_owned_none (P := P) (w := w) base t ty e i z ht hi v m _ hown, by simpa [XR] using hown, ⟨rfl, rfl, rfl, Nat.le_refl _, fun _ _ _ => rfl⟩⟩
  | some x =>
    obtain ⟨v', w', hr, h2, h3, _⟩ := run_append_own_at (P := P) w base t ty e i z0 z bytes ht hi hz hsize hby hzs hp v m _ hown x n cap (XR c n) (XR_len hc n) (hI.cells hc hp rfl) (XR_one (z := z) hone n) h63 hbytes hbase
    exact ⟨v', w', hr, h2, h3⟩

/-- .. at a step of a region that draws its order. -/
theorem step_append_lst {P : Program} {w : World} {ops : Array Oper} {o : Oper} {a : Act} {K : Act → World → Prop} {Q : Exit → Act → World → Prop} {E : Prop} (hgd : o.guard = none) (s x : Operand) (t : TypeId)
    (ho : o.op = .call { callee := .builtin .append, args := #[s, x], argTypes := #[t, t] })
    (base : Nat) (e : TypeId) (i : TypeInfo) (z0 : Value) (z bytes : Nat) (ht : P.underlying t = some (.slice e)) (hi : P.info? e = some i) (hz : i.zero = some z0)
    (hsize : i.size = z) (hby : i.bytes = bytes) (hzs : z0.cells.size = z) (hp : 0 < z)
    (v : Value) (m : Nat) (ys : List Value) (hs : a.eval s = v) (hown : w.ownsRow base e z v m ys)
    (ad : Option Addr) (n cap : Nat) (c : Nat → List Value) (hc : ∀ j, (c j).length = z) (hone : ∀ j, ∀ u ∈ c j, u.oneCell' = true) (hx : a.eval x = .slice ad n cap) (hI : Lst z w ad n c) (hnil : ad = none → n = 0 ∧ cap = 0) (h63 : m + n ≤ maxLen) (hbytes : (m + n) * bytes ≤ 140737488355328) (hbase : base ≤ w.heap.size)
    (h : ∀ v' w', w'.ownsRow base e z v' (m + n) (ys ++ XR c n) → w.grownBy w' v.ownBlock → K (a.put o.dst v') w') :
    if Region.wanted o (yielded ops a.tmps) = true then Oper.wp P o a w K Q else E := by
  have hw : Region.wanted o (yielded ops a.tmps) = true := by simp [Region.wanted, hgd]
  rw [if_pos hw]
  obtain ⟨v', w', hr, h2, h3⟩ := run_append_lst (P := P) base t o.type e i z0 z bytes ht hi hz hsize hby hzs hp v m ys hown ad n cap c hc hone hI hnil h63 hbytes hbase
  unfold Oper.wp execOp
  simp only [ho, resolve, invoke, builtin, Sem.run_bind, Sem.run_pure, Result.andThen_ok, List.map_toArray, List.map_cons, List.map_nil, hs, hx, hr]
  exact h v' w' h2 h3

open Go.ChangeShapes Go.WideShapes in
/-- A slice of structs, opened: each element's cells, and that they read. -/
theorem lst_of_trod {H : Type} {enc : TypeId × Value → H} {P : Program} {W : World} {t e : TypeId} {z : Nat} {a : Option Addr} {len cap : Nat} {d : DataW H} {p : List MemPlace} {base : Nat} {sp : Nat → Bool} {hd : Bool}
    (ht : P.underlying t = some (.slice e)) (hce : P.cellsOf e = z) (hz : 0 < z) (h : DataW.Trod enc P W base sp hd t (.slice a len cap) d p) :
    ∃ c : Nat → List Value, (∀ j, (c j).length = z) ∧ Lst z W a len c ∧ (∀ j, j < len → ∃ n x, DataW.trod enc P W base sp hd n e (c j) = some x) ∧ (a = none → len = 0 ∧ cap = 0) := by
  obtain ⟨fuel, hf⟩ := h
  rcases Go.Deep.open_slice ht hf with ⟨hcs, _⟩ | ⟨x, l, cp, m, n, D, Pl, hcs, _, hl, hm, hmm, _, hx⟩
  · simp [Value.cells] at hcs
    obtain ⟨rfl, rfl, rfl⟩ := hcs
    exact ⟨fun _ => List.replicate z undef, fun _ => by simp, ⟨by omega, fun h => absurd h (by omega)⟩, fun j hj => absurd hj (by omega), fun _ => ⟨rfl, rfl⟩⟩
  · simp [Value.cells] at hcs
    obtain ⟨rfl, rfl, rfl⟩ := hcs
    obtain ⟨b, off, spot⟩ := x
    have hlm : len ≤ m := by rw [hmm]; split <;> omega
    obtain ⟨f, hfn⟩ := Go.Deep.choose_lt (n := len) (fun i hi => hx i (by omega))
    rw [hce] at hfn
    have hf2 : ∀ j, j < len → (f j).length = z ∧ ∀ i, i < z → W.cell? (((⟨b, off, spot⟩ : Addr).add (j * z)).add i) = (f j)[i]? := fun j hj => (World.cells?_some (hfn j hj).1).2
    refine ⟨fun j => if j < len then f j else List.replicate z undef, fun j => ?_, ⟨by unfold maxLen at hm; omega, fun hn => ?_⟩, fun j hj => ?_, fun hh => by cases hh⟩
    · by_cases c : j < len
      · simp only [if_pos c]; exact (hf2 j c).1
      · simp only [if_neg c]; simp
    · have h0 := (hf2 0 hn).2 0 hz
      have hl0 : 0 < (f 0).length := by rw [(hf2 0 hn).1]; exact hz
      rw [List.getElem?_eq_getElem hl0, Nat.zero_mul] at h0
      have hspot : spot = none := by simpa [Addr.add] using World.cell?_spot h0
      subst hspot
      have add_at : ∀ b off q, (⟨b, off, none⟩ : Addr).add q = ⟨b, off + q, none⟩ := fun b off q => by unfold Addr.add; split <;> simp_all
      refine ⟨b, off, rfl, by simpa [Addr.add] using World.block_lt_of_cell? _ _ h0, fun j hj i u hu => ?_⟩
      simp only [if_pos hj] at hu
      have hi : i < z := by have := (List.getElem?_eq_some_iff.1 hu).1; rwa [(hf2 j hj).1] at this
      have h2 := (hf2 j hj).2 i hi
      rw [add_at, add_at, hu] at h2
      exact h2
    · simp only [if_pos hj]
      exact ⟨n, _, (hfn j hj).2⟩
end Go.Proofs.YtbnjgbllenndaaaGreatDoor.M
