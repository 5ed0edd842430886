/- A map that the call owns, of keys of any kind that the kit reads (arrays, structs), as a function from names of keys to elements. -/
import Derived.Test.YtnakcmliopcabaaMem
import Derived.Maps.OwnSet
import Derived.Maps.RangeWalk
import Derived.DeepKeys4
import Derived.KernelRfl
namespace Go.Proofs.Ytnakcmliopcabaa.M
open Go.ChangeMaps Go.MapKept Go.RowKit
open Go.Maps (Keyed IsMap Tidy)
set_option linter.unusedVariables false

/-- What an element reads as. -/
structure Reads {X : Type} (val : X → Value) (dat : X → DataW Unit) (R : Value → Option (DataW Unit × List MemPlace)) : Prop where
  enc : ∀ x, R (val x) = some (dat x, [])
  inv : ∀ v z, R v = some z → ∃ x, v = val x ∧ z = (dat x, [])
  inj : ∀ x y, dat x = dat y → x = y
/-- Keys by names: each right name's key reads; two of them read apart. -/
structure Names {K : Type} (P : Program) (k : TypeId) (kv : K → Value) (ok : K → Prop) : Prop where
  reads : ∀ x, ok x → (keyOf P k (kv x)).isSome = true
  inj : ∀ x y, ok x → ok y → kv x = kv y → x = y
def klit {K : Type} (P : Program) (k : TypeId) (kv : K → Value) (x : K) : Lit := (keyOf P k (kv x)).getD (.bool false)
section
variable {X K : Type} {P : Program} {k e t : TypeId} {kv : K → Value} {ok : K → Prop} {val : X → Value} {dat : X → DataW Unit} {R : Value → Option (DataW Unit × List MemPlace)} {w : World} {b n : Nat} {f : K → Option X}
theorem Names.key (N : Names P k kv ok) {x : K} (h : ok x) : keyOf P k (kv x) = some (klit P k kv x) := by
  obtain ⟨l, hl⟩ := Option.isSome_iff_exists.1 (N.reads x h)
  unfold klit; rw [hl]; rfl
theorem Names.lit (N : Names P k kv ok) (Y : Keyed P k) {x y : K} (hx : ok x) (hy : ok y) (h : klit P k kv x = klit P k kv y) : x = y :=
  N.inj x y hx hy (Y.inj (N.key hx) (by rw [h]; exact N.key hy))

/-- Block b is a map of n entries, all of right names: of the name x it has f x. -/
def MapF (P : Program) (k : TypeId) (kv : K → Value) (ok : K → Prop) (dat : X → DataW Unit) (R : Value → Option (DataW Unit × List MemPlace)) (w : World) (b n : Nat) (f : K → Option X) : Prop :=
  ∃ D, w.ownsMap P k R b n D ∧ Maps.size D = n ∧ (∀ s, ok s → Maps.has D (klit P k kv s) = (f s).isSome ∧ ∀ z, D.atKey (klit P k kv s) z = ((f s).map dat).getD z) ∧ ∀ l, WideAt.IsKeyLit l → Maps.has D l = true → ∃ s, ok s ∧ l = klit P k kv s

theorem tightK {H : Type} {R : Value → Option (DataW H × List MemPlace)} {D : DataW H} (h : w.ownsMap P k R b n D) : w.ownsMap P k R b (Maps.size D) D := by
  obtain ⟨es, clock, hb, F, _, rfl⟩ := h
  exact ⟨es, clock, hb, F, by simp [Maps.size, length_sorted], rfl⟩
theorem mapF_made (w : World) : MapF P k kv ok dat R (w.alloc (.map #[] 0)) w.heap.size 0 (fun _ => none) :=
  ⟨_, World.ownsMap_made w P k R, rfl, fun s _ => ⟨rfl, fun z => rfl⟩, fun l _ h => by cases h⟩
theorem MapF.lt (h : MapF P k kv ok dat R w b n f) : b < w.heap.size := h.choose_spec.1.lt
theorem MapF.kept {w' : World} {row : Option Nat} (h : MapF P k kv ok dat R w b n f) (hg : w.grownBy w' row) (hne : some b ≠ row) : MapF P k kv ok dat R w' b n f := by
  obtain ⟨D, h1, h2⟩ := h
  exact ⟨D, h1.kept hg hne, h2⟩
theorem MapF.same {w' : World} (h : MapF P k kv ok dat R w b n f) (hb : w'.heap[b]? = w.heap[b]?) : MapF P k kv ok dat R w' b n f := by
  obtain ⟨D, ⟨es, c, h1, h3⟩, h2⟩ := h
  exact ⟨D, ⟨es, c, hb.trans h1, h3⟩, h2⟩
theorem MapF.next {w' : World} {m : Nat} (h : MapF P k kv ok dat R w b n f) (hB : Below m w w') (hb : b < m) : MapF P k kv ok dat R w' b n f := h.same (hB.block b hb)
theorem MapF.look (h : MapF P k kv ok dat R w b n f) (E : Reads val dat R) (Y : Keyed P k) (N : Names P k kv ok) (ht : P.underlying t = some (.map k e)) {z : X} (hz : (zeroValue e).run P w = .ok (val z) w) {s : K} (hs : ok s) :
    (Instr.lookup t (.map (some b)) (kv s) false).run P w = .ok (val ((f s).getD z)) w := by
  obtain ⟨D, h1, h2, h3, _⟩ := h
  obtain ⟨v, ps, hrun, hv⟩ := h1.lookup Y ht hz (E.enc z) (N.key hs)
  rw [hrun]
  obtain ⟨x, rfl, hx⟩ := E.inv _ _ hv
  rw [(h3 s hs).2] at hx
  have h4 : ((f s).map dat).getD (dat z) = dat x := by injection hx
  cases hf : f s with
  | none => rw [hf] at h4; rw [E.inj _ _ h4.symm]; rfl
  | some y => rw [hf] at h4; rw [E.inj _ _ h4.symm]; rfl
theorem MapF.look_ok (h : MapF P k kv ok dat R w b n f) (E : Reads val dat R) (Y : Keyed P k) (N : Names P k kv ok) (ht : P.underlying t = some (.map k e)) {z : X} (hz : (zeroValue e).run P w = .ok (val z) w) {s : K} (hs : ok s) :
    (Instr.lookup t (.map (some b)) (kv s) true).run P w = .ok (.tuple #[val ((f s).getD z), .bool (f s).isSome]) w := by
  obtain ⟨D, h1, h2, h3, _⟩ := h
  obtain ⟨v, ps, hrun, hv⟩ := h1.look_ok Y ht hz (E.enc z) (N.key hs)
  rw [hrun, (h3 s hs).1]
  obtain ⟨x, rfl, hx⟩ := E.inv _ _ hv
  rw [(h3 s hs).2] at hx
  have h4 : ((f s).map dat).getD (dat z) = dat x := by injection hx
  cases hf : f s with
  | none => rw [hf] at h4; rw [E.inj _ _ h4.symm]; rfl
  | some y => rw [hf] at h4; rw [E.inj _ _ h4.symm]; rfl
/-- A function that is turned at one name; how many entries there are behind it. -/
def updK [DecidableEq K] (f : K → Option X) (s : K) (x : X) : K → Option X := fun u => if u = s then some x else f u
def moreK (f : K → Option X) (s : K) (n : Nat) : Nat := if (f s).isSome then n else n + 1
theorem MapF.store [DecidableEq K] (h : MapF P k kv ok dat R w b n f) (E : Reads val dat R) (Y : Keyed P k) (N : Names P k kv ok) (ht : P.underlying t = some (.map k e)) (hn : n < maxLen) {s : K} (hs : ok s) (x : X) :
    ∃ w', (Instr.mapUpdate t (.map (some b)) (kv s) (val x)).run P w = .ok () w' ∧ MapF P k kv ok dat R w' b (moreK f s n) (updK f s x) ∧ w.mapTurned w' b := by
  obtain ⟨D, h1, h2, h3, h4⟩ := h
  obtain ⟨w', hrun, hown, hg⟩ := h1.store Y ht hn (N.key hs) (E.enc x)
  have hT := h1.tidy Y
  have hkl := Y.key (N.key hs)
  have hsz : Maps.size (D.put (klit P k kv s) (dat x)) = moreK f s n := by
    unfold moreK; rw [Maps.size_put hT, (h3 s hs).1, h2]
  refine ⟨w', hrun, ⟨_, ?_, hsz, fun u hu => ?_, fun l hl hh => ?_⟩, hg⟩
  · rw [← hsz]; exact tightK hown
  · unfold updK
    by_cases e : u = s
    · subst e
      rw [if_pos rfl]
      exact ⟨Maps.has_put_same hT.isMap hkl _, fun z => Maps.atKey_put_same hT.isMap hkl _ _⟩
    · rw [if_neg e]
      have hne : klit P k kv u ≠ klit P k kv s := fun h => e (N.lit Y hu hs h)
      rw [Maps.has_put_other hne]
      exact ⟨(h3 u hu).1, fun z => by rw [Maps.atKey_put_other hne]; exact (h3 u hu).2 z⟩
  · by_cases e : l = klit P k kv s
    · exact ⟨s, hs, e⟩
    · rw [Maps.has_put_other e] at hh
      exact h4 l hl hh
end
end Go.Proofs.Ytnakcmliopcabaa.M
