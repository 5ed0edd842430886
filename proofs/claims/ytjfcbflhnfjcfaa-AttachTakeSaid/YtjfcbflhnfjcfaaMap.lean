/- A map of string keys that the call owns, as a function from texts to elements. -/
import Derived.Test.YtjfcbflhnfjcfaaMem
import Derived.Maps.OwnSet
import Derived.StringKeys
namespace Go.Proofs.Ytjfcbflhnfjcfaa.M
open Go.ChangeMaps Go.MapKept Go.RowKit
open Go.Maps (Keyed IsMap Tidy)
set_option linter.unusedVariables false

/-- What an element reads as. -/
structure Reads {X : Type} (val : X → Value) (dat : X → DataW Unit) (R : Value → Option (DataW Unit × List MemPlace)) : Prop where
  enc : ∀ x, R (val x) = some (dat x, [])
  inv : ∀ v z, R v = some z → ∃ x, v = val x ∧ z = (dat x, [])
  inj : ∀ x y, dat x = dat y → x = y

/-- A text as a key. -/
def key (s : ByteArray) : Lit := .string s.data.toList
theorem key_inj {s t : ByteArray} (h : key s = key t) : s = t := by
  unfold key at h
  injection h with h1
  rcases s with ⟨⟨a⟩⟩; rcases t with ⟨⟨b⟩⟩
  simp at h1
  rw [h1]
theorem key_is (s : ByteArray) : WideAt.IsKeyLit (key s) := trivial

/-- Block b is a map of n entries: of the text s it has f s. -/
def MapIs {X : Type} (P : Program) (k : TypeId) (dat : X → DataW Unit) (R : Value → Option (DataW Unit × List MemPlace)) (w : World) (b n : Nat) (f : ByteArray → Option X) : Prop :=
  ∃ D, w.ownsMap P k R b n D ∧ Maps.size D = n ∧ ∀ s, Maps.has D (key s) = (f s).isSome ∧ ∀ z, D.atKey (key s) z = ((f s).map dat).getD z

/-- A function that is turned at one text. -/
def upd {X : Type} (f : ByteArray → Option X) (s : ByteArray) (x : X) : ByteArray → Option X := fun t => if t = s then some x else f t

/-- How many entries there are behind a store. -/
def more {X : Type} (f : ByteArray → Option X) (s : ByteArray) (n : Nat) : Nat := if (f s).isSome then n else n + 1

section
variable {X : Type} {P : Program} {k e t : TypeId} {val : X → Value} {dat : X → DataW Unit} {R : Value → Option (DataW Unit × List MemPlace)} {w : World} {b n : Nat} {f : ByteArray → Option X}

theorem tight {H : Type} {R : Value → Option (DataW H × List MemPlace)} {D : DataW H} (h : w.ownsMap P k R b n D) : w.ownsMap P k R b (Maps.size D) D := by
  obtain ⟨es, clock, hb, F, _, rfl⟩ := h
  exact ⟨es, clock, hb, F, by simp [Maps.size, length_sorted], rfl⟩

theorem mapIs_made (w : World) : MapIs P k dat R (w.alloc (.map #[] 0)) w.heap.size 0 (fun _ => none) :=
  ⟨_, World.ownsMap_made w P k R, rfl, fun s => ⟨rfl, fun z => rfl⟩⟩
theorem MapIs.lt (h : MapIs P k dat R w b n f) : b < w.heap.size := h.choose_spec.1.lt
theorem MapIs.kept {w' : World} {row : Option Nat} (h : MapIs P k dat R w b n f) (hg : w.grownBy w' row) (hne : some b ≠ row) : MapIs P k dat R w' b n f := by
  obtain ⟨D, h1, h2⟩ := h
  exact ⟨D, h1.kept hg hne, h2⟩
theorem MapIs.alloc (h : MapIs P k dat R w b n f) (o : Obj) : MapIs P k dat R (w.alloc o) b n f := h.kept (World.grownBy_alloc w o none) (by simp)
theorem MapIs.drew (h : MapIs P k dat R w b n f) : MapIs P k dat R w.drew b n f := h
theorem MapIs.setCell (h : MapIs P k dat R w b n f) {a : Addr} (ha : b ≠ a.block) (u : Value) : MapIs P k dat R (w.setCell a u) b n f := by
  obtain ⟨D, h1, h2⟩ := h
  exact ⟨D, h1.setCell ha u, h2⟩
theorem MapIs.same {w' : World} (h : MapIs P k dat R w b n f) (hb : w'.heap[b]? = w.heap[b]?) : MapIs P k dat R w' b n f := by
  obtain ⟨D, ⟨es, c, h1, h3⟩, h2⟩ := h
  exact ⟨D, ⟨es, c, hb.trans h1, h3⟩, h2⟩
theorem MapIs.next {w' : World} {m : Nat} (h : MapIs P k dat R w b n f) (hB : Below m w w') (hb : b < m) : MapIs P k dat R w' b n f := h.same (hB.block b hb)

theorem MapIs.look (h : MapIs P k dat R w b n f) (E : Reads val dat R) (K : Keyed P k) (hk : P.underlying k = some .string) (ht : P.underlying t = some (.map k e)) {z : X} (hz : (zeroValue e).run P w = .ok (val z) w) {s : ByteArray} (hs : s.size ≤ maxLen) :
    (Instr.lookup t (.map (some b)) (.string s) false).run P w = .ok (val ((f s).getD z)) w := by
  obtain ⟨D, h1, h2, h3⟩ := h
  obtain ⟨v, ps, hrun, hv⟩ := h1.lookup K ht hz (E.enc z) (key := .string s) (kl := key s) (Go.WideMaps.keyOf_string_mk hk hs)
  rw [hrun]
  obtain ⟨x, rfl, hx⟩ := E.inv _ _ hv
  rw [(h3 s).2] at hx
  have h4 : ((f s).map dat).getD (dat z) = dat x := by injection hx
  cases hf : f s with
  | none => rw [hf] at h4; rw [E.inj _ _ h4.symm]; rfl
  | some y => rw [hf] at h4; rw [E.inj _ _ h4.symm]; rfl

theorem MapIs.look_ok (h : MapIs P k dat R w b n f) (E : Reads val dat R) (K : Keyed P k) (hk : P.underlying k = some .string) (ht : P.underlying t = some (.map k e)) {z : X} (hz : (zeroValue e).run P w = .ok (val z) w) {s : ByteArray} (hs : s.size ≤ maxLen) :
    (Instr.lookup t (.map (some b)) (.string s) true).run P w = .ok (.tuple #[val ((f s).getD z), .bool (f s).isSome]) w := by
  obtain ⟨D, h1, h2, h3⟩ := h
  obtain ⟨v, ps, hrun, hv⟩ := h1.look_ok K ht hz (E.enc z) (key := .string s) (kl := key s) (Go.WideMaps.keyOf_string_mk hk hs)
  rw [hrun, (h3 s).1]
  obtain ⟨x, rfl, hx⟩ := E.inv _ _ hv
  rw [(h3 s).2] at hx
  have h4 : ((f s).map dat).getD (dat z) = dat x := by injection hx
  cases hf : f s with
  | none => rw [hf] at h4; rw [E.inj _ _ h4.symm]; rfl
  | some y => rw [hf] at h4; rw [E.inj _ _ h4.symm]; rfl

theorem MapIs.len (h : MapIs P k dat R w b n f) (ht : P.underlying t = some (.map k e)) (ty : TypeId) : (Builtin.len_ #[t] ty #[.map (some b)]).run P w = .ok (.int .i64 n) w := by
  obtain ⟨D, h1, h2, h3⟩ := h
  rw [h1.len ht ty, h2]

theorem look_nil {c : Bool} (K : Keyed P k) (hk : P.underlying k = some .string) (ht : P.underlying t = some (.map k e)) {z : Value} (hz : (zeroValue e).run P w = .ok z w) {s : ByteArray} (hs : s.size ≤ maxLen) :
    (Instr.lookup t (.map none) (.string s) c).run P w = .ok (if c then .tuple #[z, .bool false] else z) w :=
  Maps.look_nil c K ht hz (key := .string s) (kl := key s) (Go.WideMaps.keyOf_string_mk hk hs)

theorem MapIs.store (h : MapIs P k dat R w b n f) (E : Reads val dat R) (K : Keyed P k) (hk : P.underlying k = some .string) (ht : P.underlying t = some (.map k e)) (hn : n < maxLen) {s : ByteArray} (hs : s.size ≤ maxLen) (x : X) :
    ∃ w', (Instr.mapUpdate t (.map (some b)) (.string s) (val x)).run P w = .ok () w' ∧ MapIs P k dat R w' b (more f s n) (upd f s x) ∧ w.mapTurned w' b := by
  obtain ⟨D, h1, h2, h3⟩ := h
  obtain ⟨w', hrun, hown, hg⟩ := h1.store K ht hn (key := .string s) (kl := key s) (Go.WideMaps.keyOf_string_mk hk hs) (E.enc x)
  have hT := h1.tidy K
  have hsz : Maps.size (D.put (key s) (dat x)) = more f s n := by
    unfold more; rw [Maps.size_put hT, (h3 s).1, h2]
  refine ⟨w', hrun, ⟨_, ?_, hsz, fun u => ?_⟩, hg⟩
  · rw [← hsz]; exact tight hown
  · unfold upd
    by_cases hu : u = s
    · subst hu
      rw [if_pos rfl]
      exact ⟨Maps.has_put_same hT.isMap (key_is u) _, fun z => Maps.atKey_put_same hT.isMap (key_is u) _ _⟩
    · rw [if_neg hu]
      have hne : key u ≠ key s := fun h => hu (key_inj h)
      rw [Maps.has_put_other hne]
      exact ⟨(h3 u).1, fun z => by rw [Maps.atKey_put_other hne]; exact (h3 u).2 z⟩
end

/-- The store at the operation. -/
theorem wpList_mapUpdate_is {X : Type} {P : Program} (w : World) {ops : Array Oper} {rest : List Oper} {o : Oper} {a : Act} {Q : Exit → Act → World → Prop}
    (hg : o.guard = none) (m x v : Operand) (t : TypeId) (hop : o.op = Op.mapUpdate t m x v)
    (k e : TypeId) (K : Keyed P k) (hk : P.underlying k = some .string) (ht : P.underlying t = some (.map k e)) {val : X → Value} {dat : X → DataW Unit} {R : Value → Option (DataW Unit × List MemPlace)} (E : Reads val dat R) (b n : Nat) (f : ByteArray → Option X)
    (hm : a.eval m = .map (some b)) (hown : MapIs P k dat R w b n f) (hn : n < maxLen) (s : ByteArray) (hx : a.eval x = .string s) (hs : s.size ≤ maxLen) (y : X) (hv : a.eval v = val y)
    (hK : ∀ w', MapIs P k dat R w' b (more f s n) (upd f s y) → w.mapTurned w' b → wpList P ops Q rest (a.put o.dst undef) w') :
    wpList P ops Q (o :: rest) a w := by
  refine wpList_plain hg fun K' hK' => ?_
  obtain ⟨w', hrun, r1, r2⟩ := hown.store E K hk ht hn hs y
  unfold Oper.wp
  simp [execOp, hop, hm, hx, hv, hrun, Result.andThen]
  exact hK' _ _ (hK w' r1 r2)

/-- A bool reads as itself. -/
theorem reads_bool {P : Program} {e : TypeId} (he : P.underlying e = some .bool) : Reads (X := Bool) Value.bool (fun x => .lit (.bool x)) (plainElem P e) where
  enc := fun x => plainElem_bool he x
  inv := fun v z h => by
    unfold plainElem at h
    rw [he] at h
    cases v <;> simp at h
    subst h
    exact ⟨_, rfl, rfl⟩
  inj := fun x y h => by injection h with h1; injection h1
end Go.Proofs.Ytjfcbflhnfjcfaa.M
