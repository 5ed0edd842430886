/- Words for memory, used in all walks: a slice of integers that reads as a list. -/
import Derived.Below
import Derived.Laws.OwnMore
import Derived.Deep.AppendLies
import Derived.Deep.Draws
import Derived.WalkKit
import Derived.ProofKit
import Derived.OpenShut
import Derived.Deep.QuietTactic
namespace Go.Proofs.YtbnjgbllenndaaaGreatDoor.M
open Go.RowKit

/-- The slice value '.slice a n cap' reads as the integers xs (nil too). -/
def Ints (k : IntKind) (w : World) (a : Option Addr) (n cap : Nat) (xs : List Int) : Prop :=
  xs.length = n ∧ n ≤ cap ∧ cap ≤ maxLen ∧ (0 < n → ∃ b off, a = some ⟨b, off, none⟩ ∧ b < w.heap.size ∧ ∀ j, j < n → w.cell? ⟨b, off + j, none⟩ = some (.int k (xs.getD j 0)))

section
variable {k : IntKind} {w w' : World} {a : Option Addr} {n cap : Nat} {xs : List Int}
theorem Ints.nil : Ints k w a 0 0 [] := ⟨rfl, Nat.le_refl _, Nat.zero_le _, fun h => absurd h (by omega)⟩
theorem Ints.len (h : Ints k w a n cap xs) : xs.length = n := h.1
theorem Ints.next {B : Nat} (h : Ints k w a n cap xs) (hb : Below B w w') (hB : w.heap.size ≤ B) : Ints k w' a n cap xs :=
  ⟨h.1, h.2.1, h.2.2.1, fun hn => by
    obtain ⟨b, off, ha, hlt, hc⟩ := h.2.2.2 hn
    exact ⟨b, off, ha, Nat.lt_of_lt_of_le hlt hb.size, fun j hj => (hb.cell (p := ⟨b, off + j, none⟩) (Nat.lt_of_lt_of_le hlt hB)).trans (hc j hj)⟩⟩
theorem Ints.alloc (h : Ints k w a n cap xs) (o : Obj) : Ints k (w.alloc o) a n cap xs := h.next ((Below.refl _ _).alloc (Nat.le_refl _) o) (Nat.le_refl _)
theorem Ints.drew (h : Ints k w a n cap xs) : Ints k w.drew a n cap xs := h
theorem Ints.drewN (h : Ints k w a n cap xs) (m : Nat) : Ints k (w.drewN m) a n cap xs := h
theorem Ints.at_ {j : Nat} (h : Ints k w a n cap xs) (hj : j < n) : ∃ b off, a = some ⟨b, off, none⟩ ∧ b < w.heap.size ∧ w.cell? ⟨b, off + j, none⟩ = some (.int k (xs.getD j 0)) := by
  obtain ⟨b, off, ha, hlt, hc⟩ := h.2.2.2 (by omega)
  exact ⟨b, off, ha, hlt, hc j hj⟩
/-- A new block of integers, as a slice literal lays it. -/
theorem Ints.made (ys : List Int) (E : TypeId) (hl : ys.length ≤ maxLen) : Ints k (w.alloc (.cells (ys.map (Value.int k)).toArray E)) (some ⟨w.heap.size, 0, none⟩) ys.length ys.length ys :=
  ⟨rfl, Nat.le_refl _, hl, fun _ => ⟨_, _, rfl, by simp, fun j hj => by
    rw [World.cell?_alloc_at _ _ _ _ rfl]
    simp [List.getD_eq_getElem?_getD, hj]⟩⟩
/-- What the call owns reads as a list. -/
theorem Ints.of_own {base : Nat} {e : TypeId} {v : Value} (h : w.ownsRow base e 1 v xs.length (xs.map (Value.int k))) : ∃ a cap, v = .slice a xs.length cap ∧ Ints k w a xs.length cap xs := by
  by_cases hn : 0 < xs.length
  · obtain ⟨g, cap, hv, _, hlt⟩ := h.form hn
    subst hv
    refine ⟨_, _, rfl, rfl, ?_, ?_, fun _ => ⟨g, 0, rfl, hlt, fun j hj => ?_⟩⟩
    · rcases h.2 with ⟨h0, _⟩ | ⟨g', cap', cur, hv', _, _, h1, _⟩
      · cases h0
      · injection hv' with _ _ h3; omega
    · rcases h.2 with ⟨h0, _⟩ | ⟨g', cap', cur, hv', _, _, _, h1, _⟩
      · cases h0
      · injection hv' with _ _ h3; omega
    · rw [Nat.zero_add, h.cellAt j (by omega)]
      simp [List.getD_eq_getElem?_getD, hj]
  · have h0 : xs = [] := List.eq_nil_of_length_eq_zero (by omega)
    subst h0
    rcases h.2 with ⟨hv, _⟩ | ⟨g', cap', cur, hv', _, hh, h1, h2, _⟩
    · exact ⟨none, 0, hv, Ints.nil⟩
    · exact ⟨_, cap', hv', rfl, Nat.zero_le _, h2, fun hh => absurd hh (by simp)⟩
theorem Ints.of_own' {base : Nat} {e : TypeId} (h : w.ownsRow base e 1 (.slice a xs.length cap) xs.length (xs.map (Value.int k))) : Ints k w a xs.length cap xs := by
  obtain ⟨a', cap', hv, hI⟩ := Ints.of_own h
  injection hv with h1 _ h3
  subst h1 h3
  exact hI
end

/-- What is owned stays owned where only new blocks came. -/
theorem own_below {w w' : World} {base : Nat} {e : TypeId} {size : Nat} {v : Value} {n : Nat} {xs : List Value} (h : w.ownsRow base e size v n xs) (hb : Below w.heap.size w w') : w'.ownsRow base e size v n xs :=
  h.kept (row := none) ⟨hb.os, hb.tape, hb.output, hb.size, fun k hk _ => hb.block k hk⟩ (by
    rcases h.2 with ⟨h0, _⟩ | ⟨g, cap, cur, h0, _⟩
    · left; rw [h0]; rfl
    · right; rw [h0]; intro hh; cases hh)
/-- Behind an append to what the call owns from 'base' on: nothing below 'base' has turned. -/
theorem below_append {w W w' : World} {base : Nat} {e : TypeId} {size : Nat} {v : Value} {n : Nat} {xs : List Value} (h : w.ownsRow base e size v n xs) (hb : Below w.heap.size w W) (hg : W.grownBy w' v.ownBlock) (hB : base ≤ w.heap.size) : Below base w w' :=
  (hb.mono hB).grown hg (Nat.le_trans hB hb.size) (fun k hk => (h.lt k hk).1)
/-- A block that came behind what is owned, ahead of the append: it stays. -/
theorem append_far {w W w' : World} {base : Nat} {e : TypeId} {size : Nat} {v : Value} {n : Nat} {xs : List Value} (h : w.ownsRow base e size v n xs) (hg : W.grownBy w' v.ownBlock) {b o : Nat} {u : Value} (h1 : w.heap.size ≤ b) (h2 : b < W.heap.size) (hc : W.cell? ⟨b, o, none⟩ = some u) : w'.cell? ⟨b, o, none⟩ = some u :=
  (hg.cell_far ⟨b, o, none⟩ h2 (fun hh => by have := (h.lt b hh.symm).2; omega)).trans hc
theorem bc {B : Nat} {w w' : World} (h : Below B w w') {b o : Nat} {v : Value} (hb : b < B) (hc : w.cell? ⟨b, o, none⟩ = some v) : w'.cell? ⟨b, o, none⟩ = some v := (h.cell (p := ⟨b, o, none⟩) hb).trans hc
theorem bf {B : Nat} {w w' : World} (h : Below B w w') {b o : Nat} {v : Bool} (hb : b < B) (hc : w.frozen? ⟨b, o, none⟩ = v) : w'.frozen? ⟨b, o, none⟩ = v := (h.frozen (p := ⟨b, o, none⟩) hb).trans hc
theorem block_alloc_last (w : World) (o : Obj) : (w.alloc o).heap[w.heap.size]? = some o := by show (w.heap.push o)[w.heap.size]? = _; simp
theorem block_alloc_last' (w : World) (o : Obj) {n : Nat} (h : n = w.heap.size) : (w.alloc o).heap[n]? = some o := by rw [h]; exact block_alloc_last w o
theorem below_drewN {B : Nat} {a w : World} (h : Below B a w) (n : Nat) : Below B a (w.drewN n) := ⟨h.os, h.tape, h.output, h.size, h.block⟩
theorem below_drew' {w w1 : World} (h : Below w.drew.heap.size w.drew w1) : Below w.heap.size w w1 := ⟨h.os, h.tape, h.output, h.size, h.block⟩
theorem bstep {a b c : World} (h : Below a.heap.size a b) (k : Below b.heap.size b c) : Below a.heap.size a c := h.trans (k.mono h.size)
theorem balloc {a b : World} (h : Below a.heap.size a b) (o : Obj) : Below a.heap.size a (b.alloc o) := h.alloc h.size o
theorem bset {a b : World} (h : Below a.heap.size a b) {p : Addr} (hp : a.heap.size ≤ p.block) (u : Value) : Below a.heap.size a (b.setCell p u) := h.setCell hp u
theorem bcell {W w1 : World} (hb : Below W.heap.size W w1) : (∀ b o, b < W.heap.size → w1.cell? ⟨b, o, none⟩ = W.cell? ⟨b, o, none⟩) ∧ (∀ b o, b < W.heap.size → w1.frozen? ⟨b, o, none⟩ = W.frozen? ⟨b, o, none⟩) :=
  ⟨fun b o h => hb.cell (p := ⟨b, o, none⟩) h, fun b o h => hb.frozen (p := ⟨b, o, none⟩) h⟩

theorem ret_int {k : IntKind} {a b : Int} (h : a = b) : Ending.returned (.int k a) = .returned (.int k b) := by rw [h]
theorem ret2_int {k : IntKind} {a b : Int} {v : Value} (h : a = b) : Ending.returned (.tuple #[.int k a, v]) = .returned (.tuple #[.int k b, v]) := by rw [h]
theorem ret_true {b : Bool} (h : b = true) : Ending.returned (.bool b) = .returned (.bool true) := by rw [h]

/-- A callee that leaves the world alone, inside a region that only reads. -/
theorem quiet_add_left {P : Program} {f : FuncId} {args : Array Value} {w : World} {a n : Nat} {v : Value}
    (h : Calls P f args (w.drewN (a + n)) fun e w' => e = .returned v ∧ w.drewN (a + n) = w') :
    Calls P f args (w.drewN (a + n)) fun e w'' => e = .returned v ∧ ∃ m, w'' = w.drewN (a + m) :=
  h.mono fun _ _ ⟨he, hm⟩ => ⟨he, n, hm.symm⟩
theorem quiet_left {P : Program} {f : FuncId} {args : Array Value} {w : World} {n : Nat} {v : Value}
    (h : Calls P f args (w.drewN n) fun e w' => e = .returned v ∧ w.drewN n = w') : Calls P f args (w.drewN n) fun e w'' => e = .returned v ∧ ∃ m, w'' = w.drewN m :=
  h.mono fun _ _ ⟨he, hm⟩ => ⟨he, n, hm.symm⟩

/-! ### What the reading of an argument says. -/
theorem wf_i64 {n : Int} (h : (Lit.int .i64 n).wf = true) : -9223372036854775808 ≤ n ∧ n ≤ 9223372036854775807 := by simpa [Lit.wf, IntKind.min, IntKind.max, IntKind.signed, IntKind.bits] using h
theorem wf_i32 {n : Int} (h : (Lit.int .i32 n).wf = true) : -2147483648 ≤ n ∧ n ≤ 2147483647 := by simpa [Lit.wf, IntKind.min, IntKind.max, IntKind.signed, IntKind.bits] using h
theorem wf_i16 {n : Int} (h : (Lit.int .i16 n).wf = true) : -32768 ≤ n ∧ n ≤ 32767 := by simpa [Lit.wf, IntKind.min, IntKind.max, IntKind.signed, IntKind.bits] using h
theorem wf_u8 {n : Int} (h : (Lit.int .u8 n).wf = true) : 0 ≤ n ∧ n ≤ 255 := by simpa [Lit.wf, IntKind.min, IntKind.max, IntKind.signed, IntKind.bits] using h
theorem wf_u16 {n : Int} (h : (Lit.int .u16 n).wf = true) : 0 ≤ n ∧ n ≤ 65535 := by simpa [Lit.wf, IntKind.min, IntKind.max, IntKind.signed, IntKind.bits] using h
theorem wf_u32 {n : Int} (h : (Lit.int .u32 n).wf = true) : 0 ≤ n ∧ n ≤ 4294967295 := by simpa [Lit.wf, IntKind.min, IntKind.max, IntKind.signed, IntKind.bits] using h

open Go.ChangeShapes Go.WideShapes in
theorem ints_of_trod {H : Type} {enc : TypeId × Value → H} {P : Program} {W : World} {t e : TypeId} {k : IntKind} {a : Option Addr} {len cap : Nat} {d : DataW H} {p : List MemPlace} {base : Nat} {sp : Nat → Bool} {hd : Bool}
    (ht : P.underlying t = some (.slice e)) (he : P.underlying e = some (.int k)) (hce : P.cellsOf e = 1)
    (h : DataW.Trod enc P W base sp hd t (.slice a len cap) d p) :
    ∃ zs, Ints k W a len cap zs ∧ ∀ n ∈ zs, (Lit.int k n).wf = true := by
  obtain ⟨fuel, hf⟩ := h
  rcases open_ints ht he hce hf with ⟨hcs, _⟩ | ⟨x, l, c, zs, hcs, _, hl, hm, hz, hx, hcell, hwz⟩
  · simp [Value.cells] at hcs
    obtain ⟨rfl, rfl, rfl⟩ := hcs
    exact ⟨[], Ints.nil, by simp⟩
  · simp [Value.cells] at hcs
    obtain ⟨rfl, rfl, rfl⟩ := hcs
    obtain ⟨b, off, spot⟩ := x
    have hlz : len ≤ zs.length := by rw [hz]; split <;> omega
    refine ⟨zs.take len, ⟨by rw [List.length_take]; omega, hl, hm, fun hn => ?_⟩, fun n hn => hwz n (List.mem_of_mem_take hn)⟩
    have h0 := hcell 0 (by omega)
    have hspot : spot = none := by simpa [Addr.add] using World.cell?_spot h0
    subst hspot
    refine ⟨b, off, rfl, by simpa [Addr.add] using World.block_lt_of_cell? _ _ h0, fun j hj => ?_⟩
    have h1 := hcell j (by omega)
    have h2 : (⟨b, off, none⟩ : Addr).add j = ⟨b, off + j, none⟩ := by unfold Addr.add; split <;> simp_all
    rw [h2] at h1
    rw [h1]
    simp [List.getD_eq_getElem?_getD, hj]
end Go.Proofs.YtbnjgbllenndaaaGreatDoor.M
