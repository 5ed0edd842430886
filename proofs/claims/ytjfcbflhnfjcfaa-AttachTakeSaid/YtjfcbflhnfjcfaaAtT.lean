/- Maps of sums, rows of items, and what a round of attach.Take leaves. -/
import Derived.Test.YtjfcbflhnfjcfaaAtE
import Derived.Test.YtjfcbflhnfjcfaaAtWG
import Derived.Deep.RegionHeld2
import Derived.Maps.RangeWalk
namespace Go.Proofs.Ytjfcbflhnfjcfaa.W
open Go.RowKit Go.Proofs.Ytjfcbflhnfjcfaa.M Go.Proofs.Ytjfcbflhnfjcfaa.B Go.Proofs.Ytjfcbflhnfjcfaa.S
open Go.Maps (Keyed)
set_option linter.unusedVariables false

def idat (x : Int) : DataW Unit := .lit (.int .i64 x)
def iR : Value → Option (DataW Unit × List MemPlace)
  | .int .i64 a => some (idat a, [])
  | _ => none
theorem reads_i : Reads (Value.int .i64) idat iR where
  enc := fun x => rfl
  inv := fun v z h => by
    unfold iR at h
    split at h
    · injection h with h; exact ⟨_, rfl, h.symm⟩
    · cases h
  inj := fun x y h => by unfold idat at h; injection h with h; injection h
theorem zeroInt (w : World) : (zeroValue 22).run Try.prog w = .ok (.int .i64 0) w := by kernel_rfl
abbrev MapP (w : World) (b n : Nat) (f : Mp) : Prop := MapIs Try.prog 9 idat iR w b n f
theorem was_getD (f : Mp) (s : ByteArray) : (f s).getD 0 = was f s := rfl
theorem readP_map {w : World} {b n : Nat} {f : Mp} (h : MapP w b n f) : ReadP w (some b) f := fun wx hb s hs =>
  have h' := h.next hb h.lt
  ⟨h'.look reads_i kStr Try.underlying9 Try.underlying29 (zeroInt wx) hs, h'.look_ok reads_i kStr Try.underlying9 Try.underlying29 (zeroInt wx) hs⟩
theorem readP_nil (w : World) : ReadP w none (fun _ => none) := fun wx hb s hs =>
  ⟨look_nil (c := false) kStr Try.underlying9 Try.underlying29 (zeroInt wx) hs, look_nil (c := true) kStr Try.underlying9 Try.underlying29 (zeroInt wx) hs⟩

theorem infoItem : (Try.prog.info? 38).map (fun i => (i.zero, i.size, i.bytes)) = some (some (.agg #[.string ByteArray.empty, .int .i64 0]), 2, 24) := by kernel_rfl
/-- The cells of items. -/
def flat : List (ByteArray × Int) → List Value
  | [] => []
  | p :: r => [.string p.1, .int .i64 p.2] ++ flat r
theorem flat_app : ∀ L M, flat (L ++ M) = flat L ++ flat M
  | [], M => rfl
  | p :: r, M => by simp [flat, flat_app r M]
/-- A row of items that the call owns. -/
def OwnL (w : World) (base : Nat) (v : Value) (L : List (ByteArray × Int)) : Prop := w.ownsRow base 38 2 v L.length (flat L)
theorem ownL_nil (w : World) (base : Nat) : OwnL w base (.slice none 0 0) [] := World.ownsRow_nil _ _ _ _
def ic (p : ByteArray × Int) : List Value := [.string p.1, .int .i64 p.2]
theorem flat_XR (L : List (ByteArray × Int)) (d : ByteArray × Int) : ∀ m, m ≤ L.length → flat (L.take m) = XR (fun j => ic (L.getD j d)) m
  | 0, _ => by simp [flat, XR]
  | m + 1, h => by
    have e : L.take (m + 1) = L.take m ++ [L.getD m d] := by
      rw [List.take_add_one]
      congr 1
      rw [List.getD_eq_getElem?_getD, List.getElem?_eq_getElem (by omega)]
      rfl
    rw [e, flat_app, flat_XR L d m (by omega)]
    show _ = XR _ m ++ _
    congr 1
theorem ownL_lst {w : World} {base : Nat} {v : Value} {L : List (ByteArray × Int)} (h : OwnL w base v L) (hL : L.length ≤ 1000) (d : ByteArray × Int) : ∃ a cap, v = .slice a L.length cap ∧ Lst 2 w a L.length (fun j => ic (L.getD j d)) := by
  have e := flat_XR L d L.length (Nat.le_refl _)
  rw [List.take_length] at e
  unfold OwnL at h
  rw [e] at h
  exact own_lst (z := 2) (fun j => rfl) h (by omega)
theorem ownblock_ne {w : World} {base : Nat} {v : Value} {L : List (ByteArray × Int)} (h : OwnL w base v L) {b : Nat} (hb : b < base) : some b ≠ v.ownBlock := fun hh => by
  have := (h.lt b hh.symm).1; omega
theorem own_base {w : World} {b b' : Nat} {v : Value} {L : List (ByteArray × Int)} (h : OwnL w b v L) (hb : b' ≤ b) : OwnL w b' v L := ⟨h.1, by
  rcases h.2 with h | ⟨g, cap, cur, h1, h2, h3⟩
  · exact .inl h
  · exact .inr ⟨g, cap, cur, h1, Nat.le_trans hb h2, h3⟩⟩

/-- What a round leaves: the sums so far, in block bo; the items so far, from B on; all else below B as it lay in w2. -/
structure TSt (W w2 : World) (bo : Nat) (wx : World) (nO : Nat) (f : Mp) (v : Value) (L : List (ByteArray × Int)) : Prop where
  bel : Below W.heap.size W wx
  top : w2.heap.size ≤ wx.heap.size
  old : ∀ k, k < w2.heap.size → k ≠ bo → wx.heap[k]? = w2.heap[k]?
  o : MapP wx bo nO f
  r : OwnL wx w2.heap.size v L
  lo : W.heap.size ≤ bo
  hi : bo < w2.heap.size

section
variable {W w2 : World} {bo : Nat} {wx w' : World} {nO : Nat} {f : Mp} {v : Value} {L : List (ByteArray × Int)}
theorem TSt.below (h : TSt W w2 bo wx nO f v L) (hb : Below wx.heap.size wx w') : TSt W w2 bo w' nO f v L :=
  ⟨bstep h.bel hb, Nat.le_trans h.top hb.size, fun k hk hne => (hb.block k (Nat.lt_of_lt_of_le hk h.top)).trans (h.old k hk hne), h.o.next hb h.o.lt, own_below h.r hb, h.lo, h.hi⟩
theorem TSt.put (h : TSt W w2 bo wx nO f v L) (ht : wx.mapTurned w' bo) {nO' : Nat} {f' : Mp} (ho : MapP w' bo nO' f') : TSt W w2 bo w' nO' f' v L :=
  have hg := ht.grown
  ⟨h.bel.grown hg h.bel.size (fun k hk => by cases hk; exact h.lo), Nat.le_trans h.top hg.size, fun k hk hne => (hg.block k (Nat.lt_of_lt_of_le hk h.top) (fun hh => hne (by injection hh))).trans (h.old k hk hne), ho,
    h.r.kept hg (.inr (fun hh => ownblock_ne h.r h.hi hh.symm)), h.lo, h.hi⟩
theorem TSt.app (h : TSt W w2 bo wx nO f v L) {v' : Value} {L' : List (ByteArray × Int)} (hg : wx.grownBy w' v.ownBlock) (ho : OwnL w' w2.heap.size v' L') : TSt W w2 bo w' nO f v' L' :=
  ⟨h.bel.grown hg h.bel.size (fun k hk => by have := (h.r.lt k hk).1; have := h.lo; have := h.hi; omega), Nat.le_trans h.top hg.size, fun k hk hne => (hg.block k (Nat.lt_of_lt_of_le hk h.top) (ownblock_ne h.r hk)).trans (h.old k hk hne), h.o.kept hg (ownblock_ne h.r h.hi), ho, h.lo, h.hi⟩
/-- The served orders lie as they lay. -/
theorem TSt.lst (h : TSt W w2 bo wx nO f v L) {a : Option Addr} {n : Nat} {c : Nat → List Value} (hl : Lst 6 w2 a n c) (hb : ∀ x, a = some x → bo < x.block) : Lst 6 wx a n c :=
  ⟨hl.1, fun hn => by
    obtain ⟨b, off, ha, hlt, hc⟩ := hl.2 hn
    have := hb _ ha
    exact ⟨b, off, ha, Nat.lt_of_lt_of_le hlt h.top, fun j hj i u hu => (World.cell?_of_block (a := ⟨b, off + j * 6 + i, none⟩) (h.old b hlt (by simp only at this; omega))).trans (hc j hj i u hu)⟩⟩
end

/-- What Take answers. -/
def TakeOut (M : Nat) (er : Int) (net : Int) (g : Mp) (S : Nat → Ord) (n : Nat) (W : World) (e : Ending) (w' : World) : Prop :=
  Below W.heap.size W w' ∧
  if er = 0 then ∃ v b N, e = .returned (.tuple #[v, .map (some b), .int .i64 0]) ∧ W.heap.size ≤ b ∧ OwnL w' W.heap.size v (itemsK net g (srvO S n) n) ∧ MapP w' b N (outK net g (srvO S n) n) ∧ N ≤ M
  else e = .returned (.tuple #[.slice none 0 0, .map none, .int .i64 er])
theorem take_bad {M : Nat} {er net : Int} {g : Mp} {S : Nat → Ord} {n : Nat} {W w' : World} (r : Int) (hr : r ≠ 0) (he : er = r) (hb : Below W.heap.size W w') : TakeOut M er net g S n W (.returned (.tuple #[.slice none 0 0, .map none, .int .i64 r])) w' :=
  ⟨hb, by rw [he, if_neg hr]⟩
theorem take_good {M : Nat} {er net : Int} {g : Mp} {S : Nat → Ord} {n : Nat} {W w2 w' : World} {bo N : Nat} {v : Value} (he : er = 0) (h : TSt W w2 bo w' N (outK net g (srvO S n) n) v (itemsK net g (srvO S n) n)) (hN : N ≤ M) : TakeOut M er net g S n W (.returned (.tuple #[v, .map (some bo), .int .i64 0])) w' :=
  ⟨h.bel, by rw [if_pos he]; exact ⟨v, bo, N, rfl, h.lo, own_base h.r (by have := h.lo; have := h.hi; omega), h.o, hN⟩⟩
theorem takeErr_net {net : Int} {g : Mp} {S : Nat → Ord} {n : Nat} (h : ¬ fit net) : takeErr net g S n = 2 := by unfold takeErr; rw [if_pos h]
theorem takeErr_chk {net : Int} {g : Mp} {S : Nat → Ord} {n : Nat} (h : fit net) (hc : check S n ≠ 0) : takeErr net g S n = check S n := by unfold takeErr; rw [if_neg (by simpa using h), if_pos hc]
theorem takeErr_run {net : Int} {g : Mp} {S : Nat → Ord} {n : Nat} (h : fit net) (hc : check S n = 0) : takeErr net g S n = terr net g (srvO S n) n := by unfold takeErr; rw [if_neg (by simpa using h), if_neg (by simpa using hc)]
end Go.Proofs.Ytjfcbflhnfjcfaa.W
