/- The walk of social.All, where no sums were before. -/
import Derived.Test.YtdmkjdlneadkcaaSocX
namespace Go.Proofs.Ytdmkjdlneadkcaa.W
open Go.RowKit Go.Proofs.Ytdmkjdlneadkcaa.M Go.Proofs.Ytdmkjdlneadkcaa.B Go.Proofs.Ytdmkjdlneadkcaa.S
open Go.Maps (Keyed)
set_option linter.unusedVariables false

theorem kStr : Keyed Try.prog 9 := Go.Maps.string_keyed Try.underlying9
theorem zeroSums (w : World) : (zeroValue 24).run Try.prog w = .ok (sval (0, 0, 0, 0)) w := by kernel_rfl
theorem zeroBool (w : World) : (zeroValue 4).run Try.prog w = .ok (.bool false) w := by kernel_rfl
theorem readsB : Reads Value.bool (fun x => DataW.lit (.bool x)) (plainElem Try.prog 4) := reads_bool Try.underlying4
abbrev MapS (w : World) (b n : Nat) (f : ByteArray → Option Sm) : Prop := MapIs Try.prog 9 sdat sR w b n f
abbrev MapB (w : World) (b n : Nat) (f : ByteArray → Option Bool) : Prop := MapIs Try.prog 9 (fun x => DataW.lit (.bool x)) (plainElem Try.prog 4) w b n f

/-- The cells of a scheme. -/
def scells (x : Sch) : List Value := [.string x.code, .int .i64 x.wr, .int .i64 x.fr, .int .i64 x.ce]

/-- What a round leaves: two maps, two rows of items. -/
structure St (W : World) (B bo bm : Nat) (wx : World) (nO nM : Nat) (f : ByteArray → Option Sm) (m : ByteArray → Option Bool) (v1 v2 : Value) (L1 L2 : List (ByteArray × Int)) : Prop where
  bel : Below W.heap.size W wx
  top : B ≤ wx.heap.size
  o : MapS wx bo nO f
  m : MapB wx bm nM m
  r1 : OwnL wx B v1 L1
  r2 : OwnL wx B v2 L2
  two : Two v1 v2
  pos : W.heap.size ≤ bo ∧ bo < B ∧ W.heap.size ≤ bm ∧ bm < B ∧ bo ≠ bm

section
variable {W : World} {B bo bm : Nat} {wx w' : World} {nO nM : Nat} {f : ByteArray → Option Sm} {m : ByteArray → Option Bool} {v1 v2 : Value} {L1 L2 : List (ByteArray × Int)}
theorem St.below (h : St W B bo bm wx nO nM f m v1 v2 L1 L2) (hb : Below wx.heap.size wx w') : St W B bo bm w' nO nM f m v1 v2 L1 L2 :=
  ⟨bstep h.bel hb, Nat.le_trans h.top hb.size, h.o.next hb h.o.lt, h.m.next hb h.m.lt, own_below h.r1 hb, own_below h.r2 hb, h.two, h.pos⟩
theorem ownblock_ne {w : World} {base : Nat} {v : Value} {L : List (ByteArray × Int)} (h : OwnL w base v L) {b : Nat} (hb : b < base) : some b ≠ v.ownBlock := fun hh => by
  have := (h.lt b hh.symm).1; omega
theorem St.putM (h : St W B bo bm wx nO nM f m v1 v2 L1 L2) (ht : wx.mapTurned w' bm) {nM' : Nat} {m' : ByteArray → Option Bool} (hm : MapB w' bm nM' m') : St W B bo bm w' nO nM' f m' v1 v2 L1 L2 :=
  have hg := ht.grown
  ⟨h.bel.grown hg h.bel.size (fun k hk => by cases hk; exact h.pos.2.2.1), Nat.le_trans h.top hg.size, h.o.kept hg (fun hh => h.pos.2.2.2.2 (by injection hh)), hm,
    h.r1.kept hg (.inr (fun hh => ownblock_ne h.r1 h.pos.2.2.2.1 hh.symm)), h.r2.kept hg (.inr (fun hh => ownblock_ne h.r2 h.pos.2.2.2.1 hh.symm)), h.two, h.pos⟩
theorem St.putO (h : St W B bo bm wx nO nM f m v1 v2 L1 L2) (ht : wx.mapTurned w' bo) {nO' : Nat} {f' : ByteArray → Option Sm} (ho : MapS w' bo nO' f') : St W B bo bm w' nO' nM f' m v1 v2 L1 L2 :=
  have hg := ht.grown
  ⟨h.bel.grown hg h.bel.size (fun k hk => by cases hk; exact h.pos.1), Nat.le_trans h.top hg.size, ho, h.m.kept hg (fun hh => h.pos.2.2.2.2 (by injection hh with h1; exact h1.symm)),
    h.r1.kept hg (.inr (fun hh => ownblock_ne h.r1 h.pos.2.1 hh.symm)), h.r2.kept hg (.inr (fun hh => ownblock_ne h.r2 h.pos.2.1 hh.symm)), h.two, h.pos⟩
theorem two_put {u v v' : Value} {H : Nat} {w : World} {base : Nat} {L : List (ByteArray × Int)} (h : Two u v) (hu : OwnL w base u L) (hH : w.heap.size ≤ H) (hv : v'.ownBlock = v.ownBlock ∨ ∃ g, v'.ownBlock = some g ∧ H ≤ g) : Two u v' := fun b hb => by
  rcases hv with hv | ⟨g, hg, hle⟩
  · rw [hv]; exact h b hb
  · rw [hg]; intro hh
    injection hh with hh
    have := (hu.lt b hb).2; omega
theorem St.put1 (h : St W B bo bm wx nO nM f m v1 v2 L1 L2) {v' : Value} {L' : List (ByteArray × Int)} (hg : wx.grownBy w' v1.ownBlock) (ho : OwnL w' B v' L') (hv : v'.ownBlock = v1.ownBlock ∨ ∃ g, v'.ownBlock = some g ∧ wx.heap.size ≤ g) : St W B bo bm w' nO nM f m v' v2 L' L2 :=
  have hB : W.heap.size ≤ B := by have := h.pos; omega
  ⟨h.bel.grown hg h.bel.size (fun k hk => by have := (h.r1.lt k hk).1; omega), Nat.le_trans h.top hg.size, h.o.kept hg (ownblock_ne h.r1 h.pos.2.1), h.m.kept hg (ownblock_ne h.r1 h.pos.2.2.2.1), ho,
    h.r2.kept hg (by
      cases e : v2.ownBlock with
      | none => exact .inl rfl
      | some b => right; intro hh; exact h.two b hh.symm e), (two_put h.two.symm h.r2 (Nat.le_refl _) hv).symm, h.pos⟩
theorem St.put2 (h : St W B bo bm wx nO nM f m v1 v2 L1 L2) {v' : Value} {L' : List (ByteArray × Int)} (hg : wx.grownBy w' v2.ownBlock) (ho : OwnL w' B v' L') (hv : v'.ownBlock = v2.ownBlock ∨ ∃ g, v'.ownBlock = some g ∧ wx.heap.size ≤ g) : St W B bo bm w' nO nM f m v1 v' L1 L' :=
  have hB : W.heap.size ≤ B := by have := h.pos; omega
  ⟨h.bel.grown hg h.bel.size (fun k hk => by have := (h.r2.lt k hk).1; omega), Nat.le_trans h.top hg.size, h.o.kept hg (ownblock_ne h.r2 h.pos.2.1), h.m.kept hg (ownblock_ne h.r2 h.pos.2.2.2.1),
    h.r1.kept hg (by
      cases e : v1.ownBlock with
      | none => exact .inl rfl
      | some b => right; intro hh; exact h.two b e hh.symm), ho, two_put h.two h.r1 (Nat.le_refl _) hv, h.pos⟩
end

/-- The map that All answers with: what it has of a text, how many texts it has. -/
def Has (w : World) (ma : Option Nat) (N : Nat) (F : ByteArray → Option Sm) : Prop :=
  ∀ wx, Below w.heap.size w wx → (∀ s : ByteArray, s.size ≤ maxLen → (Instr.lookup 46 (.map ma) (.string s) false).run Try.prog wx = .ok (sval ((F s).getD (0, 0, 0, 0))) wx ∧
    (Instr.lookup 46 (.map ma) (.string s) true).run Try.prog wx = .ok (.tuple #[sval ((F s).getD (0, 0, 0, 0)), .bool (F s).isSome]) wx) ∧
    ∀ ty, (Builtin.len_ #[46] ty #[.map ma]).run Try.prog wx = .ok (.int .i64 N) wx
theorem has_nil (w : World) : Has w none 0 (fun _ => none) := fun wx hb =>
  ⟨fun s hs => ⟨look_nil kStr Try.underlying9 Try.underlying46 (zeroSums wx) hs, look_nil kStr Try.underlying9 Try.underlying46 (zeroSums wx) hs⟩, fun ty => Maps.len_nil Try.underlying46 ty⟩
theorem has_map {w : World} {b n : Nat} {f : ByteArray → Option Sm} (h : MapS w b n f) : Has w (some b) n f := fun wx hb =>
  have h' := h.next hb h.lt
  ⟨fun s hs => ⟨h'.look reads_sum kStr Try.underlying9 Try.underlying46 (zeroSums wx) hs, h'.look_ok reads_sum kStr Try.underlying9 Try.underlying46 (zeroSums wx) hs⟩, fun ty => h'.len Try.underlying46 ty⟩

/-- What All answers. -/
def AllOut (er : Int) (N : Nat) (F : ByteArray → Option Sm) (L1 L2 : List (ByteArray × Int)) (W : World) (e : Ending) (w' : World) : Prop :=
  ∃ ma v1 v2, e = .returned (.tuple #[.map ma, v1, v2, .int .i64 er]) ∧ Below W.heap.size W w' ∧ Has w' ma N F ∧ OwnL w' W.heap.size v1 L1 ∧ OwnL w' W.heap.size v2 L2
theorem all_bad (er : Int) {W w' : World} (h : Below W.heap.size W w') : AllOut er 0 (fun _ => none) [] [] W (.returned (.tuple #[.map none, .slice none 0 0, .slice none 0 0, .int .i64 er])) w' :=
  ⟨_, _, _, rfl, h, has_nil w', ownL_nil _ _, ownL_nil _ _⟩
theorem own_base {w : World} {b b' : Nat} {v : Value} {L : List (ByteArray × Int)} (h : OwnL w b v L) (hb : b' ≤ b) : OwnL w b' v L := ⟨h.1, by
  rcases h.2 with h | ⟨g, cap, cur, h1, h2, h3⟩
  · exact .inl h
  · exact .inr ⟨g, cap, cur, h1, Nat.le_trans hb h2, h3⟩⟩
theorem all_good {W w' : World} {B bo bm nO nM : Nat} {f : ByteArray → Option Sm} {m : ByteArray → Option Bool} {v1 v2 : Value} {L1 L2 : List (ByteArray × Int)} (h : St W B bo bm w' nO nM f m v1 v2 L1 L2) :
    AllOut 0 nO f L1 L2 W (.returned (.tuple #[.map (some bo), v1, v2, .int .i64 0])) w' :=
  ⟨_, _, _, rfl, h.bel, has_map h.o, own_base h.r1 (by have := h.pos; omega), own_base h.r2 (by have := h.pos; omega)⟩
end Go.Proofs.Ytdmkjdlneadkcaa.W
