/- The walk of social.All's helper: an item more, unless it is of nothing. -/
import Derived.Test.YtdmkjdlneadkcaaSocB
import Derived.Test.YtdmkjdlneadkcaaSocXS
import Derived.Test.YtdmkjdlneadkcaaLst
import Derived.Deep.RegionHeld2
namespace Go.Proofs.Ytdmkjdlneadkcaa.W
open Go.RowKit Go.Proofs.Ytdmkjdlneadkcaa.M Go.Proofs.Ytdmkjdlneadkcaa.B Go.Proofs.Ytdmkjdlneadkcaa.S
set_option linter.unusedVariables false

theorem infoItem : (Try.prog.info? 50).map (fun i => (i.zero, i.size, i.bytes)) = some (some (.agg #[.string ByteArray.empty, .int .i64 0]), 2, 24) := by kernel_rfl
/-- The cells of items. -/
def flat : List (ByteArray × Int) → List Value
  | [] => []
  | p :: r => [.string p.1, .int .i64 p.2] ++ flat r
theorem flat_app : ∀ L M, flat (L ++ M) = flat L ++ flat M
  | [], M => rfl
  | p :: r, M => by simp [flat, flat_app r M]
/-- A row of items that the call owns. -/
def OwnL (w : World) (base : Nat) (v : Value) (L : List (ByteArray × Int)) : Prop := w.ownsRow base 50 2 v L.length (flat L)
theorem ownL_nil (w : World) (base : Nat) : OwnL w base (.slice none 0 0) [] := World.ownsRow_nil _ _ _ _

def PutOut (base : Nat) (v : Value) (L : List (ByteArray × Int)) (s : ByteArray) (c : Int) (W : World) (e : Ending) (w' : World) : Prop :=
  ∃ v', e = .returned v' ∧ OwnL w' base v' (putL L s c) ∧ W.grownBy w' v.ownBlock ∧ (v'.ownBlock = v.ownBlock ∨ ∃ g, v'.ownBlock = some g ∧ W.heap.size ≤ g)

theorem put_is (base : Nat) (v : Value) (L : List (ByteArray × Int)) (s : ByteArray) (c : Int) (W : World) (hown : OwnL W base v L) (hL : L.length ≤ 100) (hb : base ≤ W.heap.size) :
    Calls Try.prog 29 #[v, .string s, .int .i64 c] W (PutOut base v L s c W) := by
  by_cases h0 : c = 0
  · subst h0
    go_enter Try.func29, Try.ntmps29
    go_wp2
    go_ret
    exact ⟨v, rfl, by unfold putL; rw [if_pos rfl]; exact hown, World.grownBy.refl _ _, .inl rfl⟩
  · obtain ⟨i, hi, hz0, hz1, hz2⟩ := info_parts infoItem
    have hown1 : (W.alloc (.cells #[.string s, .int .i64 c] 50)).ownsRow base 50 2 v L.length (flat L) := hown.alloc _
    have hnews : ∀ j u, [Value.string s, .int .i64 c][j]? = some u → (W.alloc (.cells #[.string s, .int .i64 c] 50)).cell? ((⟨W.heap.size, 0, none⟩ : Addr).add j) = some u :=
      World.news_of_block (block_alloc_last W (.cells #[.string s, .int .i64 c] 50 (0, 0)))
    have hlt := hown.lt
    have h0' : decide (c = 0) = false := decide_eq_false h0
    go_enter Try.func29, Try.ntmps29
    go_wp2_with (at_builtin; refine wpList_append_lies _ rfl _ _ 47 rfl base 50 i (.agg #[.string ByteArray.empty, .int .i64 0]) 2 24 Try.underlying47 hi hz0 hz1 hz2 rfl (by decide) v L.length (flat L) rfl hown1 ⟨W.heap.size, 0, none⟩ 1 1 [.string s, .int .i64 c] rfl rfl hnews (by intro u hu; simp at hu; rcases hu with rfl | rfl <;> rfl) (by decide) (by unfold maxLen; omega) (by omega) (by simp; omega) _ rfl ?_)
    intro g cap w1 hown2 hgr hat hglt
    go_wp2
    go_ret
    refine ⟨_, rfl, ?_, grown_alloc hgr (fun j hj => (hlt j hj).2), ?_⟩
    · unfold putL OwnL; rw [if_neg h0, flat_app]; simpa [flat] using hown2
    · rcases hat with h | h
      · exact .inl h.symm
      · exact .inr ⟨g, rfl, by rw [h]; simp⟩
end Go.Proofs.Ytdmkjdlneadkcaa.W
