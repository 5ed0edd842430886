/- The facts of a person's salary, as a line. -/
import Derived.Test.YtbnjgbllenndaaaGreatDoorTkJ
import Derived.Test.YtbnjgbllenndaaaGreatDoorTkF
import Derived.Lib.OwnBridge
import Derived.WalkLawsBesides
namespace Go.Proofs.YtbnjgbllenndaaaGreatDoor.W
open Go.RowKit Go.Proofs.YtbnjgbllenndaaaGreatDoor.M Go.Proofs.YtbnjgbllenndaaaGreatDoor.S
set_option linter.unusedVariables false

theorem wpList_append_lst {P : Program} {w : World} {ops : Array Oper} {rest : List Oper} {o : Oper} {a : Act} {Q : Exit → Act → World → Prop} (hgd : o.guard = none) (s x : Operand) (t : TypeId)
    (ho : o.op = .call { callee := .builtin .append, args := #[s, x], argTypes := #[t, t] })
    (base : Nat) (e : TypeId) (i : TypeInfo) (z0 : Value) (z bytes : Nat) (ht : P.underlying t = some (.slice e)) (hi : P.info? e = some i) (hz : i.zero = some z0)
    (hsize : i.size = z) (hby : i.bytes = bytes) (hzs : z0.cells.size = z) (hp : 0 < z)
    (v : Value) (m : Nat) (ys : List Value) (hs : a.eval s = v) (hown : w.ownsRow base e z v m ys)
    (ad : Option Addr) (n cap : Nat) (c : Nat → List Value) (hc : ∀ j, (c j).length = z) (hone : ∀ j, ∀ u ∈ c j, u.oneCell' = true) (hx : a.eval x = .slice ad n cap) (hI : Lst z w ad n c) (hnil : ad = none → n = 0 ∧ cap = 0) (h63 : m + n ≤ maxLen) (hbytes : (m + n) * bytes ≤ 140737488355328) (hbase : base ≤ w.heap.size)
    (h : ∀ v' w', w'.ownsRow base e z v' (m + n) (ys ++ XR c n) → w.grownBy w' v.ownBlock → wpList P ops Q rest (a.put o.dst v') w') :
    wpList P ops Q (o :: rest) a w := by
  refine wpList_plain hgd fun K' hK' => ?_
  obtain ⟨v', w', hr, h2, h3⟩ := run_append_lst (P := P) base t o.type e i z0 z bytes ht hi hz hsize hby hzs hp v m ys hown ad n cap c hc hone hI hnil h63 hbytes hbase
  unfold Oper.wp execOp
  simp only [ho, resolve, invoke, builtin, Sem.run_bind, Sem.run_pure, Result.andThen_ok, List.map_toArray, List.map_cons, List.map_nil, hs, hx, hr]
  exact hK' _ _ (h v' w' h2 h3)
theorem facts_is (F : Nat → Fc) (n : Nat) (hn : n ≤ 100) (hF : Kinds F n) (a : Option Addr) (W : World) (hl : Lst 8 W a n (fun j => fcl (F j))) (p : Int) :
    Calls Tryz.prog 9 #[.agg #[.slice a n n], .int .u32 p, .int .i64 2] W (KOut (sel F (bkf F n n) p n) W) := by
  have hB := balloc (balloc (balloc (Below.refl W.heap.size W) (.cells #[.slice a n n] 46)) (.cells #[.int .u32 p] 23)) (.cells #[.int .i64 2] 3)
  have HT := Lib.hid (those_is F n hn hF a (((W.alloc (.cells #[.slice a n n] 46)).alloc (.cells #[.int .u32 p] 23)).alloc (.cells #[.int .i64 2] 3)) (hl.step hB) (W.heap.size + 1) (W.heap.size + 1 + 1) p (by go_simp) (by go_simp) (by simp) (by simp))
  have HB := Lib.hid hB
  clear hl hF hB
  go_enter Tryz.func9, Tryz.ntmps9
  go_wp2_with fail
  refine HT.out.mono ?_
  rintro e w1 ⟨a', cap', rfl, hl', hn', hb'⟩
  have HZ := Lib.hid (And.intro hl' (And.intro hn' (bstep HB.out hb')))
  clear hl' hn' hb'
  go_wp2_with fail
  go_ret
  exact ⟨a', cap', rfl, HZ.out.1, HZ.out.2.1, HZ.out.2.2⟩
theorem kcl_one (x : Nat × Fc) : ∀ u ∈ kcl x, u.oneCell' = true := by
  intro u hu
  simp [kcl, fcl] at hu
  rcases hu with rfl | rfl | rfl | rfl | rfl | rfl | rfl | rfl | rfl <;> rfl
def OfOut (xs : List (Nat × Fc)) (W : World) (e : Ending) (w' : World) : Prop := ∃ a cap, e = .returned (.agg #[.slice a xs.length cap]) ∧ Lst 9 w' a xs.length (fun j => kcl (xs.getD j (0, can 0))) ∧ Below W.heap.size W w'
theorem kclone_is (xs : List (Nat × Fc)) (hx : xs.length ≤ 100) (a : Option Addr) (cap : Nat) (W : World) (hl : Lst 9 W a xs.length (fun j => kcl (xs.getD j (0, can 0)))) (hnil : a = none → xs.length = 0 ∧ cap = 0) :
    Calls Tryz.prog 16 #[.slice a xs.length cap] W fun e w' => (∃ a' cap', e = .returned (.slice a' xs.length cap') ∧ Lst 9 w' a' xs.length (fun j => kcl (xs.getD j (0, can 0))) ∧ ∀ x, a' = some x → W.heap.size ≤ x.block) ∧ Below W.heap.size W w' := by
  have q24 : ∀ (w : World) (a : Option Addr) (n c n' c' : Nat), (binOp .eql 42 (.slice a n c) (.slice none n' c')).run Tryz.prog w = .ok (.bool a.isNone) w := fun w a n c n' c' => Lib.run_eql_slice_nil w _ _ a n c n' c' Tryz.underlying42
  obtain ⟨n, hn⟩ : ∃ n, xs.length = n := ⟨_, rfl⟩
  have HN := Lib.hid hn
  rw [hn] at hl hnil hx ⊢
  clear hn
  cases a with
  | none =>
    obtain ⟨rfl, rfl⟩ := hnil rfl
    have HL := Lib.hid hl
    clear hl hnil
    go_enter Tryz.func16, Tryz.ntmps16
    go_wp2
    go_ret
    exact ⟨⟨none, 0, rfl, HL.out, (fun x h => by cases h)⟩, Below.refl _ _⟩
  | some x =>
    obtain ⟨i, hi, hz0, hz1, hz2⟩ := info_parts infoKnown
    have HLL := Lib.hid hl
    clear hl hnil
    go_enter Tryz.func16, Tryz.ntmps16
    go_wp2_with (at_builtin; refine wpList_append_lst rfl _ _ 42 rfl W.heap.size 58 i (.agg #[.int .i64 0, .int .u32 0, .int .u32 0, .int .i64 0, .int .i64 0, .int .i64 0, .string ⟨#[]⟩, .int .i64 0, .string ⟨#[]⟩]) 9 80 Tryz.underlying42 hi hz0 hz1 hz2 rfl (by decide) _ 0 [] rfl (World.ownsRow_made W #[] 0 (Nat.le_refl _) (Nat.zero_le _) (by simp)) (some x) n cap (fun j => kcl (xs.getD j (0, can 0))) (fun j => rfl) (fun j u hu => kcl_one _ u hu) rfl (HLL.out.step (balloc (Below.refl _ _) _)) (fun h => by cases h) (by unfold maxLen; omega) (by omega) (by simp) ?_)
    intro v' w1 hown hgrow
    go_wp2
    go_ret
    have hown' : w1.ownsRow W.heap.size 58 9 v' n (XR (fun j => kcl (xs.getD j (0, can 0))) n) := by simpa using hown
    have hB : Below W.heap.size W w1 := ((Below.refl _ W).alloc (Nat.le_refl _) _).grown hgrow (by simp) (by intro k hk; simp [Value.ownBlock] at hk; omega)
    obtain ⟨a', cap', rfl, hlz⟩ := own_lst (z := 9) (fun j => rfl) hown' (by omega)
    exact ⟨⟨a', cap', rfl, hlz, fun y hy => by subst hy; exact (hown'.lt y.block rfl).1⟩, hB⟩
theorem of_is (xs : List (Nat × Fc)) (hx : xs.length ≤ 100) (a : Option Addr) (cap : Nat) (W : World) (hl : Lst 9 W a xs.length (fun j => kcl (xs.getD j (0, can 0)))) (hnil : a = none → xs.length = 0 ∧ cap = 0) :
    Calls Tryz.prog 7 #[.slice a xs.length cap] W (OfOut xs W) := by
  have hB := balloc (Below.refl W.heap.size W) (.cells #[.slice none 0 0] 44)
  have HC := Lib.hid (kclone_is xs hx a cap _ (hl.step hB) hnil)
  have x0 : (W.alloc (.cells #[.slice none 0 0] 44)).cell? ⟨W.heap.size, 0, none⟩ = some (.slice none 0 0) := by simp
  have xf : (W.alloc (.cells #[.slice none 0 0] 44)).frozen? ⟨W.heap.size, 0, none⟩ = false := World.frozen?_alloc_at _ _ _ _ rfl
  have xl : W.heap.size < (W.alloc (.cells #[.slice none 0 0] 44)).heap.size := by simp
  have HX := Lib.hid (And.intro x0 (And.intro xf (And.intro xl hB)))
  clear x0 xf xl hB hl hnil
  obtain ⟨n, hn⟩ : ∃ n, xs.length = n := ⟨_, rfl⟩
  have HN := Lib.hid hn
  rw [hn] at HC ⊢
  clear hn
  go_enter Tryz.func7, Tryz.ntmps7
  go_wp2_with fail
  refine HC.out.mono ?_
  rintro e w1 ⟨⟨a', cap', rfl, hl', hf'⟩, hb'⟩
  have y0 := bc hb' HX.out.2.2.1 HX.out.1
  have yf := bf hb' HX.out.2.2.1 HX.out.2.1
  have hne : ∀ x, a' = some x → x.block ≠ W.heap.size := fun x hx => by have := hf' x hx; have := HX.out.2.2.1; omega
  have HLZ := Lib.hid (hl'.set (p := ⟨W.heap.size, 0, none⟩) hne (.slice a' n cap'))
  have HBZ : Hid (Below W.heap.size W (w1.setCell ⟨W.heap.size, 0, none⟩ (.slice a' n cap'))) := (bstep HX.out.2.2.2 hb').setCell (p := ⟨W.heap.size, 0, none⟩) (Nat.le_refl _) _
  have z0 : (w1.setCell ⟨W.heap.size, 0, none⟩ (.slice a' n cap')).cell? ⟨W.heap.size, 0, none⟩ = some (.slice a' n cap') := World.cell?_setCell_same _ _ _ y0
  clear hl' hf' hb' hne
  go_wp2_with fail
  exact bodyPost_ret (v := .agg #[.slice a' n cap']) (by simp [results, Tryz.results7, go_sem, z0]) rfl ⟨a', cap', by rw [HN.out], by rw [HN.out]; exact HLZ.out, HBZ.out⟩
end Go.Proofs.YtbnjgbllenndaaaGreatDoor.W
