/- The lines of a map's amounts that aren't 0, in order: delta.lines. -/
import Derived.Test.YtnakcmliopcabaaTeO
import Derived.Test.YtnakcmliopcabaaTeP
namespace Go.Proofs.Ytnakcmliopcabaa.W
open Go.RowKit Go.Lib Go.Sort Go.Proofs Go.Shelf Go.Proofs.Ytnakcmliopcabaa.M Go.Proofs.Ytnakcmliopcabaa.S
open Go.Maps (Keyed)
set_option linter.unusedVariables false

theorem len_zero (w : World) : Calls Try.prog 36 #[.int .u64 0] w fun e w' => e = .returned (.int .i64 0) ∧ w' = w := by
  have h := Any.bits_Len (SlLaysF0.n15.bits (P := Try.prog) (ρ := Z.lineRen) { Z.lineAt with }) 0 w (by omega) (by omega)
  exact h
theorem sort_nil (w : World) : Calls Try.prog 37 #[.slice none 0 0, .func (.func 38) #[] #[]] w fun e w' => e = .returned (.tuple #[]) ∧ w = w' := by
  have hi : ∀ W, Calls Try.prog 60 #[.slice none 0 0, .int .i64 0, .int .i64 0, .func (.func 38) #[] #[]] W fun e w' => e = .returned (.tuple #[]) ∧ W = w' := fun W => by
    go_enter Try.func60, Try.ntmps60
    go_wp2_with fail
    go_loop [8] (fun s8 => s8 = .int .i64 1) (fun _ => 0)
    case atStart => rfl
    case round =>
      obtain rfl := hrel
      go_wp2_with fail
      go_end0
      exact ⟨rfl, rfl⟩
  have hs : ∀ W, Calls Try.prog 53 #[.slice none 0 0, .int .i64 0, .int .i64 0, .int .i64 0, .func (.func 38) #[] #[]] W fun e w' => e = .returned (.tuple #[]) ∧ W = w' := fun W => by
    have HI := Lib.hid hi
    clear hi
    go_enter Try.func53, Try.ntmps53
    go_wp2_with fail
    go_loop [1, 2, 3, 10, 11] (fun s1 s2 s3 _ _ => s1 = .int .i64 0 ∧ s2 = .int .i64 0) (fun _ _ _ _ _ => 0)
    case atStart => exact ⟨rfl, rfl⟩
    case round =>
      obtain ⟨rfl, rfl⟩ := hrel
      go_wp2_with fail
      refine (HI.out _).mono ?_
      rintro e w' ⟨rfl, rfl⟩
      go_wp2_with fail
      exact bodyPost_ret (results_none rfl _ _ _) rfl ⟨rfl, rfl⟩
  have HS := Lib.hid hs
  have HL := Lib.hid len_zero
  clear hs hi
  go_enter Try.func37, Try.ntmps37
  go_wp2_with fail
  refine (HL.out _).mono ?_
  rintro e w' ⟨rfl, rfl⟩
  go_wp2_with fail
  refine (HS.out _).mono ?_
  rintro e w' ⟨rfl, rfl⟩
  go_wp2_with fail
  go_end0
  exact ⟨rfl, rfl⟩

/-- What the row holds behind some rounds: the lines of all names that aren't left. -/
def Rows (T : Nat → Int) (left : Lit → Bool) (xs : List (Nat × Int)) : Prop :=
  (xs.map (·.1)).Nodup ∧ ∀ x, x ∈ xs ↔ x.1 < 28 ∧ T x.1 ≠ 0 ∧ x.2 = T x.1 ∧ left (klit Try.prog 67 spv x.1) = false
theorem key_lit {P : Program} {k : TypeId} (Y : Keyed P k) {v : Value} {l : Lit} (h : keyOf P k v = some l) : WideAt.IsKeyLit l := Y.key h
set_option maxRecDepth 100000 in
theorem klit_key (i : Nat) (h : i < 28) : WideAt.IsKeyLit (klit Try.prog 67 spv i) := key_lit kSpot (spotNames.key (x := i) h)
theorem rows_skip {T : Nat → Int} {left : Lit → Bool} {xs : List (Nat × Int)} (h : Rows T left xs) {i : Nat} (hi : i < 28) (h0 : T i = 0) : Rows T (fun z => left z && !z.sameKey (klit Try.prog 67 spv i)) xs :=
  ⟨h.1, fun x => by
    rw [h.2]
    constructor
    · rintro ⟨a, b, c, d⟩
      exact ⟨a, b, c, by simp [d]⟩
    · rintro ⟨a, b, c, d⟩
      refine ⟨a, b, c, ?_⟩
      have hne : x.1 ≠ i := fun e => b (by rw [e]; exact h0)
      have : (klit Try.prog 67 spv x.1).sameKey (klit Try.prog 67 spv i) = false := Maps.sameKey_ne (fun e => hne (spotNames.lit kSpot a hi e))
      simpa [this] using d⟩
set_option maxRecDepth 100000 in
theorem rows_add {T : Nat → Int} {left : Lit → Bool} {xs : List (Nat × Int)} (h : Rows T left xs) {i : Nat} (hi : i < 28) (h0 : T i ≠ 0) (hl : left (klit Try.prog 67 spv i) = true) : Rows T (fun z => left z && !z.sameKey (klit Try.prog 67 spv i)) (xs ++ [(i, T i)]) := by
  have hni : ∀ x, x ∈ xs → x.1 ≠ i := fun x hx e => by
    have := ((h.2 x).1 hx).2.2.2
    rw [e, hl] at this; cases this
  refine ⟨?_, fun x => ?_⟩
  · rw [List.map_append, List.nodup_append]
    refine ⟨h.1, by simp, fun a ha b hb => ?_⟩
    obtain ⟨x, hx, rfl⟩ := List.mem_map.1 ha
    have : b = i := by simpa using hb
    rw [this]; exact hni x hx
  · rw [List.mem_append, List.mem_singleton, h.2]
    constructor
    · rintro (⟨a, b, c, d⟩ | rfl)
      · exact ⟨a, b, c, by simp [d]⟩
      · exact ⟨hi, h0, rfl, by simp [WideAt.sameKey_self (klit_key i hi)]⟩
    · rintro ⟨a, b, c, d⟩
      by_cases e : x.1 = i
      · right
        obtain ⟨x1, x2⟩ := x
        simp only at e c
        rw [c, e]
      · left
        have : (klit Try.prog 67 spv x.1).sameKey (klit Try.prog 67 spv i) = false := Maps.sameKey_ne (fun h => e (spotNames.lit kSpot a hi h))
        exact ⟨a, b, c, by simpa [this] using d⟩

set_option maxRecDepth 100000 in
set_option maxHeartbeats 2000000 in
theorem lines_is (T : Nat → Int) (f : Nat → Option Int) (b n : Nat) (W : World) (hM : MapS W b n f) (hn : n ≤ 100) (hT : ∀ i, i < 28 → T i = (f i).getD 0) :
    Calls Try.prog 24 #[.map (some b)] W (LinesOut T W) := by
  obtain ⟨D, hDo, hDn, hDf, hDk⟩ := hM
  have HT := Lib.hid hT
  have HDF := Lib.hid hDf
  have HDK := Lib.hid hDk
  have hbl : b < W.heap.size := hDo.lt
  clear hDf hDk hT
  go_enter Try.func24, Try.ntmps24
  go_wp2_with (at_range; refine wpList_range_own _ rfl _ 65 rfl 67 23 kSpot Try.underlying65 iR b n D rfl hDo ?_; intro U1 hrg0 hgr0 hsz0)
  try go_frame
  have hb1 : Below W.heap.size W U1 := (Below.refl _ _).grown hgr0 (Nat.le_refl _) (fun k h => by cases h)
  clear hgr0 hDo
  obtain ⟨r, hr⟩ : ∃ r, W.heap.size = r := ⟨_, rfl⟩
  have HR := Lib.hid hr
  rw [hr] at hrg0 hsz0 ⊢
  clear hr
  have hrows0 : Rows T (Maps.has D) [] := ⟨by simp, fun x => by
    constructor
    · intro h; cases h
    · rintro ⟨a, b, c, d⟩
      rw [(HDF.out _ a).1] at d
      have h1 := HT.out _ a
      cases hf : f x.1 with
      | none => rw [hf] at h1; exact absurd h1 b
      | some y => rw [hf] at d; cases d⟩
  go_loopw [3] (fun s3 wx => ∃ (left : Lit → Bool) (cnt : Nat) (xs : List (Nat × Int)), wx.ranges Try.prog 67 iR b r n D left cnt ∧ xs.length + cnt ≤ n ∧ Hid (Below W.heap.size W wx) ∧ wx.ownsRow W.heap.size 45 3 s3 xs.length (xs.flatMap encL) ∧ Hid (Rows T left xs) ∧ Hid (∀ l, left l = true → Maps.has D l = true) ∧ s3.ownBlock ≠ some r ∧ Hid (xs = [] → s3 = .slice none 0 0)) (fun _ wx => wx.rangeLeft b r)
  case atStart => exact ⟨_, _, [], hrg0, by simp; omega, hb1, World.ownsRow_nil _ _ _ _, hrows0, fun _ h => h, by simp [Value.ownBlock], fun _ => rfl⟩
  case round =>
    obtain ⟨left, cnt, xs, hrg, hcn, hbw, hown, hrows, hleft, hnr, hnil⟩ := hrel
    clear hrg0 hb1 hrows0
    go_wp2_with (at_next; refine wpList_next_ranges _ rfl _ rfl 67 kSpot iR (fun v : Value => v) (Value.int .i64) (fun key kl h => ⟨key, rfl⟩) (fun v y h => ⟨_, (reads_i.inv v y h).choose_spec.1⟩) b r n D left cnt rfl hrg ?_ ?_)
    · intro hc0 hl0
      have hmem : ∀ x, x ∈ xs ↔ x.1 < 28 ∧ T x.1 ≠ 0 ∧ x.2 = T x.1 := fun x => by rw [hrows.out.2, hl0]; simp
      have HMEM := Lib.hid hmem
      have HND := Lib.hid hrows.out.1
      clear hrows hleft hnr hrg hl0 hc0 hmem
      by_cases hx : xs = []
      · have h3 := hnil.out hx
        have hl : Hid (ln T = 0) := by
          show (idx T 28).length = 0
          rw [idx_none 28 (fun i hi => ?_)]
          · rfl
          · by_cases c : T i = 0
            · exact c
            · have := (HMEM.out (i, T i)).2 ⟨hi, c, rfl⟩
              rw [hx] at this; cases this
        subst h3
        have HS := Lib.hid sort_nil
        clear hown hnil hx HMEM HND
        go_wp2_with fail
        refine (HS.out _).mono ?_
        rintro e w' ⟨rfl, rfl⟩
        go_wp2_with fail
        go_ret
        exact ⟨none, 0, by rw [hl.out]; rfl, ⟨by rw [hl.out]; omega, fun h => by rw [hl.out] at h; omega⟩, ⟨Nat.le_of_eq hl.out, Nat.zero_le _⟩, fun _ => ⟨hl.out, rfl⟩, hbw.out, (fun x h => by cases h)⟩
      · have hpos : 0 < xs.length := List.length_pos_iff.2 hx
        obtain ⟨g, cap, h3, hgb, hgl⟩ := hown.form hpos
        subst h3
        have hcap : Hid (xs.length ≤ cap ∧ cap ≤ maxLen) := by
          rcases hown.2 with ⟨hv, _⟩ | ⟨g', cap', cur, hv, _, _, k1, k2, _⟩
          · cases hv
          · injection hv with _ _ e3
            subst e3
            exact ⟨k1, k2⟩
        have hH := holdsK_row encL (fun _ => rfl) (by decide) rfl hown
        have HS := lsort_is xs.toArray g 0 cap wr hH hgl (by simp; omega)
        rw [List.size_toArray] at HS
        have HH := Lib.hid hH
        have HSS := Lib.hid HS
        clear hown hnil hH HS
        obtain ⟨L, hL⟩ : ∃ m, xs.length = m := ⟨_, rfl⟩
        have HLL := Lib.hid hL
        rw [hL] at HSS hcap hpos hcn ⊢
        clear hL
        go_wp2_with fail
        refine HSS.out.mono ?_
        rintro e w' ⟨rfl, d', q, os, hp, hs, rfl⟩
        have HPS := Lib.hid (And.intro hp hs)
        clear hp hs HSS
        go_wp2_with fail
        go_ret
        obtain ⟨hp, hs⟩ := HPS.out
        rw [← HLL.out, ← List.size_toArray] at hp hs
        obtain ⟨hd, hlen⟩ := lines_sorted HND.out HMEM.out hp hs
        have hLn : L = ln T := by rw [← HLL.out]; exact hlen
        have hHf := holdsK_sortWorldK_c encL 3 wr g 0 xs.toArray d' q os HH.out hgl hp.1
        have hgz := size_sortWorldK_c encL 3 wr g 0 q d' os
        have hat : ∀ j, j < ln T → d'[j]! = (at_ T j, T (at_ T j)) := fun j hj => by
          have h1 : d'.toList[j]? = some (at_ T j, T (at_ T j)) := by rw [hd, List.getElem?_map, at_get hj]; rfl
          rw [Array.getElem?_toList] at h1
          obtain ⟨hj', h2⟩ := Array.getElem?_eq_some_iff.1 h1
          rw [getElem!_pos d' j hj', h2]
        have hsz : d'.size = ln T := by rw [hp.1, List.size_toArray]; exact hlen
        rw [hLn] at hcap ⊢
        refine ⟨_, cap, rfl, ⟨by have := ln_le T; omega, fun _ => ⟨g, 0, rfl, Nat.lt_of_lt_of_le hgl hgz, fun j hj i u hu => ?_⟩⟩, hcap.out, (fun h => by cases h), ?_, (fun x h => by injection h with h; subst h; exact hgb)⟩
        · have hi : i < 3 := by have := (List.getElem?_eq_some_iff.1 hu).1; exact this
          have h1 := (HoldsK.cell hHf (i := j) (c := i) (by rw [hsz]; exact hj) hi).1
          rw [hat j hj] at h1
          rw [h1]
          show some ((lcs T j)[i]!) = some u
          rw [getElem!_pos _ i (by show i < 3; exact hi)]
          rw [List.getElem?_eq_getElem (by show i < 3; exact hi)] at hu
          exact hu
        · unfold sortWorldK putRowK
          have h1 := Lib.below_putRow (enc := id) (q := q) (d := flatK encL 3 d') hbw.out hgb
          exact ⟨h1.os, h1.tape, h1.output, Nat.le_trans h1.size (by show _ ≤ (_ ++ _ : Array Obj).size; rw [Array.size_append]; omega), fun j hj => (Sort.heap_grow_old _ os (Nat.lt_of_lt_of_le hj h1.size)).trans (h1.block j hj)⟩
    · intro x c kl ya yb w1 cnt1 hwx hlx hRc hat hrg1 hlt hg1 hs1 hen
      obtain ⟨i, hi, rfl⟩ := HDK.out kl (key_lit kSpot hwx) (hleft.out _ hlx)
      have hxi : x = spv i := kSpot.inj hwx (spotNames.key hi)
      subst hxi
      have hy : ya = idat c := by rw [reads_i.enc c] at hRc; injection hRc with h; injection h with h _; exact h.symm
      subst hy
      have hTi : T i = c := by
        rw [HT.out i hi]
        cases hf : f i with
        | none => have h1 := hat .nil; rw [(HDF.out i hi).2, hf] at h1; simp [idat] at h1
        | some c' =>
          have h1 := hat .nil
          rw [(HDF.out i hi).2, hf] at h1
          exact reads_i.inj c' c (by simpa using h1)
      have hb2 : Hid (Below W.heap.size W w1) := hbw.out.grown hg1 hbw.out.size (fun k h => by cases h; exact Nat.le_of_eq HR.out)
      have hown1 := hown.kept hg1 (by
        rcases hown.2 with ⟨h0, _⟩ | ⟨g', cap', cur, h0, _⟩
        · left; rw [h0]; rfl
        · right; exact hnr)
      have hleft1 : Hid (∀ l, (left l && !l.sameKey (klit Try.prog 67 spv i)) = true → Maps.has D l = true) := fun l h => hleft.out l (by simp at h; exact h.1)
      have hrlt := hrg1.lt
      unfold spv at hen ⊢
      have hlxi : Hid (left (klit Try.prog 67 spv i) = true) := hlx
      clear hwx hRc hat hlx
      have x0 : (w1.alloc (.cells #[.int .i64 (prt i), .string (cod i)] 67)).cell? ⟨w1.heap.size, 0, none⟩ = some (.int .i64 (prt i)) := by simp
      have x1 : (w1.alloc (.cells #[.int .i64 (prt i), .string (cod i)] 67)).cell? ⟨w1.heap.size, 1, none⟩ = some (.string (cod i)) := by simp
      by_cases c0 : c = 0
      · subst c0
        have hrw := Lib.hid (rows_skip hrows.out hi hTi)
        have hrg2 := hrg1.alloc (.cells #[.int .i64 (prt i), .string (cod i)] 67)
        have hown2 := hown1.alloc (.cells #[.int .i64 (prt i), .string (cod i)] 67)
        have hb3 := Lib.hid (balloc hb2.out (.cells #[.int .i64 (prt i), .string (cod i)] 67))
        have HRG := Lib.hid hrg2
        have hml : Hid (cnt1 < cnt) := hlt
        have hm0 : Hid (wr.rangeLeft b r = cnt) := hrg.left_eq
        have HOW := Lib.hid hown2
        have HNR := Lib.hid hnr
        clear hrows hrg1 hown hown1 hrg hrg2 hown2 hlt hnr
        go_wp2_with fail
        go_roundw
        case rel => exact ⟨_, cnt1, xs, HRG.out, by have := hml.out; omega, hb3.out, HOW.out, hrw.out, hleft1.out, HNR.out, hnil.out⟩
        case measure => rw [HRG.out.left_eq, hm0.out]; exact hml.out
      · have z0 : (c != 0) = true := by rw [bne_iff_ne]; exact c0
        have hT0 : T i ≠ 0 := by rw [hTi]; exact c0
        have hrw0 := rows_add hrows.out hi hT0 hlxi.out
        rw [hTi] at hrw0
        have hrw := Lib.hid hrw0
        have hml : Hid (cnt1 < cnt) := hlt
        have hm0 : Hid (wr.rangeLeft b r = cnt) := hrg.left_eq
        obtain ⟨V, hV⟩ : ∃ V, w1.alloc (.cells #[.int .i64 (prt i), .string (cod i)] 67) = V := ⟨_, rfl⟩
        have hownV := hown1.alloc (.cells #[.int .i64 (prt i), .string (cod i)] 67)
        have hVs : w1.heap.size < V.heap.size := by rw [← hV]; simp
        have hgV : Hid (w1.grownBy V u3.ownBlock) := by rw [← hV]; exact World.grownBy_alloc _ _ _
        have hbV : Hid (Below W.heap.size W V) := by rw [← hV]; exact balloc hb2.out _
        rw [hV] at x0 x1 hownV
        rw [hs1] at x0 x1
        have hownA := hownV.alloc (.cells #[.int .i64 (prt i), .string (cod i), .int .i64 c] 45)
        have hnews : ∀ j u, [Value.int .i64 (prt i), .string (cod i), .int .i64 c][j]? = some u → (V.alloc (.cells #[.int .i64 (prt i), .string (cod i), .int .i64 c] 45)).cell? ((⟨V.heap.size, 0, none⟩ : Addr).add j) = some u :=
          World.news_of_block (block_alloc_last V (.cells #[.int .i64 (prt i), .string (cod i), .int .i64 c] 45 (0, 0)))
        have HOV := Lib.hid hownV
        have HBO := Lib.hid hbw.out.size
        obtain ⟨ie, hie, hz0, hz1, hz2⟩ := info_parts infoLine
        have HRG := Lib.hid hrg1
        have HNR := Lib.hid hnr
        clear hrows hrg1 hown hown1 hrg hlt hrw0 hnr hownV
        go_upto_region 6 with fail
        clear hV
        go_wp2_with (at_builtin; refine wpList_append_lies _ rfl _ _ 27 rfl W.heap.size 45 ie (.agg #[.int .i64 0, .string ByteArray.empty, .int .i64 0]) 3 32 Try.underlying27 hie hz0 hz1 hz2 rfl (by decide) _ _ _ rfl hownA ⟨V.heap.size, 0, none⟩ 1 1 [.int .i64 (prt i), .string (cod i), .int .i64 c] rfl rfl hnews (by intro u hu; simp at hu; rcases hu with rfl | rfl | rfl <;> rfl) (by decide) (by unfold maxLen; omega) (by omega) (by have := hbV.out.size; simp; omega) _ rfl ?_)
        intro g6 cp6 w6 hown2 hgr hat6 hglt
        have hgr1 := grown_alloc hgr (fun j hj => (HOV.out.lt j hj).2)
        have hg16 := hgV.out.trans hgr1
        have hb6 := Lib.hid (hbV.out.grown hgr1 (hbV.out.size) (fun k hk => (HOV.out.lt k hk).1))
        have hrg6 := Lib.hid (HRG.out.kept hg16 (fun e => by have := (HOV.out.lt b e.symm).1; omega) (fun e => HNR.out e.symm))
        have hnr6 : Hid ((Value.slice (some ⟨g6, 0, none⟩) (xs.length + 1) cp6).ownBlock ≠ some r) := fun e => by
          have e2 : g6 = r := by injection e
          rcases hat6 with h | h
          · exact HNR.out (by rw [h, e2])
          · omega
        have how6 : Hid (w6.ownsRow W.heap.size 45 3 (.slice (some ⟨g6, 0, none⟩) (xs.length + 1) cp6) (xs ++ [(i, c)]).length ((xs ++ [(i, c)]).flatMap encL)) := by
          rw [List.flatMap_append, List.length_append]
          exact hown2
        clear hown2 hgr hgr1 hg16 hownA hnews hat6 hglt HRG HNR x0 x1
        go_wp2_with fail
        go_roundw
        case rel => exact ⟨_, cnt1, xs ++ [(i, c)], hrg6.out, by have := hml.out; simp; omega, hb6.out, how6.out, hrw.out, hleft1.out, hnr6.out, (fun h => by simp at h)⟩
        case measure => rw [hrg6.out.left_eq, hm0.out]; exact hml.out
theorem of_all (y i : Int) (nb : Bool) (A B : Nat → Int) (hA : small BB A) (hB : small BB B) (a1 : Option Addr) (cap1 : Nat) (hw : Was y i nb A a1 cap1) (a2 : Option Addr) (cap2 : Nat) (W : World) (h1 : Lst 3 W a1 (ln A) (lcs A)) (h2 : Lst 3 W a2 (ln B) (lcs B)) :
    Calls Try.prog 12 #[.agg #[.int .i64 y, .int .i64 i, .slice a1 (ln A) cap1], sv a2 (ln B) cap2] W (OfOut (fun i => B i - A i) W) :=
  of_is lines_is y i nb A B hA hB a1 cap1 hw a2 cap2 W h1 h2
end Go.Proofs.Ytnakcmliopcabaa.W
