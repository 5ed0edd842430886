/- The value in force on a day. -/
import Derived.Test.YtbnjgbllenndaaaGreatDoorTkP
namespace Go.Proofs.YtbnjgbllenndaaaGreatDoor.W
open Go.RowKit Go.Proofs.YtbnjgbllenndaaaGreatDoor.M Go.Proofs.YtbnjgbllenndaaaGreatDoor.S
set_option linter.unusedVariables false

theorem three (Q : World) (N : Nat) {a0 a1 a2 : Value} (u0 u1 u2 : Value) (g0 : Q.cell? ⟨N, 0, none⟩ = some a0) (g1 : Q.cell? ⟨N, 1, none⟩ = some a1) (g2 : Q.cell? ⟨N, 2, none⟩ = some a2) :
    (((Q.setCell ⟨N, 0, none⟩ u0).setCell ⟨N, 1, none⟩ u1).setCell ⟨N, 2, none⟩ u2).cell? ⟨N, 0, none⟩ = some u0 ∧ (((Q.setCell ⟨N, 0, none⟩ u0).setCell ⟨N, 1, none⟩ u1).setCell ⟨N, 2, none⟩ u2).cell? ⟨N, 1, none⟩ = some u1 ∧ (((Q.setCell ⟨N, 0, none⟩ u0).setCell ⟨N, 1, none⟩ u1).setCell ⟨N, 2, none⟩ u2).cell? ⟨N, 2, none⟩ = some u2 := by
  have n01 : (⟨N, 1, none⟩ : Addr) ≠ ⟨N, 0, none⟩ := by simp
  have n02 : (⟨N, 2, none⟩ : Addr) ≠ ⟨N, 0, none⟩ := by simp
  have n12 : (⟨N, 2, none⟩ : Addr) ≠ ⟨N, 1, none⟩ := by simp
  have h0 : (Q.setCell ⟨N, 0, none⟩ u0).cell? ⟨N, 0, none⟩ = some u0 := World.cell?_setCell_same _ _ _ g0
  have h1 : (Q.setCell ⟨N, 0, none⟩ u0).cell? ⟨N, 1, none⟩ = some a1 := (World.cell?_setCell_other _ _ _ _ n01.symm).trans g1
  have h2 : (Q.setCell ⟨N, 0, none⟩ u0).cell? ⟨N, 2, none⟩ = some a2 := (World.cell?_setCell_other _ _ _ _ n02.symm).trans g2
  have k1 := World.cell?_setCell_same (Q.setCell ⟨N, 0, none⟩ u0) ⟨N, 1, none⟩ u1 h1
  have k2 := (World.cell?_setCell_other (Q.setCell ⟨N, 0, none⟩ u0) ⟨N, 1, none⟩ ⟨N, 2, none⟩ u1 n12.symm).trans h2
  exact ⟨(World.cell?_setCell_other _ _ _ _ n02).trans ((World.cell?_setCell_other _ _ _ _ n01).trans h0), (World.cell?_setCell_other _ _ _ _ n12).trans k1, World.cell?_setCell_same _ _ _ k2⟩
def gl (G : List Fc) (d : Int) : Int := lastc (fun j => G.getD j (can 0)) d G.length
def numAt (G : List Fc) (d : Int) : Int := if gl G d < 0 then 0 else (G.getD (gl G d).toNat (can 0)).num
def okAt (G : List Fc) (d : Int) : Bool := decide (0 ≤ gl G d)
theorem getD_snd (xs : List (Nat × Fc)) (j : Nat) : (xs.map (·.2)).getD j (can 0) = (xs.getD j (0, can 0)).2 := by
  rw [List.getD_eq_getElem?_getD, List.getD_eq_getElem?_getD, List.getElem?_map]
  cases xs[j]? <;> rfl
theorem lasts_gl (xs : List (Nat × Fc)) (d : Int) : lasts xs d xs.length = gl (xs.map (·.2)) d := by
  unfold gl lasts
  rw [List.length_map]
  congr 1
  funext j
  exact (getD_snd xs j).symm
theorem value_neg (s : Value) (a : Option Addr) (n cap : Nat) (z : Int) (hz : z < 0) (W : World) : Calls Tryz.prog 20 #[.agg #[.slice a n cap], .int .i64 z] W fun e w' => e = .returned (.agg #[.int .i64 0, .int .i64 0, .string ⟨#[]⟩]) ∧ Below W.heap.size W w' := by
  have c1 : z < 0 := hz
  have hB := Lib.hid (balloc (balloc (Below.refl W.heap.size W) (.cells #[.slice a n cap] 44)) (.cells #[.int .i64 0, .int .i64 0, .string ⟨#[]⟩] 40))
  clear hz
  go_enter Tryz.func20, Tryz.ntmps20
  go_wp2_with fail
  exact bodyPost_ret (v := .agg #[.int .i64 0, .int .i64 0, .string ⟨#[]⟩]) (by simp [results, Tryz.results20, go_sem]) rfl ⟨rfl, hB.out⟩
set_option maxRecDepth 100000 in
theorem value_pos (xs : List (Nat × Fc)) (a : Option Addr) (cap : Nat) (p : Nat) (hp : p < xs.length) (hx : xs.length ≤ 100) (W : World) (hl : Lst 9 W a xs.length (fun j => kcl (xs.getD j (0, can 0)))) : Calls Tryz.prog 20 #[.agg #[.slice a xs.length cap], .int .i64 (p : Int)] W fun e w' => (∃ N, e = .returned (.agg #[.int .i64 N, .int .i64 (xs.getD p (0, can 0)).2.num, .string ⟨#[]⟩])) ∧ Below W.heap.size W w' := by
  have hB := balloc (balloc (Below.refl W.heap.size W) (.cells #[.slice a xs.length cap] 44)) (.cells #[.int .i64 0, .int .i64 0, .string ⟨#[]⟩] 40)
  obtain ⟨b, o, rfl, hlt, d0, d1, d2, d3, d4, d5, d6, d7, d8⟩ := lst_known hl hp
  obtain ⟨n, hn⟩ : ∃ n, xs.length = n := ⟨_, rfl⟩
  rw [hn] at hp hx hB ⊢
  clear hn hl
  have c0 : ¬ (p : Int) < 0 := by omega
  have c1 : (p : Int) < (n : Int) := by omega
  have e0 := bc hB hlt d0
  have e1 := bc hB hlt d1
  have e2 := bc hB hlt d2
  have e3 := bc hB hlt d3
  have e4 := bc hB hlt d4
  have e5 := bc hB hlt d5
  have e6 := bc hB hlt d6
  have e7 := bc hB hlt d7
  have e8 := bc hB hlt d8
  clear d0 d1 d2 d3 d4 d5 d6 d7 d8
  generalize xs.getD p (0, can 0) = x at *
  obtain ⟨N, per, kind, fr, en, num⟩ := x
  simp only at e0 e2 e3 e4 e5 e7 ⊢
  go_enter Tryz.func20, Tryz.ntmps20
  have y0 : (((W.alloc (.cells #[.slice (some ⟨b, o, none⟩) n cap] 44)).alloc (.cells #[.int .i64 (N : Int), .int .i64 num, .string ⟨#[]⟩] 40)).alloc (.cells #[.int .i64 (N : Int), .int .u32 0, .int .u32 per, .int .i64 kind, .int .i64 fr, .int .i64 en, .string ⟨#[]⟩, .int .i64 num, .string ⟨#[]⟩] 58)).cell? ⟨W.heap.size + 1, 0, none⟩ = some (.int .i64 (N : Int)) := by go_simp
  have y1 : (((W.alloc (.cells #[.slice (some ⟨b, o, none⟩) n cap] 44)).alloc (.cells #[.int .i64 (N : Int), .int .i64 num, .string ⟨#[]⟩] 40)).alloc (.cells #[.int .i64 (N : Int), .int .u32 0, .int .u32 per, .int .i64 kind, .int .i64 fr, .int .i64 en, .string ⟨#[]⟩, .int .i64 num, .string ⟨#[]⟩] 58)).cell? ⟨W.heap.size + 1, 1, none⟩ = some (.int .i64 num) := by go_simp
  have y2 : (((W.alloc (.cells #[.slice (some ⟨b, o, none⟩) n cap] 44)).alloc (.cells #[.int .i64 (N : Int), .int .i64 num, .string ⟨#[]⟩] 40)).alloc (.cells #[.int .i64 (N : Int), .int .u32 0, .int .u32 per, .int .i64 kind, .int .i64 fr, .int .i64 en, .string ⟨#[]⟩, .int .i64 num, .string ⟨#[]⟩] 58)).cell? ⟨W.heap.size + 1, 2, none⟩ = some (.string ⟨#[]⟩) := by go_simp
  have HYY := Lib.hid (And.intro y0 (And.intro y1 y2))
  clear y0 y1 y2
  go_wp2_with fail
  obtain ⟨y0, y1, y2⟩ := HYY.out
  have hZ := balloc (balloc (balloc (Below.refl W.heap.size W) (.cells #[.slice (some ⟨b, o, none⟩) n cap] 44)) (.cells #[.int .i64 (N : Int), .int .i64 num, .string ⟨#[]⟩] 40)) (.cells #[.int .i64 (N : Int), .int .u32 0, .int .u32 per, .int .i64 kind, .int .i64 fr, .int .i64 en, .string ⟨#[]⟩, .int .i64 num, .string ⟨#[]⟩] 58)
  generalize (((W.alloc (.cells #[.slice (some ⟨b, o, none⟩) n cap] 44)).alloc (.cells #[.int .i64 (N : Int), .int .i64 num, .string ⟨#[]⟩] 40)).alloc (.cells #[.int .i64 (N : Int), .int .u32 0, .int .u32 per, .int .i64 kind, .int .i64 fr, .int .i64 en, .string ⟨#[]⟩, .int .i64 num, .string ⟨#[]⟩] 58)) = Z at *
  exact bodyPost_ret (v := .agg #[.int .i64 (N : Int), .int .i64 num, .string ⟨#[]⟩]) (by simp [results, Tryz.results20, go_sem, y0, y1, y2]) rfl ⟨⟨_, rfl⟩, hZ⟩
/-- What is in force on a day: its number, whether there is one. -/
def AtOut (G : List Fc) (d : Int) (W : World) (e : Ending) (w' : World) : Prop := ∃ N, e = .returned (.tuple #[.agg #[.int .i64 N, .int .i64 (numAt G d), .string ⟨#[]⟩], .bool (okAt G d)]) ∧ Below W.heap.size W w'
set_option maxRecDepth 100000 in
theorem lat_is (xs : List (Nat × Fc)) (hx : xs.length ≤ 100) (hup : xs.Pairwise (fun x y => x.1 < y.1)) (a : Option Addr) (cap : Nat) (d : Int) (W : World) (hl : Lst 9 W a xs.length (fun j => kcl (xs.getD j (0, can 0)))) :
    Calls Tryz.prog 10 #[.agg #[.slice a xs.length cap], .int .i64 d] W (AtOut (xs.map (·.2)) d W) := by
  have HPL := Lib.hid (fun w h => placed_is xs hx hup a cap d w h)
  have hbd := lastc_bd (fun j => (xs.getD j (0, can 0)).2) d xs.length
  change -1 ≤ lasts xs d xs.length ∧ lasts xs d xs.length < ((xs.length : Nat) : Int) ∧ _ at hbd
  have HVN := Lib.hid (fun w h => value_neg (.bool true) a xs.length cap (lasts xs d xs.length) h w)
  have HVP := Lib.hid (fun p hp w h => value_pos xs a cap p hp hx w h)
  have hg := lasts_gl xs d
  have hgd := fun j => getD_snd xs j
  have hB := balloc (balloc (Below.refl W.heap.size W) (.cells #[.slice a xs.length cap] 44)) (.cells #[.int .i64 0, .int .i64 0, .string ⟨#[]⟩] 40)
  have x0 : ((W.alloc (.cells #[.slice a xs.length cap] 44)).alloc (.cells #[.int .i64 0, .int .i64 0, .string ⟨#[]⟩] 40)).cell? ⟨W.heap.size, 0, none⟩ = some (.slice a xs.length cap) := by go_simp
  have y0 : ((W.alloc (.cells #[.slice a xs.length cap] 44)).alloc (.cells #[.int .i64 0, .int .i64 0, .string ⟨#[]⟩] 40)).cell? ⟨W.heap.size + 1, 0, none⟩ = some (.int .i64 0) := by go_simp
  have y1 : ((W.alloc (.cells #[.slice a xs.length cap] 44)).alloc (.cells #[.int .i64 0, .int .i64 0, .string ⟨#[]⟩] 40)).cell? ⟨W.heap.size + 1, 1, none⟩ = some (.int .i64 0) := by go_simp
  have y2 : ((W.alloc (.cells #[.slice a xs.length cap] 44)).alloc (.cells #[.int .i64 0, .int .i64 0, .string ⟨#[]⟩] 40)).cell? ⟨W.heap.size + 1, 2, none⟩ = some (.string ⟨#[]⟩) := by go_simp
  have yf : ∀ o, ((W.alloc (.cells #[.slice a xs.length cap] 44)).alloc (.cells #[.int .i64 0, .int .i64 0, .string ⟨#[]⟩] 40)).frozen? ⟨W.heap.size + 1, o, none⟩ = false := fun o => World.frozen?_alloc_at _ _ _ _ (by simp)
  have us : ((W.alloc (.cells #[.slice a xs.length cap] 44)).alloc (.cells #[.int .i64 0, .int .i64 0, .string ⟨#[]⟩] 40)).heap.size = W.heap.size + 1 + 1 := by simp
  have HU := Lib.hid us
  have HY := Lib.hid (And.intro x0 (And.intro y0 (And.intro y1 (And.intro y2 yf))))
  have HBU := Lib.hid hB
  have HL := Lib.hid (hl.step hB)
  clear hB x0 y0 y1 y2 yf us hl hup
  have HNUM : Hid (numAt (xs.map (·.2)) d = if lasts xs d xs.length < 0 then 0 else (xs.getD (lasts xs d xs.length).toNat (0, can 0)).2.num) := by
    show (if gl _ d < 0 then _ else _) = _
    rw [← hg, hgd]
  have HOK : Hid (okAt (xs.map (·.2)) d = decide (0 ≤ lasts xs d xs.length)) := by
    show decide (0 ≤ gl _ d) = _
    rw [← hg]
  unfold AtOut
  obtain ⟨nm, hnm⟩ : ∃ v, numAt (xs.map (·.2)) d = v := ⟨_, rfl⟩
  obtain ⟨ok, hok⟩ : ∃ v, okAt (xs.map (·.2)) d = v := ⟨_, rfl⟩
  rw [hnm] at HNUM ⊢
  rw [hok] at HOK ⊢
  clear hnm hok hg hgd
  obtain ⟨z, hz⟩ : ∃ z, lasts xs d xs.length = z := ⟨_, rfl⟩
  rw [hz] at HPL HVN hbd HNUM HOK
  obtain ⟨n, hn⟩ : ∃ n, xs.length = n := ⟨_, rfl⟩
  have HN := Lib.hid hn
  rw [hn] at HPL HVN HVP hbd HU HY HBU HL hx ⊢
  clear hn hz
  obtain ⟨hb1, hb2, _⟩ := hbd
  go_enter Tryz.func10, Tryz.ntmps10
  go_upto_region 1 with fail
  generalize ((W.alloc (.cells #[.slice a n cap] 44)).alloc (.cells #[.int .i64 0, .int .i64 0, .string ⟨#[]⟩] 40)) = U at *
  have x0 := HY.out.1
  go_wp2_with fail
  refine (HPL.out _ HL.out).mono ?_
  rintro e w1 ⟨rfl, hb⟩
  clear x0
  have x0 := bc hb (by have := HU.out; omega) HY.out.1
  have HB1 := Lib.hid hb
  clear hb
  by_cases hzn : z < 0
  · have e1 : decide (0 ≤ z) = false := decide_eq_false (by omega)
    have hnm := HNUM.out
    have hok := HOK.out
    rw [if_pos hzn] at hnm
    rw [e1] at hok
    subst hnm hok
    clear HNUM HOK hb1 hb2
    have HZ := Lib.hid hzn
    clear hzn
    go_wp2_with fail
    refine (HVN.out _ HZ.out).mono ?_
    rintro e w2 ⟨rfl, hb⟩
    have HB2 := Lib.hid (bstep HB1.out hb)
    have y0 := bc HB2.out (by have := HU.out; omega) HY.out.2.1
    have y1 := bc HB2.out (by have := HU.out; omega) HY.out.2.2.1
    have y2 := bc HB2.out (by have := HU.out; omega) HY.out.2.2.2.1
    have yf := fun o => bf HB2.out (by have := HU.out; omega) (HY.out.2.2.2.2 o)
    clear hb x0
    go_wp2_with fail
    obtain ⟨t0, t1, t2⟩ := three w2 (W.heap.size + 1) (.int .i64 0) (.int .i64 0) (.string ⟨#[]⟩) y0 y1 y2
    have hZ := bset (bset (bset (bstep HBU.out HB2.out) (p := ⟨W.heap.size + 1, 0, none⟩) (by show W.heap.size ≤ W.heap.size + 1; omega) (.int .i64 0)) (p := ⟨W.heap.size + 1, 1, none⟩) (by show W.heap.size ≤ W.heap.size + 1; omega) (.int .i64 0)) (p := ⟨W.heap.size + 1, 2, none⟩) (by show W.heap.size ≤ W.heap.size + 1; omega) (.string ⟨#[]⟩)
    generalize (((w2.setCell ⟨W.heap.size + 1, 0, none⟩ (.int .i64 0)).setCell ⟨W.heap.size + 1, 1, none⟩ (.int .i64 0)).setCell ⟨W.heap.size + 1, 2, none⟩ (.string ⟨#[]⟩)) = Z at *
    exact bodyPost_ret (v := .tuple #[.agg #[.int .i64 0, .int .i64 0, .string ⟨#[]⟩], .bool false]) (by simp [results, Tryz.results10, go_sem, t0, t1, t2]) rfl ⟨0, rfl, hZ⟩
  · obtain ⟨p, rfl⟩ : ∃ p : Nat, z = (p : Int) := ⟨z.toNat, by omega⟩
    have e1 : decide (0 ≤ (p : Int)) = true := decide_eq_true (by omega)
    have hnm := HNUM.out
    have hok := HOK.out
    rw [if_neg hzn, Int.toNat_natCast] at hnm
    rw [e1] at hok
    subst hok
    have HNM := Lib.hid hnm
    have HVQ := Lib.hid (fun w h => HVP.out p (by have := HN.out; omega) w h)
    rw [← HNM.out] at HVQ
    have hpn : (p : Int) < (n : Int) := hb2
    clear HNUM HOK hnm hzn hb1 hb2
    go_wp2_with fail
    refine (HVQ.out _ (HL.out.step HB1.out)).mono ?_
    rintro e w2 ⟨⟨N, rfl⟩, hb⟩
    have HB2 := Lib.hid (bstep HB1.out hb)
    have y0 := bc HB2.out (by have := HU.out; omega) HY.out.2.1
    have y1 := bc HB2.out (by have := HU.out; omega) HY.out.2.2.1
    have y2 := bc HB2.out (by have := HU.out; omega) HY.out.2.2.2.1
    have yf := fun o => bf HB2.out (by have := HU.out; omega) (HY.out.2.2.2.2 o)
    clear hb x0
    go_wp2_with fail
    obtain ⟨t0, t1, t2⟩ := three w2 (W.heap.size + 1) (.int .i64 N) (.int .i64 nm) (.string ⟨#[]⟩) y0 y1 y2
    have hZ := bset (bset (bset (bstep HBU.out HB2.out) (p := ⟨W.heap.size + 1, 0, none⟩) (by show W.heap.size ≤ W.heap.size + 1; omega) (.int .i64 N)) (p := ⟨W.heap.size + 1, 1, none⟩) (by show W.heap.size ≤ W.heap.size + 1; omega) (.int .i64 nm)) (p := ⟨W.heap.size + 1, 2, none⟩) (by show W.heap.size ≤ W.heap.size + 1; omega) (.string ⟨#[]⟩)
    generalize (((w2.setCell ⟨W.heap.size + 1, 0, none⟩ (.int .i64 N)).setCell ⟨W.heap.size + 1, 1, none⟩ (.int .i64 nm)).setCell ⟨W.heap.size + 1, 2, none⟩ (.string ⟨#[]⟩)) = Z at *
    exact bodyPost_ret (v := .tuple #[.agg #[.int .i64 N, .int .i64 nm, .string ⟨#[]⟩], .bool true]) (by simp [results, Tryz.results10, go_sem, t0, t1, t2]) rfl ⟨N, rfl, hZ⟩
end Go.Proofs.YtbnjgbllenndaaaGreatDoor.W
