/- A store that was told of a fact has it. -/
import Derived.Test.YtbnjgbllenndaaaGreatDoorTkG
import Derived.Test.YtbnjgbllenndaaaGreatDoorTkR
namespace Go.Proofs.YtbnjgbllenndaaaGreatDoor.W
open Go.RowKit Go.Proofs.YtbnjgbllenndaaaGreatDoor.M Go.Proofs.YtbnjgbllenndaaaGreatDoor.S
set_option linter.unusedVariables false

theorem kinds_sal {F : Nat → Fc} {n : Nat} (h : ∀ j, j < n → (F j).kind = 2) : Kinds F n := fun j hj => .inl (h j hj)
theorem lst_view {F : Nat → Fc} {n : Nat} {a a' : Option Addr} {w : World} (hl : Lst 8 w a n (fun j => fcl (F j))) (h : 0 < n → a' = a) : Lst 8 w a' n (fun j => fcl (F j)) :=
  ⟨hl.1, fun hn => by rw [h hn]; exact hl.2 hn⟩
def L1 : Nat → Tt := fun _ => ⟨0, 5, 3, 0, 0⟩
def F1 : Nat → Fc := fun j => tf (L1 j)
set_option maxRecDepth 100000 in
set_option maxHeartbeats 4000000 in
theorem there_is (W : World) : Calls Tryz.prog 4 #[] W fun e w' => e = .returned (.bool true) ∧ Below W.heap.size W w' := by
  have hX0 := balloc (Below.refl W.heap.size W) (.cells #[.int .u8 0, .int .u32 5, .int .u16 3, .int .u16 0, .int .u16 0] 26)
  have hl0 : Lst 5 (W.alloc (.cells #[.int .u8 0, .int .u32 5, .int .u16 3, .int .u16 0, .int .u16 0] 26)) (some ⟨W.heap.size, 0, none⟩) 1 (fun j => tcl (L1 j)) := ⟨by omega, fun _ => ⟨W.heap.size, 0, rfl, by simp, fun j hj i u hu => by
    obtain rfl : j = 0 := by omega
    rw [World.cell?_alloc_at _ _ _ _ rfl]
    have hi : i < 5 := (List.getElem?_eq_some_iff.1 hu).1
    rcases (by omega : i = 0 ∨ i = 1 ∨ i = 2 ∨ i = 3 ∨ i = 4) with rfl | rfl | rfl | rfl | rfl <;> exact hu⟩⟩
  have HT := Lib.hid (told_is L1 1 (by omega) (fun j _ => ⟨by show 0 ≤ (0 : Int) ∧ (0 : Int) ≤ 255; omega, by show 0 ≤ (5 : Int) ∧ (5 : Int) ≤ 4294967295; omega, by show 0 ≤ (3 : Int) ∧ (3 : Int) ≤ 65535; omega, by show 0 ≤ (0 : Int) ∧ (0 : Int) ≤ 65535; omega, by show 0 ≤ (0 : Int); omega, by show (0 : Int) ≤ 65535; omega⟩) _ 1 _ hl0)
  have HX := Lib.hid hX0
  have hk : Kinds F1 1 := kinds_sal (fun j _ => rfl)
  have HAT := Lib.hid (fun a cap h1 h2 w => at_is a 1 cap (by omega) h1 h2 w)
  have HFA := Lib.hid (fun a w h => facts_is F1 1 (by omega) hk a w h 1)
  obtain ⟨xs, hxs⟩ : ∃ xs, sel F1 (bkf F1 1 1) 1 1 = xs := ⟨_, rfl⟩
  have hlen : xs.length ≤ 100 := by rw [← hxs]; have := sel_len F1 (bkf F1 1 1) 1 1; omega
  have hup : xs.Pairwise (fun x y => x.1 < y.1) := by rw [← hxs]; exact sel_up _ _ _ _
  have hnum : numAt (xs.map (·.2)) 4 = 5 := by rw [← hxs]; rfl
  have hok : okAt (xs.map (·.2)) 4 = true := by rw [← hxs]; rfl
  have HOF := Lib.hid (fun a cap w h hn => of_is xs hlen a cap w h hn)
  have HLA := Lib.hid (fun a cap w h => lat_is xs hlen hup a cap 4 w h)
  unfold AtOut at HLA
  rw [hnum, hok] at HLA
  rw [hxs] at HFA
  have HLN := Lib.hid (fun a cap w => len_is a 1 cap w)
  clear hnum hok hxs hup hlen hk hl0 hX0
  unfold st at *
  go_enter Tryz.func4, Tryz.ntmps4
  go_wp2_with fail
  refine HT.out.mono ?_
  rintro e w1 ⟨a, cap, rfl, hl1, hc1, hn1, hb1⟩
  have HL1 := Lib.hid hl1
  have HB1 := Lib.hid (bstep HX.out hb1)
  have HC1 := Lib.hid (And.intro hc1 hn1)
  clear hl1 hc1 hn1 hb1 HT
  unfold st
  have hV0 := balloc (Below.refl w1.heap.size w1) (.cells #[.slice a 1 cap] 30)
  have v0 : (w1.alloc (.cells #[.slice a 1 cap] 30)).cell? ⟨w1.heap.size, 0, none⟩ = some (.slice a 1 cap) := by simp
  have vl : w1.heap.size < (w1.alloc (.cells #[.slice a 1 cap] 30)).heap.size := by simp
  have HV := Lib.hid (And.intro v0 (And.intro vl hV0))
  clear v0 vl hV0
  go_upto_region 2 with fail
  generalize w1.alloc (.cells #[.slice a 1 cap] 30) = V at *
  obtain ⟨P, hP⟩ : ∃ m, w1.heap.size = m := ⟨_, rfl⟩
  have HP := Lib.hid hP
  rw [hP] at HV ⊢
  clear hP
  have v0 := HV.out.1
  go_wp2_with fail
  refine (HAT.out a cap HC1.out.1 HC1.out.2 _).mono ?_
  rintro e w2 ⟨⟨a2, rfl, ha2⟩, hb2⟩
  have hVW : Below w1.heap.size w1 V := by rw [HP.out]; exact HV.out.2.2
  have HL2 := Lib.hid (lst_view ((HL1.out.step hVW).step hb2) ha2)
  have HB2 := Lib.hid hb2
  have HBV := Lib.hid (bstep HB1.out hVW)
  clear ha2 hb2 hVW v0
  go_wp2_with fail
  refine (HFA.out a2 _ HL2.out).mono ?_
  rintro e w3 ⟨a3, cap3, rfl, hl3, hn3, hb3⟩
  have HL3 := Lib.hid (And.intro hl3 hn3)
  have HB3 := Lib.hid (bstep HB2.out hb3)
  clear hl3 hn3 hb3
  go_wp2_with fail
  refine (HOF.out a3 cap3 _ HL3.out.1 HL3.out.2).mono ?_
  rintro e w4 ⟨a4, cap4, rfl, hl4, hb4⟩
  have HL4 := Lib.hid hl4
  have HB4 := Lib.hid (bstep HB3.out hb4)
  clear hl4 hb4
  go_wp2_with fail
  refine (HLA.out a4 cap4 _ HL4.out).mono ?_
  rintro e w5 ⟨N, rfl, hb5⟩
  have HB5 := Lib.hid (bstep HB4.out hb5)
  have hA5 := balloc HB5.out (.cells #[.int .i64 N, .int .i64 5, .string ⟨#[]⟩] 40)
  have v0 := bc hA5 HV.out.2.1 HV.out.1
  have t1 : (w5.alloc (.cells #[.int .i64 N, .int .i64 5, .string ⟨#[]⟩] 40)).cell? ⟨w5.heap.size, 1, none⟩ = some (.int .i64 5) := by simp
  have tl : w5.heap.size < (w5.alloc (.cells #[.int .i64 N, .int .i64 5, .string ⟨#[]⟩] 40)).heap.size := by simp
  have HA5 := Lib.hid (And.intro t1 (And.intro tl hA5))
  clear hb5 hA5 t1 tl
  go_wp2_with fail
  refine (HLN.out a cap _).mono ?_
  rintro e w6 ⟨rfl, hb6⟩
  have t1 := bc hb6 HA5.out.2.1 HA5.out.1
  have HZ := Lib.hid (bstep HBV.out (bstep HA5.out.2.2 hb6))
  clear hb6 v0
  go_wp2_with fail
  go_ret
  exact ⟨rfl, HZ.out⟩
end Go.Proofs.YtbnjgbllenndaaaGreatDoor.W
