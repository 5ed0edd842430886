/- What is wrong with a fact: nothing, with a salary, and with a Cancel. -/
import Derived.Test.YtbnjgbllenndaaaGreatDoorTkA
import Derived.Test.YtbnjgbllenndaaaGreatDoorTkB
import Derived.Test.YtbnjgbllenndaaaGreatDoorTkM
import Derived.Deep.DeepCutAuto
import Derived.Deep.RegionHeld3
namespace Go.Proofs.YtbnjgbllenndaaaGreatDoor.W
open Go.RowKit Go.Proofs.YtbnjgbllenndaaaGreatDoor.M Go.Proofs.YtbnjgbllenndaaaGreatDoor.S
set_option linter.unusedVariables false

theorem store_func (w : World) (a : Addr) (f : Fn) (h : (w.cell? a).isSome = true) (h' : w.frozen? a = false) : Sem.run Tryz.prog (store a (.func f #[] #[])) w = .ok () (w.setCell a (.func f #[] #[])) := by
  obtain ⟨u, hu⟩ := Option.isSome_iff_exists.1 h
  have := run_store Tryz.prog w a (.func f #[] #[]) .plain rfl
  rw [hu] at this
  simp [h'] at this
  exact this
/-- A rule that the call has laid in a block of its own behind X. -/
def CutR (rs : List Value) (X : World) (s : Value) (wx : World) : Prop := ∃ Q, s = .pointer (some ⟨Q, 0, none⟩) ∧ X.heap.size ≤ Q ∧ Q < wx.heap.size ∧ wx.rangeAt Q 0 rs ∧ Below X.heap.size X wx
theorem cutR_i {rs : List Value} {X wS : World} {t : TypeId} (hb : Below X.heap.size X wS) : CutR rs X (.pointer (some ⟨wS.heap.size, 0, none⟩)) (wS.alloc (.cells rs.toArray t)) :=
  ⟨wS.heap.size, rfl, hb.size, by simp, fun j v hv => by
    rw [World.cell?_alloc_at _ _ _ _ rfl, Nat.zero_add]
    simpa using hv, balloc hb _⟩
theorem cutR_ii {X wS : World} {u0 u1 u2 u3 u4 u5 u6 : Value} (hb : Below X.heap.size X wS) (hs : X.heap.size < wS.heap.size) (ht : wS.there X.heap.size 0 7) : CutR [u0, u1, u2, u3, u4, u5, u6] X (.pointer (some ⟨X.heap.size, 0, none⟩)) (((((((wS.setCell ⟨X.heap.size, 0, none⟩ u0).setCell ⟨X.heap.size, 1, none⟩ u1).setCell ⟨X.heap.size, 2, none⟩ u2).setCell ⟨X.heap.size, 3, none⟩ u3).setCell ⟨X.heap.size, 4, none⟩ u4).setCell ⟨X.heap.size, 5, none⟩ u5).setCell ⟨X.heap.size, 6, none⟩ u6) := by
  have h : CutR [u0, u1, u2, u3, u4, u5, u6] X (.pointer (some ⟨X.heap.size, 0, none⟩)) (wS.setCells X.heap.size 0 [u0, u1, u2, u3, u4, u5, u6]) :=
    ⟨X.heap.size, rfl, Nat.le_refl _, by rw [size_setCells]; exact hs, World.rangeAt_setCells_same wS X.heap.size 0 _ ht, below_setCells X.heap.size (Nat.le_refl _) _ 0 wS hb⟩
  exact h
theorem keepD {X : World} : Below X.heap.size X X.drew ∧ ∀ b o, b < X.heap.size → X.drew.cell? ⟨b, o, none⟩ = X.cell? ⟨b, o, none⟩ := ⟨(Below.refl _ _).drew, fun _ _ _ => rfl⟩
theorem keepZ {X : World} {o : Obj} : Below X.heap.size X (X.alloc o).drew ∧ ∀ b p, b < X.heap.size → (X.alloc o).drew.cell? ⟨b, p, none⟩ = X.cell? ⟨b, p, none⟩ := ⟨(balloc (Below.refl _ _) _).drew, (bcell (balloc (Below.refl _ _) _)).1⟩
theorem keepA {X wS : World} {o : Obj} (h : Below X.heap.size X wS) : Below X.heap.size X (wS.alloc o) ∧ ∀ b p, b < X.heap.size → (wS.alloc o).cell? ⟨b, p, none⟩ = X.cell? ⟨b, p, none⟩ := ⟨balloc h _, (bcell (balloc h _)).1⟩
theorem keep7 {X wS : World} (h : Below X.heap.size X wS) {u0 u1 u2 u3 u4 u5 u6 : Value} : Below X.heap.size X (((((((wS.setCell ⟨X.heap.size, 0, none⟩ u0).setCell ⟨X.heap.size, 1, none⟩ u1).setCell ⟨X.heap.size, 2, none⟩ u2).setCell ⟨X.heap.size, 3, none⟩ u3).setCell ⟨X.heap.size, 4, none⟩ u4).setCell ⟨X.heap.size, 5, none⟩ u5).setCell ⟨X.heap.size, 6, none⟩ u6) ∧ ∀ b o, b < X.heap.size → (((((((wS.setCell ⟨X.heap.size, 0, none⟩ u0).setCell ⟨X.heap.size, 1, none⟩ u1).setCell ⟨X.heap.size, 2, none⟩ u2).setCell ⟨X.heap.size, 3, none⟩ u3).setCell ⟨X.heap.size, 4, none⟩ u4).setCell ⟨X.heap.size, 5, none⟩ u5).setCell ⟨X.heap.size, 6, none⟩ u6).cell? ⟨b, o, none⟩ = X.cell? ⟨b, o, none⟩ := by
  have h1 := (bset (bset (bset (bset (bset (bset (bset h (p := ⟨X.heap.size, 0, none⟩) (Nat.le_refl _) u0) (p := ⟨X.heap.size, 1, none⟩) (Nat.le_refl _) u1) (p := ⟨X.heap.size, 2, none⟩) (Nat.le_refl _) u2) (p := ⟨X.heap.size, 3, none⟩) (Nat.le_refl _) u3) (p := ⟨X.heap.size, 4, none⟩) (Nat.le_refl _) u4) (p := ⟨X.heap.size, 5, none⟩) (Nat.le_refl _) u5) (p := ⟨X.heap.size, 6, none⟩) (Nat.le_refl _) u6)
  exact ⟨h1, (bcell h1).1⟩
theorem there_step {V w : World} {b o n : Nat} (h : V.there b o n) (hb : Below V.heap.size V w) (hl : b < V.heap.size) : w.there b o n := fun j hj => by
  obtain ⟨h1, h2⟩ := h j hj
  obtain ⟨v, hv⟩ := Option.isSome_iff_exists.1 h1
  exact ⟨by rw [bc hb hl hv]; rfl, bf hb hl h2⟩

set_option maxRecDepth 100000 in
set_option maxHeartbeats 4000000 in
theorem check_sal (x : Fc) (hx : x.sal) (W : World) : Calls Tryz.prog 13 #[fv x] W fun e w' => e = .returned (.int .i64 0) ∧ Below W.heap.size W w' := by
  have HD := Lib.hid (fun w => days_sal x hx ⟨#[115, 97, 108, 97, 114, 121]⟩ (.func (.func 34) #[] #[]) (.func (.func 35) #[] #[]) 0 1125899906842624 w ⟨_, _, rfl⟩ ⟨_, _, rfl⟩)
  have HSI := Lib.hid (fun w => silent_is x w)
  obtain ⟨⟨p1, p2⟩, hk, _, _, n1, n2⟩ := hx
  obtain ⟨per, kind, fr, en, num⟩ := x
  simp only at hk p1 p2 n1 n2
  subst hk
  have z0 : (per == 0) = false := by rw [beq_eq_false_iff_ne]; omega
  have c1 : decide (num < 0) = false := decide_eq_false (by omega)
  have c2 : decide (1125899906842624 < num) = false := decide_eq_false (by omega)
  have HK := Lib.hid (fun w => known_is 2 (.inl rfl) w)
  have HE := Lib.hid (fun w => empty_is w)
  have HR := Lib.hid (fun w => rules_is w)
  have hB0 := Lib.hid (balloc (Below.refl W.heap.size W) (.cells #[.int .u32 0, .int .u32 per, .int .i64 2, .int .i64 fr, .int .i64 en, .string ⟨#[]⟩, .int .i64 num, .string ⟨#[]⟩] 38))
  have x0 : (W.alloc (.cells #[.int .u32 0, .int .u32 per, .int .i64 2, .int .i64 fr, .int .i64 en, .string ⟨#[]⟩, .int .i64 num, .string ⟨#[]⟩] 38)).cell? ⟨W.heap.size, 0, none⟩ = some (.int .u32 0) := by simp
  have x1 : (W.alloc (.cells #[.int .u32 0, .int .u32 per, .int .i64 2, .int .i64 fr, .int .i64 en, .string ⟨#[]⟩, .int .i64 num, .string ⟨#[]⟩] 38)).cell? ⟨W.heap.size, 1, none⟩ = some (.int .u32 per) := by simp
  have x2 : (W.alloc (.cells #[.int .u32 0, .int .u32 per, .int .i64 2, .int .i64 fr, .int .i64 en, .string ⟨#[]⟩, .int .i64 num, .string ⟨#[]⟩] 38)).cell? ⟨W.heap.size, 2, none⟩ = some (.int .i64 2) := by simp
  have x3 : (W.alloc (.cells #[.int .u32 0, .int .u32 per, .int .i64 2, .int .i64 fr, .int .i64 en, .string ⟨#[]⟩, .int .i64 num, .string ⟨#[]⟩] 38)).cell? ⟨W.heap.size, 3, none⟩ = some (.int .i64 fr) := by simp
  have x4 : (W.alloc (.cells #[.int .u32 0, .int .u32 per, .int .i64 2, .int .i64 fr, .int .i64 en, .string ⟨#[]⟩, .int .i64 num, .string ⟨#[]⟩] 38)).cell? ⟨W.heap.size, 4, none⟩ = some (.int .i64 en) := by simp
  have x5 : (W.alloc (.cells #[.int .u32 0, .int .u32 per, .int .i64 2, .int .i64 fr, .int .i64 en, .string ⟨#[]⟩, .int .i64 num, .string ⟨#[]⟩] 38)).cell? ⟨W.heap.size, 5, none⟩ = some (.string ⟨#[]⟩) := by simp
  have x6 : (W.alloc (.cells #[.int .u32 0, .int .u32 per, .int .i64 2, .int .i64 fr, .int .i64 en, .string ⟨#[]⟩, .int .i64 num, .string ⟨#[]⟩] 38)).cell? ⟨W.heap.size, 6, none⟩ = some (.int .i64 num) := by simp
  have x7 : (W.alloc (.cells #[.int .u32 0, .int .u32 per, .int .i64 2, .int .i64 fr, .int .i64 en, .string ⟨#[]⟩, .int .i64 num, .string ⟨#[]⟩] 38)).cell? ⟨W.heap.size, 7, none⟩ = some (.string ⟨#[]⟩) := by simp
  have xs : W.heap.size < (W.alloc (.cells #[.int .u32 0, .int .u32 per, .int .i64 2, .int .i64 fr, .int .i64 en, .string ⟨#[]⟩, .int .i64 num, .string ⟨#[]⟩] 38)).heap.size := by simp
  clear p1 p2 n1 n2
  unfold fv at *
  go_enter Tryz.func13, Tryz.ntmps13
  go_wp2_with fail
  generalize W.alloc (.cells #[.int .u32 0, .int .u32 per, .int .i64 2, .int .i64 fr, .int .i64 en, .string ⟨#[]⟩, .int .i64 num, .string ⟨#[]⟩] 38) = X at *
  obtain ⟨P, hP⟩ : ∃ m, W.heap.size = m := ⟨_, rfl⟩
  have HP := Lib.hid hP
  rw [hP] at x0 x1 x2 x3 x4 x5 x6 x7 xs ⊢
  clear hP
  have HX := Lib.hid (And.intro x0 (And.intro x1 (And.intro x2 (And.intro x3 (And.intro x4 (And.intro x5 (And.intro x6 x7)))))))
  refine (HK.out _).mono ?_
  rintro e w' ⟨rfl, rfl⟩
  clear x0 x1 x3 x4 x5 x6 x7
  go_upto_region 3 with fail
  go_cut [3] (fun s3 wx => CutR [.string ⟨#[115, 97, 108, 97, 114, 121]⟩, .bool false, .bool true, .func (.func 34) #[] #[], .int .i64 0, .int .i64 1125899906842624, .func (.func 35) #[] #[]] X s3 wx)
  case first =>
    have zs : X.heap.size < (X.alloc (.cells #[.string ⟨#[]⟩, .bool false, .bool false, .nilFunc, .int .i64 0, .int .i64 0, .nilFunc] 66)).drew.heap.size := show _ < (X.alloc (.cells #[.string ⟨#[]⟩, .bool false, .bool false, .nilFunc, .int .i64 0, .int .i64 0, .nilFunc] 66)).heap.size by simp
    have zf : ∀ o, (X.alloc (.cells #[.string ⟨#[]⟩, .bool false, .bool false, .nilFunc, .int .i64 0, .int .i64 0, .nilFunc] 66)).drew.frozen? ⟨X.heap.size, o, none⟩ = false := fun o => World.frozen?_alloc_at _ _ _ _ rfl
    have z0 : (X.alloc (.cells #[.string ⟨#[]⟩, .bool false, .bool false, .nilFunc, .int .i64 0, .int .i64 0, .nilFunc] 66)).drew.cell? ⟨X.heap.size, 0, none⟩ = some (.string ⟨#[]⟩) := show (X.alloc (.cells #[.string ⟨#[]⟩, .bool false, .bool false, .nilFunc, .int .i64 0, .int .i64 0, .nilFunc] 66)).cell? _ = _ by simp
    have z1 : (X.alloc (.cells #[.string ⟨#[]⟩, .bool false, .bool false, .nilFunc, .int .i64 0, .int .i64 0, .nilFunc] 66)).drew.cell? ⟨X.heap.size, 1, none⟩ = some (.bool false) := show (X.alloc (.cells #[.string ⟨#[]⟩, .bool false, .bool false, .nilFunc, .int .i64 0, .int .i64 0, .nilFunc] 66)).cell? _ = _ by simp
    have z2 : (X.alloc (.cells #[.string ⟨#[]⟩, .bool false, .bool false, .nilFunc, .int .i64 0, .int .i64 0, .nilFunc] 66)).drew.cell? ⟨X.heap.size, 2, none⟩ = some (.bool false) := show (X.alloc (.cells #[.string ⟨#[]⟩, .bool false, .bool false, .nilFunc, .int .i64 0, .int .i64 0, .nilFunc] 66)).cell? _ = _ by simp
    have z3 : (X.alloc (.cells #[.string ⟨#[]⟩, .bool false, .bool false, .nilFunc, .int .i64 0, .int .i64 0, .nilFunc] 66)).drew.cell? ⟨X.heap.size, 3, none⟩ = some (.nilFunc) := show (X.alloc (.cells #[.string ⟨#[]⟩, .bool false, .bool false, .nilFunc, .int .i64 0, .int .i64 0, .nilFunc] 66)).cell? _ = _ by simp
    have z4 : (X.alloc (.cells #[.string ⟨#[]⟩, .bool false, .bool false, .nilFunc, .int .i64 0, .int .i64 0, .nilFunc] 66)).drew.cell? ⟨X.heap.size, 4, none⟩ = some (.int .i64 0) := show (X.alloc (.cells #[.string ⟨#[]⟩, .bool false, .bool false, .nilFunc, .int .i64 0, .int .i64 0, .nilFunc] 66)).cell? _ = _ by simp
    have z5 : (X.alloc (.cells #[.string ⟨#[]⟩, .bool false, .bool false, .nilFunc, .int .i64 0, .int .i64 0, .nilFunc] 66)).drew.cell? ⟨X.heap.size, 5, none⟩ = some (.int .i64 0) := show (X.alloc (.cells #[.string ⟨#[]⟩, .bool false, .bool false, .nilFunc, .int .i64 0, .int .i64 0, .nilFunc] 66)).cell? _ = _ by simp
    have z6 : (X.alloc (.cells #[.string ⟨#[]⟩, .bool false, .bool false, .nilFunc, .int .i64 0, .int .i64 0, .nilFunc] 66)).drew.cell? ⟨X.heap.size, 6, none⟩ = some (.nilFunc) := show (X.alloc (.cells #[.string ⟨#[]⟩, .bool false, .bool false, .nilFunc, .int .i64 0, .int .i64 0, .nilFunc] 66)).cell? _ = _ by simp
    have HZ := Lib.hid (And.intro zs (And.intro zf (And.intro z0 (And.intro z1 (And.intro z2 (And.intro z3 (And.intro z4 (And.intro z5 z6))))))))
    have HT : Hid ((X.alloc (.cells #[.string ⟨#[]⟩, .bool false, .bool false, .nilFunc, .int .i64 0, .int .i64 0, .nilFunc] 66)).drew.there X.heap.size 0 7) := fun j hj => ⟨by
      rcases (by omega : j = 0 ∨ j = 1 ∨ j = 2 ∨ j = 3 ∨ j = 4 ∨ j = 5 ∨ j = 6) with rfl | rfl | rfl | rfl | rfl | rfl | rfl
      · rw [show 0 + 0 = 0 from rfl, z0]; rfl
      · rw [show 0 + 1 = 1 from rfl, z1]; rfl
      · rw [show 0 + 2 = 2 from rfl, z2]; rfl
      · rw [show 0 + 3 = 3 from rfl, z3]; rfl
      · rw [show 0 + 4 = 4 from rfl, z4]; rfl
      · rw [show 0 + 5 = 5 from rfl, z5]; rfl
      · rw [show 0 + 6 = 6 from rfl, z6]; rfl, zf _⟩
    clear zs zf z0 z1 z2 z3 z4 z5 z6
    have hsf := store_func
    go_region_held3 (fun w' => Below X.heap.size X w' ∧ ∀ b o, b < X.heap.size → w'.cell? ⟨b, o, none⟩ = X.cell? ⟨b, o, none⟩)
      ((first | with_reducible exact keepD | with_reducible exact ⟨hBS, (bcell hBS).1⟩ | with_reducible exact keepZ | with_reducible exact keepA hBS | with_reducible exact keep7 hBS | assumption))
      ((go_at_call 22; refine (HR.out _).mono ?_; rintro e wS ⟨⟨vR, rfl, hvR⟩, hbS⟩; have hix := fun w => (hvR w).1; unfold ruleS at hix; (try have s0 := bc hbS HZ.out.1 HZ.out.2.2.1); (try have s1 := bc hbS HZ.out.1 HZ.out.2.2.2.1); (try have s2 := bc hbS HZ.out.1 HZ.out.2.2.2.2.1); (try have s3 := bc hbS HZ.out.1 HZ.out.2.2.2.2.2.1); (try have s4 := bc hbS HZ.out.1 HZ.out.2.2.2.2.2.2.1); (try have s5 := bc hbS HZ.out.1 HZ.out.2.2.2.2.2.2.2.1); (try have s6 := bc hbS HZ.out.1 HZ.out.2.2.2.2.2.2.2.2); (try have f0 := bf hbS HZ.out.1 (HZ.out.2.1 0)); (try have f1 := bf hbS HZ.out.1 (HZ.out.2.1 1)); (try have f2 := bf hbS HZ.out.1 (HZ.out.2.1 2)); (try have f3 := bf hbS HZ.out.1 (HZ.out.2.1 3)); (try have f4 := bf hbS HZ.out.1 (HZ.out.2.1 4)); (try have f5 := bf hbS HZ.out.1 (HZ.out.2.1 5)); (try have f6 := bf hbS HZ.out.1 (HZ.out.2.1 6)); have hBS : Below X.heap.size X wS := bstep (And.left (by assumption)) hbS))
    all_goals
      go_wp2_with fail
      go_meet
      first
        | with_reducible exact cutR_i hBS
        | with_reducible exact cutR_ii hBS (Nat.lt_of_lt_of_le HZ.out.1 hbS.size) (there_step HT.out hbS HZ.out.1)
  case rest =>
    obtain ⟨Q, rfl, hXQ, hQ, hrs, hbc⟩ := hcut
    have y0 := bc hbc xs HX.out.1
    have y1 := bc hbc xs HX.out.2.1
    have y2 := bc hbc xs HX.out.2.2.1
    have y3 := bc hbc xs HX.out.2.2.2.1
    have y4 := bc hbc xs HX.out.2.2.2.2.1
    have y5 := bc hbc xs HX.out.2.2.2.2.2.1
    have y6 := bc hbc xs HX.out.2.2.2.2.2.2.1
    have y7 := bc hbc xs HX.out.2.2.2.2.2.2.2
    have r0 : wc.cell? ⟨Q, 0, none⟩ = some (.string ⟨#[115, 97, 108, 97, 114, 121]⟩) := by have h := hrs 0 _ rfl; rw [Nat.zero_add] at h; exact h
    have r1 : wc.cell? ⟨Q, 1, none⟩ = some (.bool false) := by have h := hrs 1 _ rfl; rw [Nat.zero_add] at h; exact h
    have r2 : wc.cell? ⟨Q, 2, none⟩ = some (.bool true) := by have h := hrs 2 _ rfl; rw [Nat.zero_add] at h; exact h
    have r3 : wc.cell? ⟨Q, 3, none⟩ = some (.func (.func 34) #[] #[]) := by have h := hrs 3 _ rfl; rw [Nat.zero_add] at h; exact h
    have r4 : wc.cell? ⟨Q, 4, none⟩ = some (.int .i64 0) := by have h := hrs 4 _ rfl; rw [Nat.zero_add] at h; exact h
    have r5 : wc.cell? ⟨Q, 5, none⟩ = some (.int .i64 1125899906842624) := by have h := hrs 5 _ rfl; rw [Nat.zero_add] at h; exact h
    have r6 : wc.cell? ⟨Q, 6, none⟩ = some (.func (.func 35) #[] #[]) := by have h := hrs 6 _ rfl; rw [Nat.zero_add] at h; exact h
    have HPC : Hid (P < wc.heap.size) := Nat.lt_of_lt_of_le xs hbc.size
    have HQC : Hid (Q < wc.heap.size) := hQ
    have HBC := Lib.hid (bstep hB0.out hbc)
    have HY := Lib.hid (And.intro y0 (And.intro y1 (And.intro y2 (And.intro y3 (And.intro y4 (And.intro y5 (And.intro y6 y7)))))))
    have HRS := Lib.hid (And.intro r0 (And.intro r1 (And.intro r2 (And.intro r3 (And.intro r4 (And.intro r5 r6))))))
    clear hrs hbc hXQ hQ xs x2
    go_wp2_with fail
    refine (HD.out _).mono ?_
    rintro e w1 ⟨rfl, hb1⟩
    clear y0 y1 y2 y3 y4 y5 y6 y7 r0 r1 r2 r3 r4 r5 r6
    have y0 := bc hb1 HPC.out HY.out.1
    have y1 := bc hb1 HPC.out HY.out.2.1
    have y2 := bc hb1 HPC.out HY.out.2.2.1
    have y3 := bc hb1 HPC.out HY.out.2.2.2.1
    have y4 := bc hb1 HPC.out HY.out.2.2.2.2.1
    have y5 := bc hb1 HPC.out HY.out.2.2.2.2.2.1
    have y6 := bc hb1 HPC.out HY.out.2.2.2.2.2.2.1
    have y7 := bc hb1 HPC.out HY.out.2.2.2.2.2.2.2
    have r0 := bc hb1 HQC.out HRS.out.1
    have r1 := bc hb1 HQC.out HRS.out.2.1
    have r2 := bc hb1 HQC.out HRS.out.2.2.1
    have r3 := bc hb1 HQC.out HRS.out.2.2.2.1
    have r4 := bc hb1 HQC.out HRS.out.2.2.2.2.1
    have r5 := bc hb1 HQC.out HRS.out.2.2.2.2.2.1
    have r6 := bc hb1 HQC.out HRS.out.2.2.2.2.2.2
    have HB1 := Lib.hid (bstep HBC.out hb1)
    clear hb1
    go_wp2_with fail
    refine (HE.out _).mono ?_
    rintro e w2 ⟨rfl, rfl⟩
    go_wp2_with fail
    refine (HSI.out _).mono ?_
    rintro e w3 ⟨rfl, hb3⟩
    have HB3 := Lib.hid (bstep HB1.out hb3)
    clear hb3 y0 y1 y2 y3 y4 y5 y6 y7 r0 r1 r2 r3 r4 r5 r6
    go_wp2_with fail
    go_ret
    exact ⟨rfl, HB3.out⟩
set_option maxRecDepth 100000 in
set_option maxHeartbeats 4000000 in
theorem check_can (k : Nat) (hk1 : 1 ≤ k) (hk2 : k ≤ 4096) (W : World) : Calls Tryz.prog 13 #[fv (can k)] W fun e w' => e = .returned (.int .i64 0) ∧ Below W.heap.size W w' := by
  have HD := Lib.hid (fun w => days_can k ⟨#[99, 97, 110, 99, 101, 108]⟩ (.func (.func 34) #[] #[]) (.func (.func 35) #[] #[]) 1 4096 w ⟨_, _, rfl⟩ ⟨_, _, rfl⟩)
  have HSI := Lib.hid (fun w => silent_is (can k) w)
  have c1 : decide ((k : Int) < 1) = false := decide_eq_false (by omega)
  have c2 : decide (4096 < (k : Int)) = false := decide_eq_false (by omega)
  have HK := Lib.hid (fun w => known_is 18 (.inr rfl) w)
  have HE := Lib.hid (fun w => empty_is w)
  have HR := Lib.hid (fun w => rules_is w)
  have hB0 := Lib.hid (balloc (Below.refl W.heap.size W) (.cells #[.int .u32 0, .int .u32 0, .int .i64 18, .int .i64 0, .int .i64 0, .string ⟨#[]⟩, .int .i64 (k : Int), .string ⟨#[]⟩] 38))
  have x0 : (W.alloc (.cells #[.int .u32 0, .int .u32 0, .int .i64 18, .int .i64 0, .int .i64 0, .string ⟨#[]⟩, .int .i64 (k : Int), .string ⟨#[]⟩] 38)).cell? ⟨W.heap.size, 0, none⟩ = some (.int .u32 0) := by simp
  have x1 : (W.alloc (.cells #[.int .u32 0, .int .u32 0, .int .i64 18, .int .i64 0, .int .i64 0, .string ⟨#[]⟩, .int .i64 (k : Int), .string ⟨#[]⟩] 38)).cell? ⟨W.heap.size, 1, none⟩ = some (.int .u32 0) := by simp
  have x2 : (W.alloc (.cells #[.int .u32 0, .int .u32 0, .int .i64 18, .int .i64 0, .int .i64 0, .string ⟨#[]⟩, .int .i64 (k : Int), .string ⟨#[]⟩] 38)).cell? ⟨W.heap.size, 2, none⟩ = some (.int .i64 18) := by simp
  have x3 : (W.alloc (.cells #[.int .u32 0, .int .u32 0, .int .i64 18, .int .i64 0, .int .i64 0, .string ⟨#[]⟩, .int .i64 (k : Int), .string ⟨#[]⟩] 38)).cell? ⟨W.heap.size, 3, none⟩ = some (.int .i64 0) := by simp
  have x4 : (W.alloc (.cells #[.int .u32 0, .int .u32 0, .int .i64 18, .int .i64 0, .int .i64 0, .string ⟨#[]⟩, .int .i64 (k : Int), .string ⟨#[]⟩] 38)).cell? ⟨W.heap.size, 4, none⟩ = some (.int .i64 0) := by simp
  have x5 : (W.alloc (.cells #[.int .u32 0, .int .u32 0, .int .i64 18, .int .i64 0, .int .i64 0, .string ⟨#[]⟩, .int .i64 (k : Int), .string ⟨#[]⟩] 38)).cell? ⟨W.heap.size, 5, none⟩ = some (.string ⟨#[]⟩) := by simp
  have x6 : (W.alloc (.cells #[.int .u32 0, .int .u32 0, .int .i64 18, .int .i64 0, .int .i64 0, .string ⟨#[]⟩, .int .i64 (k : Int), .string ⟨#[]⟩] 38)).cell? ⟨W.heap.size, 6, none⟩ = some (.int .i64 (k : Int)) := by simp
  have x7 : (W.alloc (.cells #[.int .u32 0, .int .u32 0, .int .i64 18, .int .i64 0, .int .i64 0, .string ⟨#[]⟩, .int .i64 (k : Int), .string ⟨#[]⟩] 38)).cell? ⟨W.heap.size, 7, none⟩ = some (.string ⟨#[]⟩) := by simp
  have xs : W.heap.size < (W.alloc (.cells #[.int .u32 0, .int .u32 0, .int .i64 18, .int .i64 0, .int .i64 0, .string ⟨#[]⟩, .int .i64 (k : Int), .string ⟨#[]⟩] 38)).heap.size := by simp
  clear hk1 hk2
  unfold fv can at *
  go_enter Tryz.func13, Tryz.ntmps13
  go_wp2_with fail
  generalize W.alloc (.cells #[.int .u32 0, .int .u32 0, .int .i64 18, .int .i64 0, .int .i64 0, .string ⟨#[]⟩, .int .i64 (k : Int), .string ⟨#[]⟩] 38) = X at *
  obtain ⟨P, hP⟩ : ∃ m, W.heap.size = m := ⟨_, rfl⟩
  have HP := Lib.hid hP
  rw [hP] at x0 x1 x2 x3 x4 x5 x6 x7 xs ⊢
  clear hP
  have HX := Lib.hid (And.intro x0 (And.intro x1 (And.intro x2 (And.intro x3 (And.intro x4 (And.intro x5 (And.intro x6 x7)))))))
  refine (HK.out _).mono ?_
  rintro e w' ⟨rfl, rfl⟩
  clear x0 x1 x3 x4 x5 x6 x7
  go_upto_region 3 with fail
  go_cut [3] (fun s3 wx => CutR [.string ⟨#[99, 97, 110, 99, 101, 108]⟩, .bool true, .bool false, .func (.func 34) #[] #[], .int .i64 1, .int .i64 4096, .func (.func 35) #[] #[]] X s3 wx)
  case first =>
    have zs : X.heap.size < (X.alloc (.cells #[.string ⟨#[]⟩, .bool false, .bool false, .nilFunc, .int .i64 0, .int .i64 0, .nilFunc] 66)).drew.heap.size := show _ < (X.alloc (.cells #[.string ⟨#[]⟩, .bool false, .bool false, .nilFunc, .int .i64 0, .int .i64 0, .nilFunc] 66)).heap.size by simp
    have zf : ∀ o, (X.alloc (.cells #[.string ⟨#[]⟩, .bool false, .bool false, .nilFunc, .int .i64 0, .int .i64 0, .nilFunc] 66)).drew.frozen? ⟨X.heap.size, o, none⟩ = false := fun o => World.frozen?_alloc_at _ _ _ _ rfl
    have z0 : (X.alloc (.cells #[.string ⟨#[]⟩, .bool false, .bool false, .nilFunc, .int .i64 0, .int .i64 0, .nilFunc] 66)).drew.cell? ⟨X.heap.size, 0, none⟩ = some (.string ⟨#[]⟩) := show (X.alloc (.cells #[.string ⟨#[]⟩, .bool false, .bool false, .nilFunc, .int .i64 0, .int .i64 0, .nilFunc] 66)).cell? _ = _ by simp
    have z1 : (X.alloc (.cells #[.string ⟨#[]⟩, .bool false, .bool false, .nilFunc, .int .i64 0, .int .i64 0, .nilFunc] 66)).drew.cell? ⟨X.heap.size, 1, none⟩ = some (.bool false) := show (X.alloc (.cells #[.string ⟨#[]⟩, .bool false, .bool false, .nilFunc, .int .i64 0, .int .i64 0, .nilFunc] 66)).cell? _ = _ by simp
    have z2 : (X.alloc (.cells #[.string ⟨#[]⟩, .bool false, .bool false, .nilFunc, .int .i64 0, .int .i64 0, .nilFunc] 66)).drew.cell? ⟨X.heap.size, 2, none⟩ = some (.bool false) := show (X.alloc (.cells #[.string ⟨#[]⟩, .bool false, .bool false, .nilFunc, .int .i64 0, .int .i64 0, .nilFunc] 66)).cell? _ = _ by simp
    have z3 : (X.alloc (.cells #[.string ⟨#[]⟩, .bool false, .bool false, .nilFunc, .int .i64 0, .int .i64 0, .nilFunc] 66)).drew.cell? ⟨X.heap.size, 3, none⟩ = some (.nilFunc) := show (X.alloc (.cells #[.string ⟨#[]⟩, .bool false, .bool false, .nilFunc, .int .i64 0, .int .i64 0, .nilFunc] 66)).cell? _ = _ by simp
    have z4 : (X.alloc (.cells #[.string ⟨#[]⟩, .bool false, .bool false, .nilFunc, .int .i64 0, .int .i64 0, .nilFunc] 66)).drew.cell? ⟨X.heap.size, 4, none⟩ = some (.int .i64 0) := show (X.alloc (.cells #[.string ⟨#[]⟩, .bool false, .bool false, .nilFunc, .int .i64 0, .int .i64 0, .nilFunc] 66)).cell? _ = _ by simp
    have z5 : (X.alloc (.cells #[.string ⟨#[]⟩, .bool false, .bool false, .nilFunc, .int .i64 0, .int .i64 0, .nilFunc] 66)).drew.cell? ⟨X.heap.size, 5, none⟩ = some (.int .i64 0) := show (X.alloc (.cells #[.string ⟨#[]⟩, .bool false, .bool false, .nilFunc, .int .i64 0, .int .i64 0, .nilFunc] 66)).cell? _ = _ by simp
    have z6 : (X.alloc (.cells #[.string ⟨#[]⟩, .bool false, .bool false, .nilFunc, .int .i64 0, .int .i64 0, .nilFunc] 66)).drew.cell? ⟨X.heap.size, 6, none⟩ = some (.nilFunc) := show (X.alloc (.cells #[.string ⟨#[]⟩, .bool false, .bool false, .nilFunc, .int .i64 0, .int .i64 0, .nilFunc] 66)).cell? _ = _ by simp
    have HZ := Lib.hid (And.intro zs (And.intro zf (And.intro z0 (And.intro z1 (And.intro z2 (And.intro z3 (And.intro z4 (And.intro z5 z6))))))))
    have HT : Hid ((X.alloc (.cells #[.string ⟨#[]⟩, .bool false, .bool false, .nilFunc, .int .i64 0, .int .i64 0, .nilFunc] 66)).drew.there X.heap.size 0 7) := fun j hj => ⟨by
      rcases (by omega : j = 0 ∨ j = 1 ∨ j = 2 ∨ j = 3 ∨ j = 4 ∨ j = 5 ∨ j = 6) with rfl | rfl | rfl | rfl | rfl | rfl | rfl
      · rw [show 0 + 0 = 0 from rfl, z0]; rfl
      · rw [show 0 + 1 = 1 from rfl, z1]; rfl
      · rw [show 0 + 2 = 2 from rfl, z2]; rfl
      · rw [show 0 + 3 = 3 from rfl, z3]; rfl
      · rw [show 0 + 4 = 4 from rfl, z4]; rfl
      · rw [show 0 + 5 = 5 from rfl, z5]; rfl
      · rw [show 0 + 6 = 6 from rfl, z6]; rfl, zf _⟩
    clear zs zf z0 z1 z2 z3 z4 z5 z6
    have hsf := store_func
    go_region_held3 (fun w' => Below X.heap.size X w' ∧ ∀ b o, b < X.heap.size → w'.cell? ⟨b, o, none⟩ = X.cell? ⟨b, o, none⟩)
      ((first | with_reducible exact keepD | with_reducible exact ⟨hBS, (bcell hBS).1⟩ | with_reducible exact keepZ | with_reducible exact keepA hBS | with_reducible exact keep7 hBS | assumption))
      ((go_at_call 22; refine (HR.out _).mono ?_; rintro e wS ⟨⟨vR, rfl, hvR⟩, hbS⟩; have hix := fun w => (hvR w).2; unfold ruleC at hix; (try have s0 := bc hbS HZ.out.1 HZ.out.2.2.1); (try have s1 := bc hbS HZ.out.1 HZ.out.2.2.2.1); (try have s2 := bc hbS HZ.out.1 HZ.out.2.2.2.2.1); (try have s3 := bc hbS HZ.out.1 HZ.out.2.2.2.2.2.1); (try have s4 := bc hbS HZ.out.1 HZ.out.2.2.2.2.2.2.1); (try have s5 := bc hbS HZ.out.1 HZ.out.2.2.2.2.2.2.2.1); (try have s6 := bc hbS HZ.out.1 HZ.out.2.2.2.2.2.2.2.2); (try have f0 := bf hbS HZ.out.1 (HZ.out.2.1 0)); (try have f1 := bf hbS HZ.out.1 (HZ.out.2.1 1)); (try have f2 := bf hbS HZ.out.1 (HZ.out.2.1 2)); (try have f3 := bf hbS HZ.out.1 (HZ.out.2.1 3)); (try have f4 := bf hbS HZ.out.1 (HZ.out.2.1 4)); (try have f5 := bf hbS HZ.out.1 (HZ.out.2.1 5)); (try have f6 := bf hbS HZ.out.1 (HZ.out.2.1 6)); have hBS : Below X.heap.size X wS := bstep (And.left (by assumption)) hbS))
    all_goals
      go_wp2_with fail
      go_meet
      first
        | with_reducible exact cutR_i hBS
        | with_reducible exact cutR_ii hBS (Nat.lt_of_lt_of_le HZ.out.1 hbS.size) (there_step HT.out hbS HZ.out.1)
  case rest =>
    obtain ⟨Q, rfl, hXQ, hQ, hrs, hbc⟩ := hcut
    have y0 := bc hbc xs HX.out.1
    have y1 := bc hbc xs HX.out.2.1
    have y2 := bc hbc xs HX.out.2.2.1
    have y3 := bc hbc xs HX.out.2.2.2.1
    have y4 := bc hbc xs HX.out.2.2.2.2.1
    have y5 := bc hbc xs HX.out.2.2.2.2.2.1
    have y6 := bc hbc xs HX.out.2.2.2.2.2.2.1
    have y7 := bc hbc xs HX.out.2.2.2.2.2.2.2
    have r0 : wc.cell? ⟨Q, 0, none⟩ = some (.string ⟨#[99, 97, 110, 99, 101, 108]⟩) := by have h := hrs 0 _ rfl; rw [Nat.zero_add] at h; exact h
    have r1 : wc.cell? ⟨Q, 1, none⟩ = some (.bool true) := by have h := hrs 1 _ rfl; rw [Nat.zero_add] at h; exact h
    have r2 : wc.cell? ⟨Q, 2, none⟩ = some (.bool false) := by have h := hrs 2 _ rfl; rw [Nat.zero_add] at h; exact h
    have r3 : wc.cell? ⟨Q, 3, none⟩ = some (.func (.func 34) #[] #[]) := by have h := hrs 3 _ rfl; rw [Nat.zero_add] at h; exact h
    have r4 : wc.cell? ⟨Q, 4, none⟩ = some (.int .i64 1) := by have h := hrs 4 _ rfl; rw [Nat.zero_add] at h; exact h
    have r5 : wc.cell? ⟨Q, 5, none⟩ = some (.int .i64 4096) := by have h := hrs 5 _ rfl; rw [Nat.zero_add] at h; exact h
    have r6 : wc.cell? ⟨Q, 6, none⟩ = some (.func (.func 35) #[] #[]) := by have h := hrs 6 _ rfl; rw [Nat.zero_add] at h; exact h
    have HPC : Hid (P < wc.heap.size) := Nat.lt_of_lt_of_le xs hbc.size
    have HQC : Hid (Q < wc.heap.size) := hQ
    have HBC := Lib.hid (bstep hB0.out hbc)
    have HY := Lib.hid (And.intro y0 (And.intro y1 (And.intro y2 (And.intro y3 (And.intro y4 (And.intro y5 (And.intro y6 y7)))))))
    have HRS := Lib.hid (And.intro r0 (And.intro r1 (And.intro r2 (And.intro r3 (And.intro r4 (And.intro r5 r6))))))
    clear hrs hbc hXQ hQ xs x2
    go_wp2_with fail
    refine (HD.out _).mono ?_
    rintro e w1 ⟨rfl, hb1⟩
    clear y0 y1 y2 y3 y4 y5 y6 y7 r0 r1 r2 r3 r4 r5 r6
    have y0 := bc hb1 HPC.out HY.out.1
    have y1 := bc hb1 HPC.out HY.out.2.1
    have y2 := bc hb1 HPC.out HY.out.2.2.1
    have y3 := bc hb1 HPC.out HY.out.2.2.2.1
    have y4 := bc hb1 HPC.out HY.out.2.2.2.2.1
    have y5 := bc hb1 HPC.out HY.out.2.2.2.2.2.1
    have y6 := bc hb1 HPC.out HY.out.2.2.2.2.2.2.1
    have y7 := bc hb1 HPC.out HY.out.2.2.2.2.2.2.2
    have r0 := bc hb1 HQC.out HRS.out.1
    have r1 := bc hb1 HQC.out HRS.out.2.1
    have r2 := bc hb1 HQC.out HRS.out.2.2.1
    have r3 := bc hb1 HQC.out HRS.out.2.2.2.1
    have r4 := bc hb1 HQC.out HRS.out.2.2.2.2.1
    have r5 := bc hb1 HQC.out HRS.out.2.2.2.2.2.1
    have r6 := bc hb1 HQC.out HRS.out.2.2.2.2.2.2
    have HB1 := Lib.hid (bstep HBC.out hb1)
    clear hb1
    go_wp2_with fail
    refine (HE.out _).mono ?_
    rintro e w2 ⟨rfl, rfl⟩
    go_wp2_with fail
    refine (HSI.out _).mono ?_
    rintro e w3 ⟨rfl, hb3⟩
    have HB3 := Lib.hid (bstep HB1.out hb3)
    clear hb3 y0 y1 y2 y3 y4 y5 y6 y7 r0 r1 r2 r3 r4 r5 r6
    go_wp2_with fail
    go_ret
    exact ⟨rfl, HB3.out⟩
end Go.Proofs.YtbnjgbllenndaaaGreatDoor.W
