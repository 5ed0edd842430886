/- What is told, as a fact. -/
import Derived.Test.YtbnjgbllenndaaaGreatDoorTkM
import Derived.Test.YtbnjgbllenndaaaGreatDoorTkB
import Derived.Deep.DeepCutAuto
namespace Go.Proofs.YtbnjgbllenndaaaGreatDoor.W
open Go.RowKit Go.Proofs.YtbnjgbllenndaaaGreatDoor.M Go.Proofs.YtbnjgbllenndaaaGreatDoor.S
set_option linter.unusedVariables false

def tv (x : Tt) : Value := .agg #[.int .u8 x.p, .int .u32 x.c, .int .u16 x.f, .int .u16 x.d, .int .u16 x.i]
def fvi (i : Int) (x : Fc) : Value := .agg #[.int .u32 i, .int .u32 x.per, .int .i64 x.kind, .int .i64 x.fr, .int .i64 x.en, .string ⟨#[]⟩, .int .i64 x.num, .string ⟨#[]⟩]
set_option maxRecDepth 100000 in
set_option maxHeartbeats 2000000 in
theorem fact_is (x : Tt) (hx : x.ok) (W : World) : Calls Tryz.prog 12 #[tv x] W fun e w' => e = .returned (fvi x.i (tf x)) ∧ Below W.heap.size W w' := by
  obtain ⟨h1, h2, h3, h4, h5⟩ := hx
  obtain ⟨p, c, f, d, i⟩ := x
  simp only at h1 h2 h3 h4 h5
  have e1 : f.tmod 30000 = f % 30000 := Int.tmod_eq_emod_of_nonneg h3.1
  have e2 : d.tmod 30000 = d % 30000 := Int.tmod_eq_emod_of_nonneg h4.1
  obtain ⟨a, ha⟩ : ∃ a, f % 30000 = a := ⟨_, rfl⟩
  obtain ⟨b, hb⟩ : ∃ b, d % 30000 = b := ⟨_, rfl⟩
  have ha1 : 0 ≤ a ∧ a < 30000 := by omega
  have hb1 : 0 ≤ b ∧ b < 30000 := by omega
  have HR : Hid (fvi i (tf ⟨p, c, f, d, i⟩) = .agg #[.int .u32 i, .int .u32 (p + 1), .int .i64 2, .int .i64 a, .int .i64 (if 0 < b then a + b else 0), .string ⟨#[]⟩, .int .i64 c, .string ⟨#[]⟩]) := by
    show Value.agg #[.int .u32 i, .int .u32 (p + 1), .int .i64 2, .int .i64 (f % 30000), .int .i64 (if 0 < d % 30000 then f % 30000 + d % 30000 else 0), .string ⟨#[]⟩, .int .i64 c, .string ⟨#[]⟩] = _
    rw [ha, hb]
  rw [ha] at e1
  rw [hb] at e2
  have w1 : IntKind.u32.wrap i = i := by simp [IntKind.wrap, IntKind.bits, IntKind.signed]; omega
  have w2 : IntKind.u32.wrap p = p := by simp [IntKind.wrap, IntKind.bits, IntKind.signed]; omega
  have w3 : IntKind.u32.wrap (p + 1) = p + 1 := by simp [IntKind.wrap, IntKind.bits, IntKind.signed]; omega
  have w4 : IntKind.u16.wrap a = a := by simp [IntKind.wrap, IntKind.bits, IntKind.signed]; omega
  have w5 : IntKind.u16.wrap b = b := by simp [IntKind.wrap, IntKind.bits, IntKind.signed]; omega
  have w6 : IntKind.i64.wrap a = a := IntWalk.i64_in _ (by omega)
  have w7 : IntKind.i64.wrap b = b := IntWalk.i64_in _ (by omega)
  have w8 : IntKind.i64.wrap c = c := IntWalk.i64_in _ (by omega)
  have w9 : IntKind.i64.wrap (a + b) = a + b := IntWalk.i64_in _ (by omega)
  clear ha hb h1 h2 h3 h4 h5
  unfold tv
  by_cases h0 : 0 < b
  · have d0 : decide (0 < b) = true := decide_eq_true h0
    rw [if_pos h0] at HR
    go_enter Tryz.func12, Tryz.ntmps12
    go_upto_region 4 with fail
    obtain ⟨V, hV⟩ : ∃ V, (((W.alloc (.cells #[.int .u8 p, .int .u32 c, .int .u16 f, .int .u16 d, .int .u16 i] 26)).alloc (.cells #[.int .u32 0, .int .u32 0, .int .i64 0, .int .i64 0, .int .i64 0, .string ⟨#[]⟩, .int .i64 0, .string ⟨#[]⟩] 38)).alloc (.cells #[.int .u32 i, .int .u32 (p + 1), .int .i64 2, .int .i64 a, .int .i64 (a + b), .string ⟨#[]⟩, .int .i64 c, .string ⟨#[]⟩] 38)) = V := ⟨_, rfl⟩
    have hBV : Hid (Below W.heap.size W V) := by rw [← hV]; exact balloc (balloc (balloc (Below.refl _ _) _) _) _
    have y0 : V.cell? ⟨W.heap.size + 1 + 1, 0, none⟩ = some (.int .u32 i) := by rw [← hV]; clear hV; go_simp
    have y1 : V.cell? ⟨W.heap.size + 1 + 1, 1, none⟩ = some (.int .u32 (p + 1)) := by rw [← hV]; clear hV; go_simp
    have y2 : V.cell? ⟨W.heap.size + 1 + 1, 2, none⟩ = some (.int .i64 2) := by rw [← hV]; clear hV; go_simp
    have y3 : V.cell? ⟨W.heap.size + 1 + 1, 3, none⟩ = some (.int .i64 a) := by rw [← hV]; clear hV; go_simp
    have y4 : V.cell? ⟨W.heap.size + 1 + 1, 4, none⟩ = some (.int .i64 (a + b)) := by rw [← hV]; clear hV; go_simp
    have y5 : V.cell? ⟨W.heap.size + 1 + 1, 5, none⟩ = some (.string ⟨#[]⟩) := by rw [← hV]; clear hV; go_simp
    have y6 : V.cell? ⟨W.heap.size + 1 + 1, 6, none⟩ = some (.int .i64 c) := by rw [← hV]; clear hV; go_simp
    have y7 : V.cell? ⟨W.heap.size + 1 + 1, 7, none⟩ = some (.string ⟨#[]⟩) := by rw [← hV]; clear hV; go_simp
    have hT : V.there (W.heap.size + 1) 0 8 := by
      have h := there_step (there_alloc (W.alloc (.cells #[.int .u8 p, .int .u32 c, .int .u16 f, .int .u16 d, .int .u16 i] 26)) #[.int .u32 0, .int .u32 0, .int .i64 0, .int .i64 0, .int .i64 0, .string ⟨#[]⟩, .int .i64 0, .string ⟨#[]⟩] 38) (balloc (Below.refl _ _) (.cells #[.int .u32 i, .int .u32 (p + 1), .int .i64 2, .int .i64 a, .int .i64 (a + b), .string ⟨#[]⟩, .int .i64 c, .string ⟨#[]⟩] 38)) (by simp)
      rw [hV] at h
      simpa using h
    rw [hV]
    clear hV
    have HT := Lib.hid hT
    clear hT
    go_wp2_with (refine wpList_store_mid (P := Tryz.prog) rfl 38 (.tmp 2) (.tmp 31) rfl (W.heap.size + 1) 0 #[.int .u32 i, .int .u32 (p + 1), .int .i64 2, .int .i64 a, .int .i64 (a + b), .string ⟨#[]⟩, .int .i64 c, .string ⟨#[]⟩] rfl rfl HT.out (by kernel_rfl) (by kernel_rfl) ?_)
    (try simp only [Exit.inBlock, Exit.then])
    refine bodyPost_ret (results_cell_mid (fn := Tryz.f12) (p := 2) (ty := 38) Tryz.results12 _ _ (W.heap.size + 1) 0 [.int .u32 i, .int .u32 (p + 1), .int .i64 2, .int .i64 a, .int .i64 (a + b), .string ⟨#[]⟩, .int .i64 c, .string ⟨#[]⟩] _ rfl (World.rangeAt_setCells_same V (W.heap.size + 1) 0 _ HT.out) Tryz.underlying38 rfl (by kernel_rfl)) rfl ⟨by rw [HR.out], ?_⟩
    exact below_setCells (W.heap.size + 1) (by omega) _ 0 V hBV.out
  · have d0 : decide (0 < b) = false := decide_eq_false h0
    rw [if_neg h0] at HR
    go_enter Tryz.func12, Tryz.ntmps12
    go_upto_region 4 with fail
    obtain ⟨V, hV⟩ : ∃ V, (((W.alloc (.cells #[.int .u8 p, .int .u32 c, .int .u16 f, .int .u16 d, .int .u16 i] 26)).alloc (.cells #[.int .u32 0, .int .u32 0, .int .i64 0, .int .i64 0, .int .i64 0, .string ⟨#[]⟩, .int .i64 0, .string ⟨#[]⟩] 38)).alloc (.cells #[.int .u32 i, .int .u32 (p + 1), .int .i64 2, .int .i64 a, .int .i64 0, .string ⟨#[]⟩, .int .i64 c, .string ⟨#[]⟩] 38)) = V := ⟨_, rfl⟩
    have hBV : Hid (Below W.heap.size W V) := by rw [← hV]; exact balloc (balloc (balloc (Below.refl _ _) _) _) _
    have y0 : V.cell? ⟨W.heap.size + 1 + 1, 0, none⟩ = some (.int .u32 i) := by rw [← hV]; clear hV; go_simp
    have y1 : V.cell? ⟨W.heap.size + 1 + 1, 1, none⟩ = some (.int .u32 (p + 1)) := by rw [← hV]; clear hV; go_simp
    have y2 : V.cell? ⟨W.heap.size + 1 + 1, 2, none⟩ = some (.int .i64 2) := by rw [← hV]; clear hV; go_simp
    have y3 : V.cell? ⟨W.heap.size + 1 + 1, 3, none⟩ = some (.int .i64 a) := by rw [← hV]; clear hV; go_simp
    have y4 : V.cell? ⟨W.heap.size + 1 + 1, 4, none⟩ = some (.int .i64 0) := by rw [← hV]; clear hV; go_simp
    have y5 : V.cell? ⟨W.heap.size + 1 + 1, 5, none⟩ = some (.string ⟨#[]⟩) := by rw [← hV]; clear hV; go_simp
    have y6 : V.cell? ⟨W.heap.size + 1 + 1, 6, none⟩ = some (.int .i64 c) := by rw [← hV]; clear hV; go_simp
    have y7 : V.cell? ⟨W.heap.size + 1 + 1, 7, none⟩ = some (.string ⟨#[]⟩) := by rw [← hV]; clear hV; go_simp
    have hT : V.there (W.heap.size + 1) 0 8 := by
      have h := there_step (there_alloc (W.alloc (.cells #[.int .u8 p, .int .u32 c, .int .u16 f, .int .u16 d, .int .u16 i] 26)) #[.int .u32 0, .int .u32 0, .int .i64 0, .int .i64 0, .int .i64 0, .string ⟨#[]⟩, .int .i64 0, .string ⟨#[]⟩] 38) (balloc (Below.refl _ _) (.cells #[.int .u32 i, .int .u32 (p + 1), .int .i64 2, .int .i64 a, .int .i64 0, .string ⟨#[]⟩, .int .i64 c, .string ⟨#[]⟩] 38)) (by simp)
      rw [hV] at h
      simpa using h
    rw [hV]
    clear hV
    have HT := Lib.hid hT
    clear hT
    go_wp2_with (refine wpList_store_mid (P := Tryz.prog) rfl 38 (.tmp 2) (.tmp 31) rfl (W.heap.size + 1) 0 #[.int .u32 i, .int .u32 (p + 1), .int .i64 2, .int .i64 a, .int .i64 0, .string ⟨#[]⟩, .int .i64 c, .string ⟨#[]⟩] rfl rfl HT.out (by kernel_rfl) (by kernel_rfl) ?_)
    (try simp only [Exit.inBlock, Exit.then])
    refine bodyPost_ret (results_cell_mid (fn := Tryz.f12) (p := 2) (ty := 38) Tryz.results12 _ _ (W.heap.size + 1) 0 [.int .u32 i, .int .u32 (p + 1), .int .i64 2, .int .i64 a, .int .i64 0, .string ⟨#[]⟩, .int .i64 c, .string ⟨#[]⟩] _ rfl (World.rangeAt_setCells_same V (W.heap.size + 1) 0 _ HT.out) Tryz.underlying38 rfl (by kernel_rfl)) rfl ⟨by rw [HR.out], ?_⟩
    exact below_setCells (W.heap.size + 1) (by omega) _ 0 V hBV.out
end Go.Proofs.YtbnjgbllenndaaaGreatDoor.W
