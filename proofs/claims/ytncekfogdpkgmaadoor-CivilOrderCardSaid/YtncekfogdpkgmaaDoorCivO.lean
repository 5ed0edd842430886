/- The walk of the law of civil on the order of texts. -/
import Derived.Test.YtncekfogdpkgmaaDoorCivW
import Derived.Test.YtncekfogdpkgmaaDoorCivOp
namespace Go.Proofs.YtncekfogdpkgmaaDoor.W
open Go.RowKit Go.Proofs.YtncekfogdpkgmaaDoor.M

theorem order (a b : Int) (w : World) (ht : Tab w) (_ha : 0 ≤ a ∧ a ≤ 4294967295) (_hb : 0 ≤ b ∧ b ≤ 4294967295) :
    Calls Tryd.prog 8 #[.int .u32 a, .int .u32 b] w fun e w' => e = .returned (.bool true) ∧ Below w.heap.size w w' := by
  obtain ⟨y, m, k, hv, hd⟩ := Cal.has_date (-25567 + a % 109566) (by omega) (by omega)
  have hd' : -25567 + a % 109566 = Cal.day y m k := hd.symm
  obtain ⟨y2, m2, k2, hv2, hd2⟩ := Cal.has_date (-25567 + b % 109566) (by omega) (by omega)
  have hd2' : -25567 + b % 109566 = Cal.day y2 m2 k2 := hd2.symm
  have Htx := Lib.hid (fun W (h : Tab W) => text_yes (Cal.day y m k) y m k W h hv rfl)
  have Htx2 := Lib.hid (fun W (h : Tab W) => text_yes (Cal.day y2 m2 k2) y2 m2 k2 W h hv2 rfl)
  obtain ⟨hl, he⟩ := text_order y m k y2 m2 k2 hv hv2
  have i0 : -25567 ≤ Cal.day y m k ∧ Cal.day y m k + 7 ≤ 84005 := by omega
  clear hd hd2 hv hv2
  generalize Cal.day y m k = D at *
  generalize Cal.day y2 m2 k2 = D2 at *
  generalize textL y m k = S at *
  generalize textL y2 m2 k2 = S2 at *
  go_enter Tryd.func8, Tryd.ntmps8
  go_wp2_with fail
  refine (Htx.out _ ht).mono ?_
  rintro e w1 ⟨rfl, hb1⟩
  have ht1 := ht.step hb1
  go_wp2_with fail
  refine (Htx2.out _ ht1).mono ?_
  rintro e w2 ⟨rfl, hb2⟩
  have ht2 := ht1.step hb2
  have e7 : ((D + 7 + 25567) % 7 == (D + 25567) % 7) = true := by rw [beq_iff_eq]; omega
  go_wp2_with fail
  refine (weekday_yes _ _ (by omega) (by omega)).mono ?_
  rintro e w3 ⟨rfl, rfl⟩
  go_wp2_with fail
  refine (weekday_yes _ _ (by omega) (by omega)).mono ?_
  rintro e w3 ⟨rfl, rfl⟩
  go_wp2_with fail
  refine (awake_any _ ht2).mono ?_
  rintro e w3 ⟨rfl, hb3⟩
  go_wp2_with fail
  go_ret
  exact ⟨rfl, bstep (bstep hb1 hb2) hb3⟩
end Go.Proofs.YtncekfogdpkgmaaDoor.W
