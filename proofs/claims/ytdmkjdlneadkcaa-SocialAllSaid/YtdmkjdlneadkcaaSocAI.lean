/- SocialAll: two lists of items that are the same. -/
import Derived.Test.YtdmkjdlneadkcaaSocAS
namespace Go.Proofs.Ytdmkjdlneadkcaa.W
open Go.RowKit Go.Proofs.Ytdmkjdlneadkcaa.M Go.Proofs.Ytdmkjdlneadkcaa.B Go.Proofs.Ytdmkjdlneadkcaa.S
set_option linter.unusedVariables false

def ic (p : ByteArray × Int) : List Value := [.string p.1, .int .i64 p.2]
theorem flat_XR (L : List (ByteArray × Int)) (d : ByteArray × Int) : ∀ m, m ≤ L.length → flat (L.take m) = XR (fun j => ic (L.getD j d)) m
  | 0, _ => by simp [flat, XR]
  | m + 1, h => by
    have e : L.take (m + 1) = L.take m ++ [L.getD m d] := by
      rw [List.take_add_one]
      congr 1
      rw [List.getD_eq_getElem?_getD, List.getElem?_eq_getElem (by omega)]
      rfl
    rw [e, flat_app, flat_XR L d m (by omega)]
    show _ = XR _ m ++ _
    congr 1
theorem ownL_lst {w : World} {base : Nat} {v : Value} {L : List (ByteArray × Int)} (h : OwnL w base v L) (hL : L.length ≤ 1000) (d : ByteArray × Int) : ∃ a cap, v = .slice a L.length cap ∧ Lst 2 w a L.length (fun j => ic (L.getD j d)) := by
  have e := flat_XR L d L.length (Nat.le_refl _)
  rw [List.take_length] at e
  unfold OwnL at h
  rw [e] at h
  exact own_lst (z := 2) (fun j => rfl) h (by omega)

set_option maxRecDepth 100000 in
theorem items_is (a b : Option Addr) (n ca cb : Nat) (f : Nat → ByteArray × Int) (W : World) (ha : Lst 2 W a n (fun j => ic (f j))) (hb : Lst 2 W b n (fun j => ic (f j))) :
    Calls Try.prog 18 #[.slice a n ca, .slice b n cb] W fun e w' => e = .returned (.bool true) ∧ Below W.heap.size W w' := by
  have hn := ha.1
  have hgu : Try.prog.eqGuardType Try.prog.depth 50 = false := by kernel_rfl
  go_enter Try.func18, Try.ntmps18
  go_wp2_with fail
  go_loopw [5] (fun s5 wx => ∃ i : Nat, i ≤ n ∧ s5 = .int .i64 i ∧ Below W.heap.size W wx) (fun s5 _ => n - (intOf s5).toNat)
  case atStart => exact ⟨0, Nat.zero_le _, rfl, Below.refl _ _⟩
  case round =>
    obtain ⟨i, hi, rfl, hbel⟩ := hrel
    by_cases ci : i < n
    · have hw : IntKind.i64.wrap ((i : Int) + 1) = (i : Int) + 1 := IntWalk.i64_in _ (by omega)
      have l1 : (i : Int) < (n : Int) := by omega
      have l0 : (0 : Int) ≤ (i : Int) := by omega
      obtain ⟨b1, o1, rfl, hlt1, hc1⟩ := (ha.step hbel).at_ (j := i) (by omega)
      obtain ⟨b2, o2, rfl, hlt2, hc2⟩ := (hb.step hbel).at_ (j := i) (by omega)
      have d0 := hc1 0 (.string (f i).1) rfl
      have d1 := hc1 1 (.int .i64 (f i).2) rfl
      have e0 := hc2 0 (.string (f i).1) rfl
      have e1 := hc2 1 (.int .i64 (f i).2) rfl
      rw [Nat.add_zero] at d0 e0
      clear hc1 hc2 ha hb
      generalize f i = p at *
      obtain ⟨s, c⟩ := p
      simp only at d0 d1 e0 e1
      go_wp2_with fail
      go_quiet (fail)
      go_wp2_with fail
      go_roundw
      case rel => exact ⟨i + 1, by omega, by go_num, below_drewN hbel _⟩
      case measure => simp [intOf]; omega
    · obtain rfl : i = n := by omega
      go_wp2_with fail
      go_ret
      exact ⟨rfl, hbel⟩
end Go.Proofs.Ytdmkjdlneadkcaa.W
