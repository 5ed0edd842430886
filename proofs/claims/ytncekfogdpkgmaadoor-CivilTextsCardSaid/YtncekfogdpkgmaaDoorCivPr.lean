/- The walk of the law of civil on texts. -/
import Derived.Test.YtncekfogdpkgmaaDoorCivQ
import Derived.Test.YtncekfogdpkgmaaDoorCivP
import Derived.Test.YtncekfogdpkgmaaDoorCivW
namespace Go.Proofs.YtncekfogdpkgmaaDoor.W
open Go.RowKit Go.Proofs.YtncekfogdpkgmaaDoor.M

theorem num_app (l r : List UInt8) (n : Int) : num (l ++ r) n = (num l n).bind (num r) := by
  induction l generalizing n with
  | nil => rfl
  | cons b l ih =>
    simp only [List.cons_append, num]
    by_cases c : (b.toNat : Int) < 48 ∨ 57 < (b.toNat : Int)
    · rw [if_pos c, if_pos c]; rfl
    · rw [if_neg c, if_neg c]; exact ih _
theorem num_db (q : Int) (h0 : 0 ≤ q) (h1 : q ≤ 9) (n : Int) : num [db q] n = some (10 * n + q) := by
  have h := db_toNat q h0 h1
  simp only [num]
  rw [if_neg (by omega), h]
  congr 1; omega
theorem num_dig (k : Nat) : ∀ n : Int, 0 ≤ n → n < ((10 ^ k : Nat) : Int) → num (dig n k) 0 = some n := by
  induction k with
  | zero => intro n h0 h1; simp at h1; have : n = 0 := by omega
            subst this; rfl
  | succ k ih =>
    intro n h0 h1
    have hp : ((10 ^ (k + 1) : Nat) : Int) = 10 * ((10 ^ k : Nat) : Int) := by rw [Nat.pow_succ]; omega
    rw [hp] at h1
    rw [dig, num_app, ih (n / 10) (by omega) (by omega), Option.bind_some, num_db _ (by omega) (by omega)]
    congr 1; omega

theorem prs_text (y m k : Int) (h : Cal.Valid y m k) : prs (textL y m k) = (Cal.day y m k, 0) := by
  have h' := h
  obtain ⟨y0, y1, m0, m1, k0, k1⟩ := h'
  have hl := Cal.len_bd y m
  have e4 : ((10 ^ 4 : Nat) : Int) = 10000 := by decide
  have e2 : ((10 ^ 2 : Nat) : Int) = 100 := by decide
  have n1 := num_dig 4 y (by omega) (by omega)
  have n2 := num_dig 2 m (by omega) (by omega)
  have n3 := num_dig 2 k (by omega) (by omega)
  have l1 := dig_length y 4
  have l2 := dig_length m 2
  have l3 := dig_length k 2
  have ht : (textL y m k).take 4 = dig y 4 := by simp [textL, List.append_assoc, l1]
  have ht2 : ((textL y m k).drop 5).take 2 = dig m 2 := by
    rw [dig4] at *
    simp [textL, dig4, dig2]
  have ht3 : (textL y m k).drop 8 = dig k 2 := by simp [textL, dig4, dig2]
  have hlen : (textL y m k).length = 10 := by simp [textL, l1, l2, l3]
  have g4 : (textL y m k).getD 4 0 = 45 := by simp [textL, dig4, dig2]
  have g7 : (textL y m k).getD 7 0 = 45 := by simp [textL, dig4, dig2]
  have hMD : Cal.MD y m = Cal.len y m := by unfold Cal.MD; rw [if_pos (by omega)]
  unfold prs
  rw [if_neg (by rw [hlen, g4, g7]; simp), ht, ht2, ht3]
  simp only [numB, numI, n1, n2, n3, Option.isSome_some, Option.getD_some]
  rw [if_pos (by simp), if_neg (by rw [hMD]; omega)]

theorem texts (d : Int) (w : World) (ht : Tab w) (_hd : -9223372036854775808 ≤ d ∧ d ≤ 9223372036854775807) :
    Calls Tryd.prog 10 #[.int .i64 d] w fun e w' => e = .returned (.bool true) ∧ Below w.heap.size w w' := by
  by_cases h : d < -25567 ∨ 84005 < d
  · have h' := Lib.hid h; clear h
    go_enter Tryd.func10, Tryd.ntmps10
    go_wp2_with fail
    refine (text_no _ _ h'.out).mono ?_
    rintro e w1 ⟨rfl, rfl⟩
    go_wp2_with fail
    refine (rin_no _ _ h'.out).mono ?_
    rintro e w1 ⟨rfl, rfl⟩
    go_wp2_with fail
    refine (awake_any _ ht).mono ?_
    rintro e w1 ⟨rfl, hb1⟩
    go_wp2_with fail
    go_ret
    exact ⟨rfl, hb1⟩
  · have hin0 : -25567 ≤ d := by omega
    have hin1 : d ≤ 84005 := by omega
    clear h
    obtain ⟨y, m, k, hv, hd⟩ := Cal.has_date d hin0 hin1
    have Htx := Lib.hid (fun W (h : Tab W) => text_yes d y m k W h hv hd)
    have Hrtx := Lib.hid (fun W => rtext d y m k W hv hd)
    have hps := fun W (h : Tab W) => parse_any (⟨(textL y m k).toArray⟩ : ByteArray) W h (by
      have l1 := dig_length y 4
      have l2 := dig_length m 2
      have l3 := dig_length k 2
      show (textL y m k).toArray.size ≤ 300
      simp [textL, l1, l2, l3])
    rw [show (⟨(textL y m k).toArray⟩ : ByteArray).data.toList = textL y m k from rfl, prs_text y m k hv, hd] at hps
    have Hps := Lib.hid hps
    clear hps hv hd
    generalize textL y m k = S at *
    go_enter Tryd.func10, Tryd.ntmps10
    go_wp2_with fail
    refine (Htx.out _ ht).mono ?_
    rintro e w1 ⟨rfl, hb1⟩
    have ht1 := ht.step hb1
    go_wp2_with fail
    refine (rin_yes _ _ hin0 hin1).mono ?_
    rintro e w2 ⟨rfl, rfl⟩
    go_wp2_with fail
    refine (Hps.out _ ht1).mono ?_
    rintro e w2 ⟨rfl, hb2⟩
    have ht2 := ht1.step hb2
    go_wp2_with fail
    refine (Hrtx.out _).mono ?_
    rintro e w3 ⟨rfl, hb3⟩
    have ht3 := ht2.step hb3
    go_wp2_with fail
    refine (awake_any _ ht3).mono ?_
    rintro e w4 ⟨rfl, hb4⟩
    go_wp2_with fail
    go_ret
    exact ⟨rfl, bstep (bstep (bstep hb1 hb2) hb3) hb4⟩
end Go.Proofs.YtncekfogdpkgmaaDoor.W
