/- The walks of civil's texts. -/
import Derived.Test.YtncekfogdpkgmaaDoorCivC
import Derived.Test.YtncekfogdpkgmaaDoorStr
namespace Go.Proofs.YtncekfogdpkgmaaDoor.W
open Go.RowKit Go.Proofs.YtncekfogdpkgmaaDoor.M

theorem digits_any (n : Int) (many : Nat) (w : World) (h0 : 0 ≤ n) (h1 : n ≤ 1000000) (h2 : many ≤ 10) :
    Calls Tryd.prog 33 #[.int .i64 n, .int .i64 many] w fun e w' => e = .returned (.string ⟨(dig n many).toArray⟩) ∧ w = w' := by
  go_enter Tryd.func33, Tryd.ntmps33
  go_wp2
  go_loop [0, 5, 7] (fun s0 s5 s7 => ∃ (j : Nat) (a : Int) (l : List UInt8), j ≤ many ∧ s7 = .int .i64 j ∧ s0 = .int .i64 a ∧ 0 ≤ a ∧ a ≤ 1000000 ∧ l.length ≤ j ∧ s5 = .string ⟨l.toArray⟩ ∧ Hid (dig n many = dig a (many - j) ++ l)) (fun _ _ i => many - (intOf i).toNat)
  case atStart => exact ⟨0, n, [], by omega, rfl, rfl, h0, h1, Nat.le_refl _, rfl, by show _ = _; simp⟩
  case round =>
    obtain ⟨j, a, l, hj, rfl, rfl, a0, a1, hl, rfl, hd⟩ := hrel
    by_cases c : j < many
    · have q0 : 0 ≤ a % 10 := by omega
      have q1 : a % 10 ≤ 9 := by omega
      have hd' : Hid (dig n many = dig (a / 10) (many - (j + 1)) ++ (db (a % 10) :: l)) := by
        have h := hd.out
        rw [show many - j = (many - (j + 1)) + 1 from by omega, dig, List.append_assoc] at h
        exact h
      have hb : ¬ 9223372036854775807 < (Utf8.encode (48 + a % 10)).size + l.length := by rw [enc_size _ q0 q1]; omega
      clear hd
      go_wp2
      go_round
      case rel => exact ⟨j + 1, a / 10, db (a % 10) :: l, by omega, by go_num, rfl, by omega, by omega, by simp; omega, by rw [enc_app _ q0 q1], hd'⟩
      case measure => simp [intOf]; omega
    · obtain rfl : j = many := by omega
      have hd' : Hid (l = dig n j) := by
        have h := hd.out
        rw [Nat.sub_self, dig, List.nil_append] at h
        exact h.symm
      clear hd
      go_wp2
      go_ret
      exact ⟨by rw [← hd'.out]; rfl, rfl⟩

/-- A day's text. -/
def textL (y m k : Int) : List UInt8 := dig y 4 ++ [45] ++ dig m 2 ++ [45] ++ dig k 2

theorem text_no (d : Int) (w : World) (h : d < -25567 ∨ 84005 < d) :
    Calls Tryd.prog 20 #[.int .i64 d] w fun e w' => e = .returned (.string ⟨#[]⟩) ∧ w = w' := by
  go_enter Tryd.func20, Tryd.ntmps20
  go_wp2_with (go_at_call 32; refine (in_no d _ h).mono ?_; rintro e w' ⟨rfl, rfl⟩)
  go_ret
  exact ⟨rfl, rfl⟩

theorem text_yes (d y m k : Int) (w : World) (ht : Tab w) (hv : Cal.Valid y m k) (hd : Cal.day y m k = d) :
    Calls Tryd.prog 20 #[.int .i64 d] w fun e w' => e = .returned (.string ⟨(textL y m k).toArray⟩) ∧ Below w.heap.size w w' := by
  have hin := Cal.day_in y m k hv
  rw [hd] at hin
  have hl := Cal.len_bd y m
  have hto := Lib.hid (to_yes d y m k w ht hv hd)
  obtain ⟨y0, y1, m0, m1, k0, k1⟩ := hv
  have HD := Lib.hid hd
  clear hd
  have y4 := dig_length y 4
  have m2 := dig_length m 2
  have k2 := dig_length k 2
  go_enter Tryd.func20, Tryd.ntmps20
  go_wp2_with (go_at_call 32; refine (in_yes d _ hin.1 hin.2).mono ?_; rintro e w' ⟨rfl, rfl⟩)
  refine hto.out.mono ?_
  rintro e w1 ⟨rfl, hb1⟩
  go_wp2
  go_quiet ((first | (go_at_call_of 33 (Value.int IntKind.i64 y); exact quiet_left (digits_any y 4 _ (by omega) (by omega) (by omega))) | (go_at_call_of 33 (Value.int IntKind.i64 m); exact quiet_left (digits_any m 2 _ (by omega) (by omega) (by omega))) | (go_at_call_of 33 (Value.int IntKind.i64 k); exact quiet_left (digits_any k 2 _ (by omega) (by omega) (by omega)))))
  go_wp2
  go_ret
  exact ⟨ret_str (by rw [textL, ← app_str, ← app_str, ← app_str, ← app_str]), below_drewN (balloc hb1 _) _⟩

/-- Digits, read: the number and that there were digits alone; else nothing. -/
def num : List UInt8 → Int → Option Int
  | [], n => some n
  | b :: r, n => if (b.toNat : Int) < 48 ∨ 57 < (b.toNat : Int) then none else num r (10 * n + ((b.toNat : Int) - 48))

def numI (l : List UInt8) : Int := (num l 0).getD 0
def numB (l : List UInt8) : Bool := (num l 0).isSome

theorem drop_cons8 (xs : List UInt8) (k : Nat) (h : k < xs.length) : xs.drop k = xs.getD k 0 :: xs.drop (k + 1) := by
  rw [List.drop_eq_getElem_cons h]
  simp [List.getD_eq_getElem?_getD, h]

theorem pow10 (j : Nat) (h : j ≤ 10) : ((10 ^ j : Nat) : Int) ≤ 10000000000 := by
  have := Nat.pow_le_pow_right (n := 10) (by decide) h
  omega

theorem number_any (s : ByteArray) (w : World) (hs : s.size ≤ 10) :
    Calls Tryd.prog 34 #[.string s] w fun e w' => e = .returned (.tuple #[.int .i64 (numI s.data.toList), .bool (numB s.data.toList)]) ∧ Below w.heap.size w w' := by
  obtain ⟨cap, W1, hcv, hb1, hz1, hcell⟩ := bytes_of (P := Tryd.prog) w 9 59 5 s Tryd.underlying9 Tryd.underlying59 Tryd.underlying5
  have hlen : s.data.toList.length = s.size := by simp
  generalize hl : s.data.toList = l at *
  clear hl
  have hlen' := Lib.hid hlen; clear hlen
  go_enter Tryd.func34, Tryd.ntmps34
  go_wp2
  clear hcv
  go_loop [4, 10] (fun s4 i => ∃ (j : Nat) (a : Int), j ≤ s.size ∧ i = .int .i64 j ∧ s4 = .int .i64 a ∧ 0 ≤ a ∧ a < ((10 ^ j : Nat) : Int) ∧ Hid (num l 0 = num (l.drop j) a)) (fun _ i => s.size - (intOf i).toNat)
  case atStart => exact ⟨0, 0, Nat.zero_le _, rfl, rfl, by omega, by decide, rfl⟩
  case round =>
    obtain ⟨j, a, hj, rfl, rfl, a0, a1, hn⟩ := hrel
    by_cases c : j < s.size
    · have hc := hcell j (by rw [hlen'.out]; exact c)
      have hn' := hn.out
      rw [drop_cons8 l j (by rw [hlen'.out]; exact c)] at hn'
      generalize l.getD j 0 = b at *
      have hb256 : (b.toNat : Int) < 256 := by have := b.toNat_lt; omega
      have hp : ((10 ^ (j + 1) : Nat) : Int) = 10 * ((10 ^ j : Nat) : Int) := by rw [Nat.pow_succ]; omega
      have hp10 := pow10 j (by omega)
      have HP := Lib.hid hp; clear hp
      by_cases d : (b.toNat : Int) < 48
      · have hfin : Hid (num l 0 = none) := by rw [hn', num, if_pos (.inl d)]; rfl
        clear hn hn'
        go_wp2
        go_ret2
        exact ⟨by rw [numI, numB, hfin.out]; rfl, hb1⟩
      by_cases d2 : 57 < (b.toNat : Int)
      · have hfin : Hid (num l 0 = none) := by rw [hn', num, if_pos (.inr d2)]; rfl
        clear hn hn'
        go_wp2
        go_ret2
        exact ⟨by rw [numI, numB, hfin.out]; rfl, hb1⟩
      have hfin : Hid (num l 0 = num (l.drop (j + 1)) (10 * a + ((b.toNat : Int) - 48))) := by rw [hn', num, if_neg (by omega)]; rfl
      clear hn hn'
      go_wp2
      go_round
      case rel => exact ⟨j + 1, _, by omega, by go_num, rfl, by omega, by rw [HP.out]; omega, hfin⟩
      case measure => simp [intOf]; omega
    · have hfin : Hid (num l 0 = some a) := by
        have h := hn.out
        rw [List.drop_of_length_le (by rw [hlen'.out]; omega), num] at h
        exact h
      clear hn
      go_wp2
      go_ret2
      exact ⟨by rw [numI, numB, hfin.out]; rfl, hb1⟩
end Go.Proofs.YtncekfogdpkgmaaDoor.W
