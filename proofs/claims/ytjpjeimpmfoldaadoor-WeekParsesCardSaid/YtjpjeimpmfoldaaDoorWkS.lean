/- The walks of the week's texts: a number in tens, a week's text; the reference's. -/
import Derived.Test.YtjpjeimpmfoldaaDoorWkJ
import Derived.Test.YtjpjeimpmfoldaaDoorWkP
namespace Go.Proofs.YtjpjeimpmfoldaaDoor.W
open Go.RowKit Go.Proofs.YtjpjeimpmfoldaaDoor.M Go.Proofs.YtjpjeimpmfoldaaDoor.WL Go.Proofs.YtjpjeimpmfoldaaDoor.WP

theorem numI_low (a : Int) (h0 : 0 ≤ a) (h1 : a ≤ 9) : numT a.toNat = [db a] := by
  rw [numT, if_pos (by omega)]; congr 2; omega
theorem numI_high (a : Int) (h1 : 9 < a) : numT a.toNat = numT (a / 10).toNat ++ [db (a % 10)] := by
  rw [numT, if_neg (by omega)]
  rw [show a.toNat / 10 = (a / 10).toNat by omega, show ((a.toNat % 10 : Nat) : Int) = a % 10 by omega]
theorem numT_len (n : Nat) (h : n ≤ 9999) : 0 < (numT n).length ∧ (numT n).length ≤ 4 := by
  have h1 : ∀ m, m < 10 → (numT m).length = 1 := fun m hm => by rw [numT, if_pos hm]; rfl
  have h2 : ∀ m, m < 100 → 0 < (numT m).length ∧ (numT m).length ≤ 2 := fun m hm => by
    by_cases c : m < 10
    · rw [h1 m c]; omega
    · rw [numT, if_neg c, List.length_append, h1 _ (by omega)]; simp
  have h3 : ∀ m, m < 1000 → 0 < (numT m).length ∧ (numT m).length ≤ 3 := fun m hm => by
    by_cases c : m < 10
    · rw [h1 m c]; omega
    · have := h2 (m / 10) (by omega)
      rw [numT, if_neg c, List.length_append]; simp; omega
  by_cases c : n < 10
  · rw [h1 n c]; omega
  · have := h3 (n / 10) (by omega)
    rw [numT, if_neg c, List.length_append]; simp; omega

theorem number_is (n : Int) (w : World) (h0 : 0 ≤ n) (h1 : n ≤ 1440) :
    Calls Tryd.prog 29 #[.int .i64 n] w fun e w' => e = .returned (.string ⟨(numT n.toNat).toArray⟩) ∧ w = w' := by
  go_enter Tryd.func29, Tryd.ntmps29
  go_wp2
  go_loop [0, 3] (fun s0 s3 => ∃ (a : Int) (l : List UInt8), s0 = .int .i64 a ∧ 0 ≤ a ∧ a + l.length ≤ n ∧ s3 = .string ⟨l.toArray⟩ ∧ Hid (numT n.toNat = numT a.toNat ++ l)) (fun s0 _ => (intOf s0).toNat)
  case atStart => exact ⟨n, [], rfl, h0, by simp, rfl, by show _ = _; simp⟩
  case round =>
    obtain ⟨a, l, rfl, a0, a1, rfl, hd⟩ := hrel
    by_cases c : 9 < a
    · have q0 : 0 ≤ a % 10 := by omega
      have q1 : a % 10 ≤ 9 := by omega
      have hd' : Hid (numT n.toNat = numT (a / 10).toNat ++ (db (a % 10) :: l)) := by
        have h := hd.out
        rw [numI_high a c, List.append_assoc] at h
        exact h
      have hb : ¬ 9223372036854775807 < (Utf8.encode (48 + a % 10)).size + l.length := by rw [enc_size _ q0 q1]; omega
      clear hd
      go_wp2
      go_round
      case rel => exact ⟨a / 10, db (a % 10) :: l, rfl, by omega, by simp; omega, by rw [enc_app _ q0 q1], hd'⟩
      case measure => simp [intOf]; omega
    · have a9 : a ≤ 9 := by omega
      have hd' : Hid (db a :: l = numT n.toNat) := by
        have h := hd.out
        rw [numI_low a a0 a9] at h
        exact h.symm
      have hb : ¬ 9223372036854775807 < (Utf8.encode (48 + a)).size + l.length := by rw [enc_size _ a0 a9]; omega
      clear hd
      go_wp2
      go_ret
      exact ⟨ret_str (by rw [← hd'.out]; exact enc_app a a0 a9 l), rfl⟩
-- TEXTS
theorem text_bad (k : Nat → Int) (w : World) (h : ¬ ok k) :
    Calls Tryd.prog 22 #[.agg #[.int .i64 (k 0), .int .i64 (k 1), .int .i64 (k 2), .int .i64 (k 3), .int .i64 (k 4), .int .i64 (k 5), .int .i64 (k 6)]] w fun e w' => e = .returned (.string ⟨#[]⟩) ∧ Below w.heap.size w w' := by
  go_enter Tryd.func22, Tryd.ntmps22
  go_wp2_with fail
  refine (right_not k _ h).mono ?_
  rintro e w1 ⟨rfl, hb1⟩
  go_wp2_with fail
  go_ret
  exact ⟨rfl, bstep (balloc (Below.refl _ _) _) hb1⟩

theorem text_ok (k : Nat → Int) (w : World) (h : ok k) :
    Calls Tryd.prog 22 #[.agg #[.int .i64 (k 0), .int .i64 (k 1), .int .i64 (k 2), .int .i64 (k 3), .int .i64 (k 4), .int .i64 (k 5), .int .i64 (k 6)]] w fun e w' => e = .returned (.string ⟨(weekT k).toArray⟩) ∧ Below w.heap.size w w' := by
  have hok := Lib.hid (fun i hi => ok_at h i hi)
  have hln := Lib.hid (fun i hi => numT_len (k i).toNat (by have := ok_at h i hi; omega))
  have b0 := hok.out 0 (by omega)
  have n0 := hln.out 0 (by omega)
  go_enter Tryd.func22, Tryd.ntmps22
  go_wp2_with fail
  refine (right_ok k _ h).mono ?_
  rintro e w1 ⟨rfl, hb1⟩
  clear h
  obtain ⟨hc, hf⟩ := bcell hb1
  go_wp2_with (go_at_call 29; refine (number_is _ _ (by omega) (by omega)).mono ?_; rintro e w' ⟨rfl, rfl⟩)
  go_loop [3, 14] (fun s3 s14 => ∃ (i : Nat) (l : List UInt8), i ≤ 6 ∧ s14 = .int .i64 i ∧ s3 = .string ⟨l.toArray⟩ ∧ l.length ≤ 5 * i + 4 ∧ Hid (weekT k = l ++ tailT k (i + 1) (6 - i))) (fun _ s => (7 - intOf s).toNat)
  case atStart => exact ⟨0, _, by omega, rfl, rfl, by omega, rfl⟩
  case round =>
    obtain ⟨i, l, hi, rfl, rfl, hl, hw⟩ := hrel
    rcases (by omega : i = 0 ∨ i = 1 ∨ i = 2 ∨ i = 3 ∨ i = 4 ∨ i = 5 ∨ i = 6) with rfl | rfl | rfl | rfl | rfl | rfl | rfl
    · have b := hok.out 1 (by omega)
      have n := hln.out 1 (by omega)
      have hw' : Hid (weekT k = (l ++ ([32] ++ numT (k 1).toNat)) ++ tailT k 2 5) := by
        have h := hw.out
        rw [show tailT k 1 6 = [32] ++ numT (k 1).toNat ++ tailT k 2 5 from rfl] at h
        show _ = _
        rw [h]; simp
      clear hw
      go_wp2_with (go_at_call 29; refine (number_is _ _ (by omega) (by omega)).mono ?_; rintro e w' ⟨rfl, rfl⟩)
      go_round
      case rel => exact ⟨1, _, by omega, rfl, by rw [← app_str, ← app_str], by simp; omega, hw'⟩
      case measure => simp [intOf]
    · have b := hok.out 2 (by omega)
      have n := hln.out 2 (by omega)
      have hw' : Hid (weekT k = (l ++ ([32] ++ numT (k 2).toNat)) ++ tailT k 3 4) := by
        have h := hw.out
        rw [show tailT k 2 5 = [32] ++ numT (k 2).toNat ++ tailT k 3 4 from rfl] at h
        show _ = _
        rw [h]; simp
      clear hw
      go_wp2_with (go_at_call 29; refine (number_is _ _ (by omega) (by omega)).mono ?_; rintro e w' ⟨rfl, rfl⟩)
      go_round
      case rel => exact ⟨2, _, by omega, rfl, by rw [← app_str, ← app_str], by simp; omega, hw'⟩
      case measure => simp [intOf]
    · have b := hok.out 3 (by omega)
      have n := hln.out 3 (by omega)
      have hw' : Hid (weekT k = (l ++ ([32] ++ numT (k 3).toNat)) ++ tailT k 4 3) := by
        have h := hw.out
        rw [show tailT k 3 4 = [32] ++ numT (k 3).toNat ++ tailT k 4 3 from rfl] at h
        show _ = _
        rw [h]; simp
      clear hw
      go_wp2_with (go_at_call 29; refine (number_is _ _ (by omega) (by omega)).mono ?_; rintro e w' ⟨rfl, rfl⟩)
      go_round
      case rel => exact ⟨3, _, by omega, rfl, by rw [← app_str, ← app_str], by simp; omega, hw'⟩
      case measure => simp [intOf]
    · have b := hok.out 4 (by omega)
      have n := hln.out 4 (by omega)
      have hw' : Hid (weekT k = (l ++ ([32] ++ numT (k 4).toNat)) ++ tailT k 5 2) := by
        have h := hw.out
        rw [show tailT k 4 3 = [32] ++ numT (k 4).toNat ++ tailT k 5 2 from rfl] at h
        show _ = _
        rw [h]; simp
      clear hw
      go_wp2_with (go_at_call 29; refine (number_is _ _ (by omega) (by omega)).mono ?_; rintro e w' ⟨rfl, rfl⟩)
      go_round
      case rel => exact ⟨4, _, by omega, rfl, by rw [← app_str, ← app_str], by simp; omega, hw'⟩
      case measure => simp [intOf]
    · have b := hok.out 5 (by omega)
      have n := hln.out 5 (by omega)
      have hw' : Hid (weekT k = (l ++ ([32] ++ numT (k 5).toNat)) ++ tailT k 6 1) := by
        have h := hw.out
        rw [show tailT k 5 2 = [32] ++ numT (k 5).toNat ++ tailT k 6 1 from rfl] at h
        show _ = _
        rw [h]; simp
      clear hw
      go_wp2_with (go_at_call 29; refine (number_is _ _ (by omega) (by omega)).mono ?_; rintro e w' ⟨rfl, rfl⟩)
      go_round
      case rel => exact ⟨5, _, by omega, rfl, by rw [← app_str, ← app_str], by simp; omega, hw'⟩
      case measure => simp [intOf]
    · have b := hok.out 6 (by omega)
      have n := hln.out 6 (by omega)
      have hw' : Hid (weekT k = (l ++ ([32] ++ numT (k 6).toNat)) ++ tailT k 7 0) := by
        have h := hw.out
        rw [show tailT k 6 1 = [32] ++ numT (k 6).toNat ++ tailT k 7 0 from rfl] at h
        show _ = _
        rw [h]; simp
      clear hw
      go_wp2_with (go_at_call 29; refine (number_is _ _ (by omega) (by omega)).mono ?_; rintro e w' ⟨rfl, rfl⟩)
      go_round
      case rel => exact ⟨6, _, by omega, rfl, by rw [← app_str, ← app_str], by simp; omega, hw'⟩
      case measure => simp [intOf]
    · have hw' : Hid (l = weekT k) := by
        have h := hw.out
        rw [show tailT k (6 + 1) (6 - 6) = [] from rfl, List.append_nil] at h
        exact h.symm
      clear hw
      go_wp2_with fail
      go_ret
      exact ⟨ret_str (by rw [← hw'.out]), bstep (balloc (Below.refl _ _) _) hb1⟩

/-- What the reference's number has still to write. -/
def restT (a : Int) : List UInt8 := if a = 0 then [] else numT a.toNat
theorem restT_step (a : Int) (h : 0 < a) : restT a = restT (a / 10) ++ [db (a % 10)] := by
  unfold restT
  rw [if_neg (by omega)]
  by_cases c : 9 < a
  · rw [if_neg (by omega), numI_high a c]
  · rw [if_pos (by omega), numI_low a (by omega) (by omega), show a % 10 = a by omega]; rfl
theorem numT_zero : numT (0 : Int).toNat = [db 0] := by rw [numT, if_pos (by decide)]; rfl

theorem restT_first (n : Int) (h : 0 ≤ n) : numT n.toNat = restT (n / 10) ++ [db (n % 10)] := by
  by_cases c : 0 < n
  · rw [← restT_step n c]; unfold restT; rw [if_neg (by omega)]
  · obtain rfl : n = 0 := by omega
    rw [numT_zero]; unfold restT; rfl
def lenOf : Value → Nat
  | .string s => s.size
  | _ => 0
theorem dbn (q : Int) (h0 : 0 ≤ q) (h1 : q ≤ 9) : ((db q).toNat : Int) = 48 + q := by
  have h : q = 0 ∨ q = 1 ∨ q = 2 ∨ q = 3 ∨ q = 4 ∨ q = 5 ∨ q = 6 ∨ q = 7 ∨ q = 8 ∨ q = 9 := by omega
  rcases h with rfl | rfl | rfl | rfl | rfl | rfl | rfl | rfl | rfl | rfl <;> decide
theorem one_back (q : Int) (h0 : 0 ≤ q) (h1 : q ≤ 9) (w : World) : (convert 58 9 (.slice (some ⟨w.heap.size, 0, none⟩) 1 1)).run Tryd.prog (w.alloc (.cells #[.int .u8 (48 + q)] 5)) = .ok (.string ⟨[db q].toArray⟩) (w.alloc (.cells #[.int .u8 (48 + q)] 5)) := by
  have d := dbn q h0 h1
  have h := run_convert_bytes_back (P := Tryd.prog) (w.alloc (.cells #[.int .u8 (48 + q)] 5)) 58 9 5 ⟨w.heap.size, 0, none⟩ 1 [db q] Tryd.underlying58 Tryd.underlying5 Tryd.underlying9 (by
    intro j hj
    match j, hj with
    | 0, _ => simp [Addr.add, d])
  exact h

theorem rnumber (n : Int) (w : World) (h0 : 0 ≤ n) (h1 : n ≤ 1440) :
    Calls Tryd.prog 30 #[.int .i64 n] w fun e w' => e = .returned (.string ⟨(numT n.toNat).toArray⟩) ∧ Below w.heap.size w w' := by
  go_enter Tryd.func30, Tryd.ntmps30
  go_wp2
  go_loopw [0, 3] (fun s0 s3 wr => ∃ (a : Int) (l : List UInt8), s0 = .int .i64 a ∧ 0 ≤ a ∧ a + l.length ≤ n + 1 ∧ s3 = .string ⟨l.toArray⟩ ∧ Hid ((l = [] ∧ a = n) ∨ (l ≠ [] ∧ numT n.toNat = restT a ++ l)) ∧ Below w.heap.size w wr) (fun s0 s3 _ => 3000 * (intOf s0).toNat + (2000 - lenOf s3))
  case atStart => exact ⟨n, [], rfl, h0, by simp; omega, rfl, .inl ⟨rfl, rfl⟩, Below.refl _ _⟩
  case round =>
    obtain ⟨a, l, rfl, a0, a1, rfl, hd, hbel⟩ := hrel
    have q0 : 0 ≤ a % 10 := by omega
    have q1 : a % 10 ≤ 9 := by omega
    have hb : ¬ 9223372036854775807 < 1 + l.length := by omega
    have hcv := one_back (a % 10) q0 q1 wr
    rcases hd.out with ⟨rfl, hn⟩ | ⟨hl, hn⟩
    · have hn' : Hid (numT n.toNat = restT (a / 10) ++ [db (a % 10)]) := by show _ = _; rw [hn]; exact restT_first n h0
      clear hn hd
      go_wp2
      go_roundw
      case rel => exact ⟨a / 10, [db (a % 10)], rfl, by omega, by simp at a1 ⊢; omega, rfl, .inr ⟨by simp, hn'.out⟩, balloc hbel _⟩
      case measure => simp [intOf, lenOf, ByteArray.size]; omega
    · have hle : l.isEmpty = false := by cases l with
        | nil => exact absurd rfl hl
        | cons c l => rfl
      by_cases c : 0 < a
      · have hn' : Hid (numT n.toNat = restT (a / 10) ++ (db (a % 10) :: l)) := by
          show _ = _; rw [hn, restT_step a c, List.append_assoc]; rfl
        clear hn hd hl
        go_wp2
        go_roundw
        case rel => exact ⟨a / 10, db (a % 10) :: l, rfl, by omega, by simp; omega, by rw [app_str]; rfl, .inr ⟨by simp, hn'.out⟩, balloc hbel _⟩
        case measure => simp [intOf, lenOf, ByteArray.size]; omega
      · have ha : a = 0 := by omega
        subst ha
        have hn' : Hid (l = numT n.toNat) := by show _ = _; rw [hn]; rfl
        clear hn hd hl
        go_wp2
        go_ret
        exact ⟨ret_str (by rw [← hn'.out]), hbel⟩

theorem rtext_ok (k : Nat → Int) (w : World) (h : ok k) :
    Calls Tryd.prog 23 #[.agg #[.int .i64 (k 0), .int .i64 (k 1), .int .i64 (k 2), .int .i64 (k 3), .int .i64 (k 4), .int .i64 (k 5), .int .i64 (k 6)]] w fun e w' => e = .returned (.string ⟨(weekT k).toArray⟩) ∧ Below w.heap.size w w' := by
  have hok := Lib.hid (fun i hi => ok_at h i hi)
  have hln := Lib.hid (fun i hi => numT_len (k i).toNat (by have := ok_at h i hi; omega))
  have b0 := hok.out 0 (by omega)
  have n0 := hln.out 0 (by omega)
  clear h
  have hb0 := balloc (Below.refl w.heap.size w) (.cells #[.int .i64 (k 0), .int .i64 (k 1), .int .i64 (k 2), .int .i64 (k 3), .int .i64 (k 4), .int .i64 (k 5), .int .i64 (k 6)] 22)
  go_enter Tryd.func23, Tryd.ntmps23
  go_wp2_with fail
  refine (rnumber _ _ (by omega) (by omega)).mono ?_
  rintro e w1 ⟨rfl, hb1⟩
  go_wp2_with fail
  go_loopw [3, 4] (fun s3 s4 wr => ∃ (i : Nat) (l : List UInt8), i ≤ 6 ∧ s4 = .int .i64 (i + 1) ∧ s3 = .string ⟨l.toArray⟩ ∧ l.length ≤ 5 * i + 4 ∧ Hid (weekT k = l ++ tailT k (i + 1) (6 - i)) ∧ Hid (Below (w.alloc (.cells #[.int .i64 (k 0), .int .i64 (k 1), .int .i64 (k 2), .int .i64 (k 3), .int .i64 (k 4), .int .i64 (k 5), .int .i64 (k 6)] 22)).heap.size (w.alloc (.cells #[.int .i64 (k 0), .int .i64 (k 1), .int .i64 (k 2), .int .i64 (k 3), .int .i64 (k 4), .int .i64 (k 5), .int .i64 (k 6)] 22)) wr)) (fun _ s _ => (8 - intOf s).toNat)
  case atStart => exact ⟨0, _, by omega, rfl, rfl, by omega, rfl, hb1⟩
  case round =>
    obtain ⟨i, l, hi, rfl, rfl, hl, hw, hbr⟩ := hrel
    obtain ⟨hc, hf⟩ := bcell hbr.out
    rcases (by omega : i = 0 ∨ i = 1 ∨ i = 2 ∨ i = 3 ∨ i = 4 ∨ i = 5 ∨ i = 6) with rfl | rfl | rfl | rfl | rfl | rfl | rfl
    · have b := hok.out 1 (by omega)
      have n := hln.out 1 (by omega)
      have hw' : Hid (weekT k = (l ++ [32] ++ numT (k 1).toNat) ++ tailT k 2 5) := by
        have h := hw.out
        rw [show tailT k 1 6 = [32] ++ numT (k 1).toNat ++ tailT k 2 5 from rfl] at h
        show _ = _
        rw [h]; simp
      clear hw
      go_wp2_with fail
      refine (rnumber _ _ (by omega) (by omega)).mono ?_
      rintro e w2 ⟨rfl, hb2⟩
      go_wp2_with fail
      go_roundw
      case rel => exact ⟨1, _, by omega, rfl, by rw [← app_str, ← app_str], by simp; omega, hw', bstep hbr.out hb2⟩
      case measure => simp [intOf]
    · have b := hok.out 2 (by omega)
      have n := hln.out 2 (by omega)
      have hw' : Hid (weekT k = (l ++ [32] ++ numT (k 2).toNat) ++ tailT k 3 4) := by
        have h := hw.out
        rw [show tailT k 2 5 = [32] ++ numT (k 2).toNat ++ tailT k 3 4 from rfl] at h
        show _ = _
        rw [h]; simp
      clear hw
      go_wp2_with fail
      refine (rnumber _ _ (by omega) (by omega)).mono ?_
      rintro e w2 ⟨rfl, hb2⟩
      go_wp2_with fail
      go_roundw
      case rel => exact ⟨2, _, by omega, rfl, by rw [← app_str, ← app_str], by simp; omega, hw', bstep hbr.out hb2⟩
      case measure => simp [intOf]
    · have b := hok.out 3 (by omega)
      have n := hln.out 3 (by omega)
      have hw' : Hid (weekT k = (l ++ [32] ++ numT (k 3).toNat) ++ tailT k 4 3) := by
        have h := hw.out
        rw [show tailT k 3 4 = [32] ++ numT (k 3).toNat ++ tailT k 4 3 from rfl] at h
        show _ = _
        rw [h]; simp
      clear hw
      go_wp2_with fail
      refine (rnumber _ _ (by omega) (by omega)).mono ?_
      rintro e w2 ⟨rfl, hb2⟩
      go_wp2_with fail
      go_roundw
      case rel => exact ⟨3, _, by omega, rfl, by rw [← app_str, ← app_str], by simp; omega, hw', bstep hbr.out hb2⟩
      case measure => simp [intOf]
    · have b := hok.out 4 (by omega)
      have n := hln.out 4 (by omega)
      have hw' : Hid (weekT k = (l ++ [32] ++ numT (k 4).toNat) ++ tailT k 5 2) := by
        have h := hw.out
        rw [show tailT k 4 3 = [32] ++ numT (k 4).toNat ++ tailT k 5 2 from rfl] at h
        show _ = _
        rw [h]; simp
      clear hw
      go_wp2_with fail
      refine (rnumber _ _ (by omega) (by omega)).mono ?_
      rintro e w2 ⟨rfl, hb2⟩
      go_wp2_with fail
      go_roundw
      case rel => exact ⟨4, _, by omega, rfl, by rw [← app_str, ← app_str], by simp; omega, hw', bstep hbr.out hb2⟩
      case measure => simp [intOf]
    · have b := hok.out 5 (by omega)
      have n := hln.out 5 (by omega)
      have hw' : Hid (weekT k = (l ++ [32] ++ numT (k 5).toNat) ++ tailT k 6 1) := by
        have h := hw.out
        rw [show tailT k 5 2 = [32] ++ numT (k 5).toNat ++ tailT k 6 1 from rfl] at h
        show _ = _
        rw [h]; simp
      clear hw
      go_wp2_with fail
      refine (rnumber _ _ (by omega) (by omega)).mono ?_
      rintro e w2 ⟨rfl, hb2⟩
      go_wp2_with fail
      go_roundw
      case rel => exact ⟨5, _, by omega, rfl, by rw [← app_str, ← app_str], by simp; omega, hw', bstep hbr.out hb2⟩
      case measure => simp [intOf]
    · have b := hok.out 6 (by omega)
      have n := hln.out 6 (by omega)
      have hw' : Hid (weekT k = (l ++ [32] ++ numT (k 6).toNat) ++ tailT k 7 0) := by
        have h := hw.out
        rw [show tailT k 6 1 = [32] ++ numT (k 6).toNat ++ tailT k 7 0 from rfl] at h
        show _ = _
        rw [h]; simp
      clear hw
      go_wp2_with fail
      refine (rnumber _ _ (by omega) (by omega)).mono ?_
      rintro e w2 ⟨rfl, hb2⟩
      go_wp2_with fail
      go_roundw
      case rel => exact ⟨6, _, by omega, rfl, by rw [← app_str, ← app_str], by simp; omega, hw', bstep hbr.out hb2⟩
      case measure => simp [intOf]
    · have hw' : Hid (l = weekT k) := by
        have h := hw.out
        rw [show tailT k (6 + 1) (6 - 6) = [] from rfl, List.append_nil] at h
        exact h.symm
      clear hw
      go_wp2_with fail
      go_ret
      exact ⟨ret_str (by rw [← hw'.out]), bstep hb0 hbr.out⟩
end Go.Proofs.YtjpjeimpmfoldaaDoor.W
