/- The walks of attach: names, amounts. -/
import Derived.Test.YtjfcbflhnfjcfaaAtS
import Derived.Lib.Hide
namespace Go.Proofs.Ytjfcbflhnfjcfaa.W
open Go.RowKit Go.Proofs.Ytjfcbflhnfjcfaa.M Go.Proofs.Ytjfcbflhnfjcfaa.B Go.Proofs.Ytjfcbflhnfjcfaa.S
set_option linter.unusedVariables false

theorem ret_bool {a b : Bool} (h : a = b) : Ending.returned (.bool a) = .returned (.bool b) := by rw [h]
theorem getD_byte (s : ByteArray) (j : Nat) (h : j < s.size) : s.data.toList.getD j 0 = s[j] := by
  have hj : j < s.data.toList.length := by simpa using h
  rw [List.getD_eq_getElem?_getD, List.getElem?_eq_getElem hj]
  simp; rfl
theorem mem_getD8 {l : List UInt8} {x : UInt8} (h : x ∈ l) : ∃ t, t < l.length ∧ l.getD t 0 = x := by
  obtain ⟨t, ht, e⟩ := List.getElem_of_mem h
  exact ⟨t, ht, by simp [List.getD_eq_getElem?_getD, ht, e]⟩
theorem getD_mem8 {l : List UInt8} {t : Nat} (h : t < l.length) : l.getD t 0 ∈ l := by
  have : l.getD t 0 = l[t] := by simp [List.getD_eq_getElem?_getD, h]
  rw [this]; exact List.getElem_mem _

theorem fits_is (c : Int) (b : Bool) (hb : Hid (decide (fit c) = b)) (w : World) (_hc : -9223372036854775808 ≤ c ∧ c ≤ 9223372036854775807) :
    Calls Try.prog 24 #[.int .i64 c] w fun e w' => e = .returned (.bool b) ∧ w = w' := by
  by_cases h0 : -1125899906842624 ≤ c
  · by_cases h1 : c ≤ 1125899906842624
    · have hb' : b = true := by rw [← hb.out]; simp [fit, h0, h1]
      subst hb'
      go_enter Try.func24, Try.ntmps24
      go_wp2
      go_ret
      exact ⟨rfl, rfl⟩
    · have hb' : b = false := by rw [← hb.out, decide_eq_false_iff_not]; unfold fit; omega
      subst hb'
      go_enter Try.func24, Try.ntmps24
      go_wp2
      go_ret
      exact ⟨rfl, rfl⟩
  · have hb' : b = false := by rw [← hb.out, decide_eq_false_iff_not]; unfold fit; omega
    subst hb'
    go_enter Try.func24, Try.ntmps24
    go_wp2
    go_ret
    exact ⟨rfl, rfl⟩

theorem named_is (s : ByteArray) (b : Bool) (hb : Hid (decide (word s.data.toList) = b)) (w : World) (hs : s.size ≤ 9223372036854775807) :
    Calls Try.prog 31 #[.string s] w fun e w' => e = .returned (.bool b) ∧ w = w' := by
  have hG := Lib.hid (fun j h => getD_byte s j h)
  have hlen : s.data.toList.length = s.size := by simp
  generalize hl : s.data.toList = l at *
  have HL := Lib.hid hl
  clear hl
  have hlen' := Lib.hid hlen; clear hlen
  go_enter Try.func31, Try.ntmps31
  go_wp2_with fail
  go_loop [7] (fun s7 => ∃ j : Nat, j ≤ s.size ∧ s7 = .int .i64 j ∧ Hid (∀ i, i < j → okc (l.getD i 0).toNat)) (fun i => s.size - (intOf i).toNat)
  case atStart => exact ⟨0, Nat.zero_le _, rfl, fun i hi => absurd hi (by omega)⟩
  case round =>
    obtain ⟨j, hj, rfl, hok⟩ := hrel
    by_cases c : j < s.size
    · have hgj := hG.out j c
      have hmem := getD_mem8 (l := l) (t := j) (by rw [hlen'.out]; exact c)
      generalize hbb : l.getD j 0 = x at *
      have HB := Lib.hid hbb; clear hbb
      have hsj : s[j] = x := hgj.symm
      clear hgj
      have x256 : (x.toNat : Int) < 256 := by have := x.toNat_lt; omega
      by_cases o : okc x.toNat
      · have hnx : Hid (∀ i, i < j + 1 → okc (l.getD i 0).toNat) := fun i hi => by
          by_cases e : i = j
          · subst e; rw [HB.out]; exact o
          · exact hok.out i (by omega)
        clear hmem
        have ho : Hid (okc x.toNat) := o
        clear o
        rcases ho.out with ⟨c1, c2⟩ | ⟨c1, c2⟩ | c1 | c1 | c1
        · have d1 : ¬ (x.toNat : Int) < 97 := by omega
          have d2 : ¬ 122 < (x.toNat : Int) := by omega
          clear c1 c2
          go_wp2_with fail
          go_round
          case rel => exact ⟨j + 1, by omega, by go_num, hnx⟩
          case measure => simp [intOf]; omega
        · have d1 : (x.toNat : Int) < 97 := by omega
          have d3 : ¬ (x.toNat : Int) < 48 := by omega
          have d4 : ¬ 57 < (x.toNat : Int) := by omega
          clear c1 c2
          go_wp2_with fail
          go_round
          case rel => exact ⟨j + 1, by omega, by go_num, hnx⟩
          case measure => simp [intOf]; omega
        · have d1 : (x.toNat : Int) < 97 := by omega
          have d3 : (x.toNat : Int) < 48 := by omega
          have d5 : ((x.toNat : Int) != 46) = false := by rw [c1]; rfl
          clear c1
          go_wp2_with fail
          go_round
          case rel => exact ⟨j + 1, by omega, by go_num, hnx⟩
          case measure => simp [intOf]; omega
        · have d1 : (x.toNat : Int) < 97 := by omega
          have d3 : ¬ (x.toNat : Int) < 48 := by omega
          have d4 : 57 < (x.toNat : Int) := by omega
          have d5 : ((x.toNat : Int) != 46) = true := by rw [bne_iff_ne]; omega
          have d6 : ((x.toNat : Int) != 95) = false := by rw [c1]; rfl
          clear c1
          go_wp2_with fail
          go_round
          case rel => exact ⟨j + 1, by omega, by go_num, hnx⟩
          case measure => simp [intOf]; omega
        · have d1 : (x.toNat : Int) < 97 := by omega
          have d3 : (x.toNat : Int) < 48 := by omega
          have d5 : ((x.toNat : Int) != 46) = true := by rw [bne_iff_ne]; omega
          have d6 : ((x.toNat : Int) != 95) = true := by rw [bne_iff_ne]; omega
          have d7 : ((x.toNat : Int) != 45) = false := by rw [c1]; rfl
          clear c1
          go_wp2_with fail
          go_round
          case rel => exact ⟨j + 1, by omega, by go_num, hnx⟩
          case measure => simp [intOf]; omega
      · have hfin : Hid (b = false) := by show _ = _; rw [← hb.out]; simp only [decide_eq_false_iff_not]; exact fun h => o (h.1 x hmem)
        clear hmem
        unfold okc at o
        have d5 : ((x.toNat : Int) != 46) = true := by rw [bne_iff_ne]; omega
        have d6 : ((x.toNat : Int) != 95) = true := by rw [bne_iff_ne]; omega
        have d7 : ((x.toNat : Int) != 45) = true := by rw [bne_iff_ne]; omega
        rcases (by omega : x.toNat < 48 ∨ (57 < x.toNat ∧ x.toNat < 97) ∨ 122 < x.toNat) with c1 | ⟨c1, c2⟩ | c1
        · have d1 : (x.toNat : Int) < 97 := by omega
          have d3 : (x.toNat : Int) < 48 := by omega
          clear c1 o
          go_wp2_with fail
          go_ret
          exact ⟨ret_bool hfin.out.symm, rfl⟩
        · have d1 : (x.toNat : Int) < 97 := by omega
          have d3 : ¬ (x.toNat : Int) < 48 := by omega
          have d4 : 57 < (x.toNat : Int) := by omega
          clear c1 c2 o
          go_wp2_with fail
          go_ret
          exact ⟨ret_bool hfin.out.symm, rfl⟩
        · have d1 : ¬ (x.toNat : Int) < 97 := by omega
          have d2 : 122 < (x.toNat : Int) := by omega
          have d3 : ¬ (x.toNat : Int) < 48 := by omega
          have d4 : 57 < (x.toNat : Int) := by omega
          clear c1 o
          go_wp2_with fail
          go_ret
          exact ⟨ret_bool hfin.out.symm, rfl⟩
    · obtain rfl : j = s.size := by omega
      have hall : Hid (∀ x ∈ l, okc x.toNat) := fun x hx => by
        obtain ⟨t, ht, e⟩ := mem_getD8 hx
        rw [← e]; exact hok.out t (by rw [hlen'.out] at ht; exact ht)
      have hsl : Hid (s.toList = l) := (ByteArray.toList_eq s).trans HL.out
      by_cases e0 : s.toList = []
      · have hfin : Hid (b = false) := by show _ = _; rw [← hb.out, decide_eq_false_iff_not]; exact fun h => h.2.1 (hsl.out.symm.trans e0)
        go_wp2_with fail
        go_ret
        exact ⟨ret_bool hfin.out.symm, rfl⟩
      by_cases e1 : s.toList = [45]
      · have hfin : Hid (b = false) := by show _ = _; rw [← hb.out, decide_eq_false_iff_not]; exact fun h => h.2.2.1 (hsl.out.symm.trans e1)
        go_wp2_with fail
        go_ret
        exact ⟨ret_bool hfin.out.symm, rfl⟩
      have hfin : Hid (decide ((s.size : Int) ≤ 32) = b) := by
        show _ = _; rw [← hb.out]; congr 1; apply propext
        constructor
        · intro h
          exact ⟨hall.out, fun h2 => e0 (hsl.out.trans h2), fun h2 => e1 (hsl.out.trans h2), by rw [hlen'.out]; omega⟩
        · intro h
          have := h.2.2.2
          rw [hlen'.out] at this; omega
      go_wp2_with fail
      go_ret
      exact ⟨ret_bool (by rw [← hfin.out]; simp [e0, e1]), rfl⟩

theorem getDI {xs : List Int} {j : Nat} (hj : j < xs.length) : xs.getD j 0 ∈ xs := by
  have h2 : xs.getD j 0 = xs[j] := by simp [List.getD_eq_getElem?_getD, hj]
  rw [h2]; exact List.getElem_mem _
theorem memDI {xs : List Int} {x : Int} (h : x ∈ xs) : ∃ t, t < xs.length ∧ xs.getD t 0 = x := by
  obtain ⟨t, ht, e⟩ := List.getElem_of_mem h
  exact ⟨t, ht, by simp [List.getD_eq_getElem?_getD, ht, e]⟩

/-- The predicate: is an amount none that may be? -/
theorem bad_is (c : Int) (b : Bool) (hb : Hid (decide (amt c) = b)) (w : World) (hc : I64 c) : Calls Try.prog 41 #[.int .i64 c] w fun e w' => e = .returned (.bool (!b)) ∧ w = w' := by
  unfold I64 at hc
  by_cases c0 : c < 0
  · have hb' : b = false := by rw [← hb.out, decide_eq_false_iff_not]; unfold amt; omega
    subst hb'
    go_enter Try.func41, Try.ntmps41
    go_wp2_with fail
    go_ret
    exact ⟨rfl, rfl⟩
  · have hf := fits_is c b (by show _ = _; rw [← hb.out]; congr 1; apply propext; unfold fit amt; omega) w hc
    clear hb
    go_enter Try.func41, Try.ntmps41
    go_wp2_with (go_at_call 24; refine hf.mono ?_; rintro e w' ⟨rfl, rfl⟩)
    go_ret
    exact ⟨rfl, rfl⟩
/-- The first amount that is none. -/
theorem index_is (a : Option Addr) (n cap : Nat) (xs : List Int) (b : Bool) (hb : Hid (decide (∀ x ∈ xs, amt x) = b)) (w : World) (hx : Ints .i64 w a n cap xs) (hI : ∀ x ∈ xs, I64 x) :
    Calls Try.prog 49 #[.slice a n cap, .func (.func 41) #[] #[]] w fun e w' => (∃ r : Int, e = .returned (.int .i64 r) ∧ decide (0 ≤ r) = !b ∧ I64 r) ∧ w = w' := by
  have hl' := Lib.hid hx.len
  have hmax : n ≤ 9223372036854775807 := by have h1 := hx.2.1; have h2 := hx.2.2.1; unfold maxLen at h2; omega
  have HI := Lib.hid hI
  clear hI
  go_enter Try.func49, Try.ntmps49
  go_wp2_with fail
  go_loop [5, 8] (fun _ s8 => ∃ j : Nat, j ≤ n ∧ s8 = .int .i64 j ∧ Hid (∀ i, i < j → amt (xs.getD i 0))) (fun _ i => n - (intOf i).toNat)
  case atStart => exact ⟨0, Nat.zero_le _, rfl, fun i hi => absurd hi (by omega)⟩
  case round =>
    obtain ⟨j, hj, rfl, hok⟩ := hrel
    by_cases c : j < n
    · obtain ⟨bb, off, rfl, hbl, hcell⟩ := hx.at_ c
      have hmem := getDI (xs := xs) (j := j) (by rw [hl'.out]; exact c)
      have hxb := HI.out _ hmem
      generalize hbb : xs.getD j 0 = x at *
      have HB := Lib.hid hbb; clear hbb
      by_cases o : amt x
      · have hnx : Hid (∀ i, i < j + 1 → amt (xs.getD i 0)) := fun i hi => by
          by_cases e : i = j
          · subst e; rw [HB.out]; exact o
          · exact hok.out i (by omega)
        have hc := bad_is x true (decide_eq_true o) w hxb
        clear hmem o
        go_wp2_with (go_at_call 41; refine hc.mono ?_; rintro e w' ⟨rfl, rfl⟩)
        go_round
        case rel => exact ⟨j + 1, by omega, by go_num, hnx⟩
        case measure => simp [intOf]; omega
      · have hfin : b = false := by rw [← hb.out, decide_eq_false_iff_not]; exact fun h => o (h x hmem)
        have hc := bad_is x false (decide_eq_false o) w hxb
        clear hmem o
        go_wp2_with (go_at_call 41; refine hc.mono ?_; rintro e w' ⟨rfl, rfl⟩)
        go_ret
        exact ⟨⟨(j : Int), rfl, by rw [hfin, decide_eq_true (by omega)]; rfl, by unfold I64; omega⟩, rfl⟩
    · obtain rfl : j = n := by omega
      have hfin : b = true := by
        rw [← hb.out, decide_eq_true_eq]
        intro x hx'
        obtain ⟨t, ht, e⟩ := memDI hx'
        rw [← e]; exact hok.out t (by rw [hl'.out] at ht; exact ht)
      go_wp2_with fail
      go_ret
      exact ⟨⟨-1, rfl, by first | (rw [hfin]; rfl) | omega | simp [hfin], by unfold I64; omega⟩, rfl⟩
theorem amounts_is (a : Option Addr) (n cap : Nat) (xs : List Int) (b : Bool) (hb : Hid (decide (∀ x ∈ xs, amt x) = b)) (w : World) (hx : Ints .i64 w a n cap xs) (hI : ∀ x ∈ xs, I64 x) :
    Calls Try.prog 25 #[.slice a n cap] w fun e w' => e = .returned (.bool b) ∧ w = w' := by
  have hc : Calls Try.prog 40 #[.slice a n cap, .func (.func 41) #[] #[]] w fun e w' => e = .returned (.bool (!b)) ∧ w = w' := by
    have hi := index_is a n cap xs b hb w hx hI
    clear hb hx hI
    go_enter Try.func40, Try.ntmps40
    go_wp2_with fail
    refine hi.mono ?_
    rintro e w' ⟨⟨r, rfl, hr, hr2⟩, rfl⟩
    clear hi
    go_wp2_with fail
    go_ret
    exact ⟨by first | rfl | (rw [← hr]; rfl), rfl⟩
  clear hb hx hI
  go_enter Try.func25, Try.ntmps25
  go_wp2_with fail
  refine hc.mono ?_
  rintro e w' ⟨rfl, rfl⟩
  clear hc
  go_wp2_with fail
  go_ret
  exact ⟨by simp, rfl⟩
/-- The least of amounts. -/
def leastL : Int → List Int → Int
  | m, [] => m
  | m, x :: r => leastL (min2 m x) r
end Go.Proofs.Ytjfcbflhnfjcfaa.W
