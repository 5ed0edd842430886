/- The walks of social: names, amounts, sums and schemes that are right. -/
import Derived.Test.YtdmkjdlneadkcaaSocS
namespace Go.Proofs.Ytdmkjdlneadkcaa.W
open Go.RowKit Go.Proofs.Ytdmkjdlneadkcaa.M Go.Proofs.Ytdmkjdlneadkcaa.B Go.Proofs.Ytdmkjdlneadkcaa.S
set_option linter.unusedVariables false

theorem ret_bool {a b : Bool} (h : a = b) : Ending.returned (.bool a) = .returned (.bool b) := by rw [h]
theorem getD_byte (s : ByteArray) (j : Nat) (h : j < s.size) : s.data.toList.getD j 0 = s[j] := by
  have hj : j < s.data.toList.length := by simpa using h
  rw [List.getD_eq_getElem?_getD, List.getElem?_eq_getElem hj]
  simp; rfl
theorem mem_getD8 {l : List UInt8} {x : UInt8} (h : x ∈ l) : ∃ t, t < l.length ∧ l.getD t 0 = x := by
  obtain ⟨t, ht, e⟩ := List.getElem_of_mem h
  exact ⟨t, ht, by simp [List.getD_eq_getElem?_getD, ht, e]⟩
theorem getD_mem8 {l : List UInt8} {t : Nat} (h : t < l.length) : l.getD t 0 ∈ l := by
  have : l.getD t 0 = l[t] := by simp [List.getD_eq_getElem?_getD, h]
  rw [this]; exact List.getElem_mem _

theorem fits_is (c : Int) (b : Bool) (hb : Hid (decide (fit c) = b)) (w : World) (_hc : -9223372036854775808 ≤ c ∧ c ≤ 9223372036854775807) :
    Calls Try.prog 23 #[.int .i64 c] w fun e w' => e = .returned (.bool b) ∧ w = w' := by
  by_cases h0 : -1125899906842624 ≤ c
  · by_cases h1 : c ≤ 1125899906842624
    · have hb' : b = true := by rw [← hb.out]; simp [fit, h0, h1]
      subst hb'
      go_enter Try.func23, Try.ntmps23
      go_wp2
      go_ret
      exact ⟨rfl, rfl⟩
    · have hb' : b = false := by rw [← hb.out, decide_eq_false_iff_not]; unfold fit; omega
      subst hb'
      go_enter Try.func23, Try.ntmps23
      go_wp2
      go_ret
      exact ⟨rfl, rfl⟩
  · have hb' : b = false := by rw [← hb.out, decide_eq_false_iff_not]; unfold fit; omega
    subst hb'
    go_enter Try.func23, Try.ntmps23
    go_wp2
    go_ret
    exact ⟨rfl, rfl⟩

theorem named_is (s : ByteArray) (b : Bool) (hb : Hid (decide (word s.data.toList) = b)) (w : World) (hs : s.size ≤ 9223372036854775807) :
    Calls Try.prog 31 #[.string s] w fun e w' => e = .returned (.bool b) ∧ w = w' := by
  have hG := Lib.hid (fun j h => getD_byte s j h)
  have hlen : s.data.toList.length = s.size := by simp
  generalize hl : s.data.toList = l at *
  have HL := Lib.hid hl
  clear hl
  have hlen' := Lib.hid hlen; clear hlen
  go_enter Try.func31, Try.ntmps31
  go_wp2_with fail
  go_loop [7] (fun s7 => ∃ j : Nat, j ≤ s.size ∧ s7 = .int .i64 j ∧ Hid (∀ i, i < j → okc (l.getD i 0).toNat)) (fun i => s.size - (intOf i).toNat)
  case atStart => exact ⟨0, Nat.zero_le _, rfl, fun i hi => absurd hi (by omega)⟩
  case round =>
    obtain ⟨j, hj, rfl, hok⟩ := hrel
    by_cases c : j < s.size
    · have hgj := hG.out j c
      have hmem := getD_mem8 (l := l) (t := j) (by rw [hlen'.out]; exact c)
      generalize hbb : l.getD j 0 = x at *
      have HB := Lib.hid hbb; clear hbb
      have hsj : s[j] = x := hgj.symm
      clear hgj
      have x256 : (x.toNat : Int) < 256 := by have := x.toNat_lt; omega
      by_cases o : okc x.toNat
      · have hnx : Hid (∀ i, i < j + 1 → okc (l.getD i 0).toNat) := fun i hi => by
          by_cases e : i = j
          · subst e; rw [HB.out]; exact o
          · exact hok.out i (by omega)
        clear hmem
        have ho : Hid (okc x.toNat) := o
        clear o
        rcases ho.out with ⟨c1, c2⟩ | ⟨c1, c2⟩ | c1 | c1 | c1
        · have d1 : ¬ (x.toNat : Int) < 97 := by omega
          have d2 : ¬ 122 < (x.toNat : Int) := by omega
          clear c1 c2
          go_wp2_with fail
          go_round
          case rel => exact ⟨j + 1, by omega, by go_num, hnx⟩
          case measure => simp [intOf]; omega
        · have d1 : (x.toNat : Int) < 97 := by omega
          have d3 : ¬ (x.toNat : Int) < 48 := by omega
          have d4 : ¬ 57 < (x.toNat : Int) := by omega
          clear c1 c2
          go_wp2_with fail
          go_round
          case rel => exact ⟨j + 1, by omega, by go_num, hnx⟩
          case measure => simp [intOf]; omega
        · have d1 : (x.toNat : Int) < 97 := by omega
          have d3 : (x.toNat : Int) < 48 := by omega
          have d5 : ((x.toNat : Int) != 46) = false := by rw [c1]; rfl
          clear c1
          go_wp2_with fail
          go_round
          case rel => exact ⟨j + 1, by omega, by go_num, hnx⟩
          case measure => simp [intOf]; omega
        · have d1 : (x.toNat : Int) < 97 := by omega
          have d3 : ¬ (x.toNat : Int) < 48 := by omega
          have d4 : 57 < (x.toNat : Int) := by omega
          have d5 : ((x.toNat : Int) != 46) = true := by rw [bne_iff_ne]; omega
          have d6 : ((x.toNat : Int) != 95) = false := by rw [c1]; rfl
          clear c1
          go_wp2_with fail
          go_round
          case rel => exact ⟨j + 1, by omega, by go_num, hnx⟩
          case measure => simp [intOf]; omega
        · have d1 : (x.toNat : Int) < 97 := by omega
          have d3 : (x.toNat : Int) < 48 := by omega
          have d5 : ((x.toNat : Int) != 46) = true := by rw [bne_iff_ne]; omega
          have d6 : ((x.toNat : Int) != 95) = true := by rw [bne_iff_ne]; omega
          have d7 : ((x.toNat : Int) != 45) = false := by rw [c1]; rfl
          clear c1
          go_wp2_with fail
          go_round
          case rel => exact ⟨j + 1, by omega, by go_num, hnx⟩
          case measure => simp [intOf]; omega
      · have hfin : Hid (b = false) := by show _ = _; rw [← hb.out]; simp only [decide_eq_false_iff_not]; exact fun h => o (h.1 x hmem)
        clear hmem
        unfold okc at o
        have d5 : ((x.toNat : Int) != 46) = true := by rw [bne_iff_ne]; omega
        have d6 : ((x.toNat : Int) != 95) = true := by rw [bne_iff_ne]; omega
        have d7 : ((x.toNat : Int) != 45) = true := by rw [bne_iff_ne]; omega
        rcases (by omega : x.toNat < 48 ∨ (57 < x.toNat ∧ x.toNat < 97) ∨ 122 < x.toNat) with c1 | ⟨c1, c2⟩ | c1
        · have d1 : (x.toNat : Int) < 97 := by omega
          have d3 : (x.toNat : Int) < 48 := by omega
          clear c1 o
          go_wp2_with fail
          go_ret
          exact ⟨ret_bool hfin.out.symm, rfl⟩
        · have d1 : (x.toNat : Int) < 97 := by omega
          have d3 : ¬ (x.toNat : Int) < 48 := by omega
          have d4 : 57 < (x.toNat : Int) := by omega
          clear c1 c2 o
          go_wp2_with fail
          go_ret
          exact ⟨ret_bool hfin.out.symm, rfl⟩
        · have d1 : ¬ (x.toNat : Int) < 97 := by omega
          have d2 : 122 < (x.toNat : Int) := by omega
          have d3 : ¬ (x.toNat : Int) < 48 := by omega
          have d4 : 57 < (x.toNat : Int) := by omega
          clear c1 o
          go_wp2_with fail
          go_ret
          exact ⟨ret_bool hfin.out.symm, rfl⟩
    · obtain rfl : j = s.size := by omega
      have hall : Hid (∀ x ∈ l, okc x.toNat) := fun x hx => by
        obtain ⟨t, ht, e⟩ := mem_getD8 hx
        rw [← e]; exact hok.out t (by rw [hlen'.out] at ht; exact ht)
      have hsl : Hid (s.toList = l) := (ByteArray.toList_eq s).trans HL.out
      by_cases e0 : s.toList = []
      · have hfin : Hid (b = false) := by show _ = _; rw [← hb.out, decide_eq_false_iff_not]; exact fun h => h.2.1 (hsl.out.symm.trans e0)
        go_wp2_with fail
        go_ret
        exact ⟨ret_bool hfin.out.symm, rfl⟩
      by_cases e1 : s.toList = [45]
      · have hfin : Hid (b = false) := by show _ = _; rw [← hb.out, decide_eq_false_iff_not]; exact fun h => h.2.2.1 (hsl.out.symm.trans e1)
        go_wp2_with fail
        go_ret
        exact ⟨ret_bool hfin.out.symm, rfl⟩
      have hfin : Hid (decide ((s.size : Int) ≤ 32) = b) := by
        show _ = _; rw [← hb.out]; congr 1; apply propext
        constructor
        · intro h
          exact ⟨hall.out, fun h2 => e0 (hsl.out.trans h2), fun h2 => e1 (hsl.out.trans h2), by rw [hlen'.out]; omega⟩
        · intro h
          have := h.2.2.2
          rw [hlen'.out] at this; omega
      go_wp2_with fail
      go_ret
      exact ⟨ret_bool (by rw [← hfin.out]; simp [e0, e1]), rfl⟩

theorem getDI {xs : List Int} {j : Nat} (hj : j < xs.length) : xs.getD j 0 ∈ xs := by
  have h2 : xs.getD j 0 = xs[j] := by simp [List.getD_eq_getElem?_getD, hj]
  rw [h2]; exact List.getElem_mem _
theorem memDI {xs : List Int} {x : Int} (h : x ∈ xs) : ∃ t, t < xs.length ∧ xs.getD t 0 = x := by
  obtain ⟨t, ht, e⟩ := List.getElem_of_mem h
  exact ⟨t, ht, by simp [List.getD_eq_getElem?_getD, ht, e]⟩

theorem amounts_is (a : Option Addr) (n cap : Nat) (xs : List Int) (b : Bool) (hb : Hid (decide (∀ x ∈ xs, amt x) = b)) (w : World) (hx : Ints .i64 w a n cap xs) (hI : ∀ x ∈ xs, -9223372036854775808 ≤ x ∧ x ≤ 9223372036854775807) :
    Calls Try.prog 30 #[.slice a n cap] w fun e w' => e = .returned (.bool b) ∧ w = w' := by
  have hl' := Lib.hid hx.len
  have hmax : n ≤ 9223372036854775807 := by have h1 := hx.2.1; have h2 := hx.2.2.1; unfold maxLen at h2; omega
  have HI := Lib.hid hI
  clear hI
  go_enter Try.func30, Try.ntmps30
  go_wp2_with fail
  go_loop [7] (fun s7 => ∃ j : Nat, j ≤ n ∧ s7 = .int .i64 j ∧ Hid (∀ i, i < j → amt (xs.getD i 0))) (fun i => n - (intOf i).toNat)
  case atStart => exact ⟨0, Nat.zero_le _, rfl, fun i hi => absurd hi (by omega)⟩
  case round =>
    obtain ⟨j, hj, rfl, hok⟩ := hrel
    by_cases c : j < n
    · obtain ⟨bb, off, rfl, hbl, hcell⟩ := hx.at_ c
      have hmem := getDI (xs := xs) (j := j) (by rw [hl'.out]; exact c)
      have hxb := HI.out _ hmem
      generalize hbb : xs.getD j 0 = x at *
      have HB := Lib.hid hbb; clear hbb
      by_cases o : amt x
      · have hnx : Hid (∀ i, i < j + 1 → amt (xs.getD i 0)) := fun i hi => by
          by_cases e : i = j
          · subst e; rw [HB.out]; exact o
          · exact hok.out i (by omega)
        unfold amt at o
        obtain ⟨o0, o1⟩ := o
        clear hmem
        go_wp2_with (go_at_call 23; refine (fits_is x true (decide_eq_true (by unfold fit; omega)) _ hxb).mono ?_; rintro e w' ⟨rfl, rfl⟩)
        go_round
        case rel => exact ⟨j + 1, by omega, by go_num, hnx⟩
        case measure => simp [intOf]; omega
      · have hfin : Hid (b = false) := by show _ = _; rw [← hb.out, decide_eq_false_iff_not]; exact fun h => o (h x hmem)
        clear hmem
        unfold amt at o
        by_cases o0 : x < 0
        · go_wp2_with fail
          go_ret
          exact ⟨ret_bool hfin.out.symm, rfl⟩
        · go_wp2_with (go_at_call 23; refine (fits_is x false (decide_eq_false (by unfold fit; omega)) _ hxb).mono ?_; rintro e w' ⟨rfl, rfl⟩)
          go_ret
          exact ⟨ret_bool hfin.out.symm, rfl⟩
    · obtain rfl : j = n := by omega
      have hfin : Hid (b = true) := by
        show _ = _; rw [← hb.out, decide_eq_true_eq]
        intro x hx'
        obtain ⟨t, ht, e⟩ := memDI hx'
        rw [← e]; exact hok.out t (by rw [hl'.out] at ht; exact ht)
      go_wp2_with fail
      go_ret
      exact ⟨ret_bool hfin.out.symm, rfl⟩

def I64 (x : Int) : Prop := -9223372036854775808 ≤ x ∧ x ≤ 9223372036854775807
theorem right_is (b i w f : Int) (bb : Bool) (hb : Hid (decide (rgt b i w f) = bb)) (W : World) (h0 : I64 b) (h1 : I64 i) (h2 : I64 w) (h3 : I64 f) :
    Calls Try.prog 21 #[.agg #[.int .i64 b, .int .i64 i, .int .i64 w, .int .i64 f]] W fun e w' => e = .returned (.bool bb) ∧ Below W.heap.size W w' := by
  by_cases o : fit b
  · have hm : Hid (decide (∀ x ∈ [i, w, f], amt x) = bb) := by
      show _ = _; rw [← hb.out]; congr 1; apply propext
      simp [rgt, o]
    have hx := Ints.made (k := .i64) (w := W.alloc (.cells #[.int .i64 b, .int .i64 i, .int .i64 w, .int .i64 f] 24)) [i, w, f] 22 (show 3 ≤ maxLen by decide)
    rw [show (W.alloc (.cells #[.int .i64 b, .int .i64 i, .int .i64 w, .int .i64 f] 24)).heap.size = W.heap.size + 1 from by simp] at hx
    have hI : ∀ x ∈ [i, w, f], -9223372036854775808 ≤ x ∧ x ≤ 9223372036854775807 := by
      intro x hx; simp at hx; rcases hx with rfl | rfl | rfl <;> assumption
    have hf := fun W => fits_is b true (decide_eq_true o) W h0
    have HF := Lib.hid hf
    have HI := Lib.hid hI
    clear hf hI o
    go_enter Try.func21, Try.ntmps21
    go_wp2_with fail
    refine (HF.out _).mono ?_
    rintro e w' ⟨rfl, rfl⟩
    go_wp2_with fail
    refine (amounts_is _ 3 3 [i, w, f] bb hm _ hx HI.out).mono ?_
    rintro e w' ⟨rfl, rfl⟩
    go_wp2_with fail
    go_ret
    exact ⟨rfl, balloc (balloc (Below.refl _ _) _) _⟩
  · have hbb : bb = false := by rw [← hb.out, decide_eq_false_iff_not]; exact fun h => o h.1
    subst hbb
    have hf := fun W => fits_is b false (decide_eq_false o) W h0
    have HF := Lib.hid hf
    clear hf o
    go_enter Try.func21, Try.ntmps21
    go_wp2_with fail
    refine (HF.out _).mono ?_
    rintro e w' ⟨rfl, rfl⟩
    go_wp2_with fail
    go_ret
    exact ⟨rfl, balloc (Below.refl _ _) _⟩

def SchV (s : ByteArray) (wr fr ce : Int) : Value := .agg #[.string s, .int .i64 wr, .int .i64 fr, .int .i64 ce]
theorem wrong_is (s : ByteArray) (wr fr ce k : Int) (hk : Hid (wrg s.data.toList wr fr ce = k)) (W : World) (hs : s.size ≤ 9223372036854775807) (h0 : I64 wr) (h1 : I64 fr) (h2 : I64 ce) :
    Calls Try.prog 22 #[.agg #[.string s, .int .i64 wr, .int .i64 fr, .int .i64 ce]] W fun e w' => e = .returned (.int .i64 k) ∧ Below W.heap.size W w' := by
  by_cases o : word s.data.toList
  · have hn := Lib.hid (fun W => named_is s true (decide_eq_true o) W hs)
    have hk2 : Hid ((if wr < 0 ∨ 1000000 < wr ∨ fr < 0 ∨ 1000000 < fr ∨ ¬ amt ce then 2 else 0) = k) := by
      show _ = _; rw [← hk.out]; unfold wrg; rw [if_neg (show ¬ ¬ word s.data.toList from fun h => h o)]
    clear o
    by_cases c : wr < 0 ∨ 1000000 < wr ∨ fr < 0 ∨ 1000000 < fr
    · have hkk : k = 2 := by
        have h := hk2.out
        rw [if_pos (by rcases c with c | c | c | c <;> simp [c])] at h
        exact h.symm
      subst hkk
      rcases (by omega : wr < 0 ∨ (0 ≤ wr ∧ 1000000 < wr) ∨ (0 ≤ wr ∧ wr ≤ 1000000 ∧ fr < 0) ∨ (0 ≤ wr ∧ wr ≤ 1000000 ∧ 0 ≤ fr ∧ 1000000 < fr)) with c1 | ⟨c1, c2⟩ | ⟨c1, c2, c3⟩ | ⟨c1, c2, c3, c4⟩
      all_goals
        clear c
        go_enter Try.func22, Try.ntmps22
        go_wp2_with fail
        refine (hn.out _).mono ?_
        rintro e w' ⟨rfl, rfl⟩
        go_wp2_with fail
        go_ret
        exact ⟨rfl, balloc (Below.refl _ _) _⟩
    · have hx := Ints.made (k := .i64) (w := W.alloc (.cells #[.string s, .int .i64 wr, .int .i64 fr, .int .i64 ce] 27)) [ce] 22 (show 1 ≤ maxLen by decide)
      rw [show (W.alloc (.cells #[.string s, .int .i64 wr, .int .i64 fr, .int .i64 ce] 27)).heap.size = W.heap.size + 1 from by simp] at hx
      have hI : ∀ x ∈ [ce], -9223372036854775808 ≤ x ∧ x ≤ 9223372036854775807 := by
        intro x hx; simp at hx; subst hx; exact h2
      have HI := Lib.hid hI
      clear hI
      have c1 : 0 ≤ wr := by omega
      have c2 : wr ≤ 1000000 := by omega
      have c3 : 0 ≤ fr := by omega
      have c4 : fr ≤ 1000000 := by omega
      by_cases am : amt ce
      · have hm : Hid (decide (∀ x ∈ [ce], amt x) = true) := by show _ = _; simp [am]
        have hkk : k = 0 := by
          have h := hk2.out
          rw [if_neg (by intro h; rcases h with h | h | h | h | h <;> first | omega | exact h am)] at h
          exact h.symm
        subst hkk
        clear c am
        go_enter Try.func22, Try.ntmps22
        go_wp2_with fail
        refine (hn.out _).mono ?_
        rintro e w' ⟨rfl, rfl⟩
        go_wp2_with fail
        refine (amounts_is _ 1 1 [ce] true hm _ hx HI.out).mono ?_
        rintro e w' ⟨rfl, rfl⟩
        go_wp2_with fail
        go_ret
        exact ⟨rfl, balloc (balloc (Below.refl _ _) _) _⟩
      · have hm : Hid (decide (∀ x ∈ [ce], amt x) = false) := by show _ = _; simp [am]
        have hkk : k = 2 := by
          have h := hk2.out
          rw [if_pos (.inr (.inr (.inr (.inr am))))] at h
          exact h.symm
        subst hkk
        clear c am
        go_enter Try.func22, Try.ntmps22
        go_wp2_with fail
        refine (hn.out _).mono ?_
        rintro e w' ⟨rfl, rfl⟩
        go_wp2_with fail
        refine (amounts_is _ 1 1 [ce] false hm _ hx HI.out).mono ?_
        rintro e w' ⟨rfl, rfl⟩
        go_wp2_with fail
        go_ret
        exact ⟨rfl, balloc (balloc (Below.refl _ _) _) _⟩
  · have hn := Lib.hid (fun W => named_is s false (decide_eq_false o) W hs)
    have hkk : k = 12 := by have h := hk.out; unfold wrg at h; rw [if_pos o] at h; exact h.symm
    subst hkk
    clear o
    go_enter Try.func22, Try.ntmps22
    go_wp2_with fail
    refine (hn.out _).mono ?_
    rintro e w' ⟨rfl, rfl⟩
    go_wp2_with fail
    go_ret
    exact ⟨rfl, balloc (Below.refl _ _) _⟩
end Go.Proofs.Ytdmkjdlneadkcaa.W
