/- The walk of slices.stableCmpFunc at a struct of k cells, over any program that has its text. -/
import Derived.Test.YtjfcbflhnfjcfaaAtWC
import Derived.Test.YtjfcbflhnfjcfaaAtZC
namespace Go.Proofs.Ytjfcbflhnfjcfaa.Z
open Go.Proofs Go.Shelf Go.RowKit Go.Lib Go.Sort
set_option linter.unusedVariables false
variable {P : Program} {k : Nat} {α : Type} [Inhabited α]

theorem stIns_go {lt : α → α → Bool} {n B a : Nat} {d : Array α} (h0 : 0 < B) (h : a + B ≤ n) : stIns lt n B a d = stIns lt n B (a + B) (insertionSort lt d a (a + B)) := by
  conv => lhs; rw [stIns, dif_pos ⟨h0, h⟩]
theorem stIns_end {lt : α → α → Bool} {n B a : Nat} {d : Array α} (h : ¬ a + B ≤ n) : stIns lt n B a d = insertionSort lt d a n := by
  rw [stIns, dif_neg (fun hh => h hh.2)]
theorem stPass_go {lt : α → α → Bool} {n B a : Nat} {d : Array α} (h0 : 0 < B) (h : a + 2 * B ≤ n) : stPass lt n B a d = stPass lt n B (a + 2 * B) (symMerge lt (2 * B) d a (a + B) (a + 2 * B)) := by
  conv => lhs; rw [stPass, dif_pos ⟨h0, h⟩]
theorem stPass_end {lt : α → α → Bool} {n B a : Nat} {d : Array α} (h : ¬ a + 2 * B ≤ n) : stPass lt n B a d = if a + B < n then symMerge lt (n - a) d a (a + B) n else d := by
  rw [stPass, dif_neg (fun hh => h hh.2)]
theorem stLoop_go {lt : α → α → Bool} {n B : Nat} {d : Array α} (h0 : 0 < B) (h : B < n) : stLoop lt n B d = stLoop lt n (B * 2) (stPass lt n B 0 d) := by
  conv => lhs; rw [stLoop, dif_pos ⟨h0, h⟩]
theorem stLoop_end {lt : α → α → Bool} {n B : Nat} {d : Array α} (h : ¬ B < n) : stLoop lt n B d = d := by
  rw [stLoop, dif_neg (fun hh => h hh.2)]
theorem insInner_size (lt : α → α → Bool) (a : Nat) : ∀ (j : Nat) (d : Array α), (insInner lt a j d).size = d.size
  | 0, d => by unfold insInner; rfl
  | j + 1, d => by
    unfold insInner
    split
    · rw [insInner_size lt a j, size_swp]
    · rfl
theorem insOuter_size (lt : α → α → Bool) (a b : Nat) : ∀ (s i : Nat) (d : Array α), b - i = s → (insOuter lt a b i d).size = d.size
  | 0, i, d, h => by rw [insOuter, if_neg (by omega)]
  | s + 1, i, d, h => by rw [insOuter, if_pos (by omega), insOuter_size lt a b s (i + 1) _ (by omega), insInner_size]
theorem insertion_size (lt : α → α → Bool) (a b : Nat) (d : Array α) : (insertionSort lt d a b).size = d.size := insOuter_size lt a b _ _ _ rfl

set_option maxHeartbeats 8000000 in
set_option maxRecDepth 1000000 in
theorem stable_at (L : Lay P k) {enc : α → List Value} {cf : α → α → Int} {g : Nat} {cb : Array Value} {blk off : Nat} {d : Array α} {w : World} (R : Row P enc k w blk off d) (hcmp : CmpLays P g cb enc k cf blk off d.size w) (eg : ∀ args w, (callFunc g args).run P w = .ok (.enter g args) w) (cap : Nat)
    (ei : ∀ args w, (callFunc 56 args).run P w = .ok (.enter 56 args) w)
    (hins : ∀ (a b q : Nat) (dq : Array α) (os : Array Obj), dq.size = d.size → a ≤ b → b ≤ d.size → Calls P 56 #[.slice (some ⟨blk, off, none⟩) d.size cap, .int .i64 a, .int .i64 b, .func (.func g) #[] cb] (sortWorldK enc k w blk off q dq os) (MergeOut enc k w blk off (insertionSort (ltOf cf) dq a b)))
    (q : Nat) (os : Array Obj) :
    Calls P 46 #[.slice (some ⟨blk, off, none⟩) d.size cap, .int .i64 d.size, .func (.func g) #[] cb] (sortWorldK enc k w blk off q d os) (MergeOut enc k w blk off (stable (ltOf cf) d)) := by
  have mixed := L.mixed; have t0 := L.t0; have a0 := L.a0; have z0 := L.z0; have v0 := L.v0; have t3 := L.t3; have a3 := L.a3; have z3 := L.z3; have v3 := L.v3; have t4 := L.t4; have a4 := L.a4; have z4 := L.z4; have v4 := L.v4; have t24 := L.t24; have a24 := L.a24; have z24 := L.z24; have v24 := L.v24; have t69 := L.t69; have a69 := L.a69; have z69 := L.z69; have v69 := L.v69
  have F := L.ft
  have em : ∀ args w, (callFunc 57 args).run P w = .ok (.enter 57 args) w := enters_of L.fm (by kernel_rfl) rfl
  have hsz := R.hsz
  have HI := Lib.hid hins
  have HM := Lib.hid (fun f a m b q dq os h1 h2 h3 h4 h5 => symMerge_at L R hcmp eg cap f a m b q dq os h1 h2 h3 h4 h5)
  clear L R hcmp hins
  obtain ⟨n, hn⟩ : ∃ n, n = d.size := ⟨_, rfl⟩
  unfold stable
  rw [← hn]
  rw [← hn] at HI HM hsz
  have hN := Lib.hid hn
  clear hn
  go_enter F, Try.ntmps46
  go_wp2_with fail
  go_loopg [7, 8] n (fun g1 va vb wr => ∃ (a q' : Nat) (da : Array α) (os' : Array Obj), va = .int .i64 a ∧ vb = .int .i64 (a + 20 : Nat) ∧ a ≤ n ∧ n - a ≤ g1 ∧ da.size = n ∧ wr = sortWorldK enc k w blk off q' da os' ∧ Hid (stIns (ltOf cf) n 20 a da = stIns (ltOf cf) n 20 0 d))
  case atStart => exact ⟨0, q, d, os, rfl, rfl, Nat.zero_le _, by omega, hN.out.symm, rfl, rfl⟩
  case round =>
    obtain ⟨a, q', da, os', rfl, rfl, han, hg1, hsa, rfl, HO⟩ := hrel
    have wb : IntKind.i64.wrap ((a : Int) + 20 + 20) = (a : Int) + 20 + 20 := by rw [IntKind.wrap_i64]; omega
    by_cases c : a + 20 ≤ n
    · have cz : (a : Int) + 20 ≤ (n : Int) := by omega
      have hc := HI.out a (a + 20) q' da os' hsa (by omega) (by omega)
      have hz := (insertion_size (ltOf cf) a (a + 20) da).trans hsa
      have HO' : Hid (stIns (ltOf cf) n 20 (a + 20) (insertionSort (ltOf cf) da a (a + 20)) = stIns (ltOf cf) n 20 0 d) := (stIns_go (by omega) c).symm.trans HO.out
      clear HO hsa
      rw [show ((a + 20 : Nat) : Int) = (a : Int) + 20 by omega] at hc
      generalize insertionSort (ltOf cf) da a (a + 20) = d' at hc hz HO'
      generalize sortWorldK enc k w blk off q' da os' = wq at hc
      go_wp2_with (go_at_fn 56; refine hc.mono ?_; rintro e w' ⟨rfl, q2, os2, rfl⟩)
      go_roundg (n - (a + 20))
      case measure => omega
      case rel => exact ⟨a + 20, q2, d', os2, by go_num, by go_num, c, Nat.le_refl _, hz, rfl, HO'⟩
    · have cz : ¬ (a : Int) + 20 ≤ (n : Int) := by omega
      have hc := HI.out a n q' da os' hsa han (by omega)
      have hz := (insertion_size (ltOf cf) a n da).trans hsa
      have HO' : Hid (stIns (ltOf cf) n 20 0 d = insertionSort (ltOf cf) da a n) := HO.out.symm.trans (stIns_end c)
      clear HO hsa HI
      generalize insertionSort (ltOf cf) da a n = d1 at hc hz HO'
      generalize sortWorldK enc k w blk off q' da os' = wq at hc
      go_wp2_with (go_at_fn 56; refine hc.mono ?_; rintro e w' ⟨rfl, q2, os2, rfl⟩)
      clear hc wb cz
      go_loopg [6, 7, 8, 9] n (fun g1 vB _ _ _ wr => ∃ (B q' : Nat) (dB : Array α) (os' : Array Obj), vB = .int .i64 B ∧ 0 < B ∧ n - B ≤ g1 ∧ dB.size = n ∧ wr = sortWorldK enc k w blk off q' dB os' ∧ Hid (stLoop (ltOf cf) n B dB = stLoop (ltOf cf) n 20 d1))
      case atStart => exact ⟨20, q2, d1, os2, rfl, by omega, by omega, hz, rfl, rfl⟩
      case round =>
        obtain ⟨B, q3, dB, os3, rfl, hB0, hg2, hzB, rfl, HL⟩ := hrel
        by_cases c2 : B < n
        · have c2z : (B : Int) < (n : Int) := by omega
          have HL' : Hid (stLoop (ltOf cf) n (B * 2) (stPass (ltOf cf) n B 0 dB) = stLoop (ltOf cf) n 20 d1) := (stLoop_go hB0 c2).symm.trans HL.out
          clear HL
          have w2 : IntKind.i64.wrap (2 * (B : Int)) = 2 * (B : Int) := by rw [IntKind.wrap_i64]; omega
          have w3 : IntKind.i64.wrap ((B : Int) * 2) = (B : Int) * 2 := by rw [IntKind.wrap_i64]; omega
          go_wp2_with fail
          go_loopg [7, 8] n (fun g3 va vb wr => ∃ (a q' : Nat) (da : Array α) (os' : Array Obj), va = .int .i64 a ∧ vb = .int .i64 ((a : Int) + 2 * (B : Int)) ∧ a ≤ n ∧ n - a ≤ g3 ∧ da.size = n ∧ wr = sortWorldK enc k w blk off q' da os' ∧ Hid (stPass (ltOf cf) n B a da = stPass (ltOf cf) n B 0 dB))
          case atStart => exact ⟨0, q3, dB, os3, rfl, by first | rfl | go_num | (congr 1; omega), Nat.zero_le _, by omega, hzB, rfl, rfl⟩
          case round =>
            obtain ⟨a, q', da, os', rfl, rfl, han, hg3, hsa, rfl, HO⟩ := hrel
            have w4 : IntKind.i64.wrap ((a : Int) + (B : Int)) = (a : Int) + (B : Int) := by rw [IntKind.wrap_i64]; omega
            by_cases c3 : a + 2 * B ≤ n
            · have c3z : (a : Int) + 2 * (B : Int) ≤ (n : Int) := by omega
              have w5 : IntKind.i64.wrap ((a : Int) + 2 * (B : Int) + 2 * (B : Int)) = (a : Int) + 2 * (B : Int) + 2 * (B : Int) := by rw [IntKind.wrap_i64]; omega
              have hc := HM.out (2 * B) a (a + B) (a + 2 * B) q' da os' hsa (by omega) (by omega) (by omega) (by omega)
              have hz' := (symMerge_perm (ltOf cf) (2 * B) da a (a + B) (a + 2 * B) (by omega) (by omega) (by omega)).1.trans hsa
              have HO' : Hid (stPass (ltOf cf) n B (a + 2 * B) (symMerge (ltOf cf) (2 * B) da a (a + B) (a + 2 * B)) = stPass (ltOf cf) n B 0 dB) := (stPass_go hB0 c3).symm.trans HO.out
              clear HO hsa
              rw [show ((a + B : Nat) : Int) = (a : Int) + (B : Int) by omega, show ((a + 2 * B : Nat) : Int) = (a : Int) + 2 * (B : Int) by omega] at hc
              generalize symMerge (ltOf cf) (2 * B) da a (a + B) (a + 2 * B) = d' at hc hz' HO'
              generalize sortWorldK enc k w blk off q' da os' = wq at hc
              go_wp2_with (go_at_fn 57; refine hc.mono ?_; rintro e w' ⟨rfl, q4, os4, rfl⟩)
              go_roundg (n - (a + 2 * B))
              case measure => omega
              case rel => exact ⟨a + 2 * B, q4, d', os4, by first | go_num | (congr 1; omega), by first | go_num | (congr 1; omega), c3, Nat.le_refl _, hz', rfl, HO'⟩
            · have c3z : ¬ (a : Int) + 2 * (B : Int) ≤ (n : Int) := by omega
              have HO' : Hid (stPass (ltOf cf) n B 0 dB = if a + B < n then symMerge (ltOf cf) (n - a) da a (a + B) n else da) := HO.out.symm.trans (stPass_end c3)
              clear HO
              by_cases c4 : a + B < n
              · have c4z : (a : Int) + (B : Int) < (n : Int) := by omega
                have hc := HM.out (n - a) a (a + B) n q' da os' hsa (Nat.le_refl _) (by omega) c4 (by omega)
                have hz' := (symMerge_perm (ltOf cf) (n - a) da a (a + B) n (by omega) c4 (by omega)).1.trans hsa
                have HO2 : Hid (stLoop (ltOf cf) n (B * 2) (symMerge (ltOf cf) (n - a) da a (a + B) n) = stLoop (ltOf cf) n 20 d1) := by
                  show _ = _
                  rw [← HL'.out, HO'.out, if_pos c4]
                clear HO' hsa HL'
                rw [show ((a + B : Nat) : Int) = (a : Int) + (B : Int) by omega] at hc
                generalize symMerge (ltOf cf) (n - a) da a (a + B) n = d' at hc hz' HO2
                generalize sortWorldK enc k w blk off q' da os' = wq at hc
                go_wp2_with (go_at_fn 57; refine hc.mono ?_; rintro e w' ⟨rfl, q4, os4, rfl⟩)
                go_roundg (n - B * 2)
                case measure => omega
                case rel => exact ⟨B * 2, q4, d', os4, by first | go_num | (congr 1; omega), by omega, Nat.le_refl _, hz', rfl, HO2⟩
              · have c4z : ¬ (a : Int) + (B : Int) < (n : Int) := by omega
                have HO2 : Hid (stLoop (ltOf cf) n (B * 2) da = stLoop (ltOf cf) n 20 d1) := by
                  show _ = _
                  rw [← HL'.out, HO'.out, if_neg c4]
                clear HO' HL'
                go_wp2_with fail
                go_roundg (n - B * 2)
                case measure => omega
                case rel => exact ⟨B * 2, q', da, os', by first | go_num | (congr 1; omega), by omega, Nat.le_refl _, hsa, rfl, HO2⟩
        · have c2z : ¬ (B : Int) < (n : Int) := by omega
          have HF : Hid (stLoop (ltOf cf) n 20 (stIns (ltOf cf) n 20 0 d) = dB) := by
            show _ = _
            rw [HO'.out, ← HL.out, stLoop_end c2]
          go_wp2_with fail
          go_end0
          exact ⟨rfl, q3, os3, by rw [HF.out]⟩
end Go.Proofs.Ytjfcbflhnfjcfaa.Z
