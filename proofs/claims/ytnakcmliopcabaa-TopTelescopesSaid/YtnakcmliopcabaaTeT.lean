/- The differences of two lists of at most one slip: delta.All. -/
import Derived.Test.YtnakcmliopcabaaTeR
import Derived.Test.YtnakcmliopcabaaTeQ
namespace Go.Proofs.Ytnakcmliopcabaa.W
open Go.RowKit Go.Proofs.Ytnakcmliopcabaa.M Go.Proofs.Ytnakcmliopcabaa.S
open Go.Maps (Keyed)
set_option linter.unusedVariables false

theorem infoSlip : (Try.prog.info? 29).map (fun i => (i.zero, i.size, i.bytes)) = some (some (.agg #[.int .i64 0, .int .i64 0, .slice none 0 0]), 3, 40) := by kernel_rfl
/-- A slice of one slip, of a table's lines. -/
def One (w : World) (v : Value) (T : Nat → Int) : Prop := ∃ g o cap a c, v = .slice (some ⟨g, o, none⟩) 1 cap ∧ g < w.heap.size ∧ w.cell? ⟨g, o, none⟩ = some (.int .i64 2026) ∧ w.cell? ⟨g, o + 1, none⟩ = some (.int .i64 1) ∧ w.cell? ⟨g, o + 2, none⟩ = some (.slice a (ln T) c) ∧ Lst 3 w a (ln T) (lcs T) ∧ (ln T ≤ c ∧ c ≤ maxLen) ∧ (a = none → ln T = 0 ∧ c = 0)
theorem One.step {w w' : World} {v : Value} {T : Nat → Int} (h : One w v T) (hb : Below w.heap.size w w') : One w' v T := by
  obtain ⟨g, o, cap, a, c, h1, h2, h3, h4, h5, h6, h7, h8⟩ := h
  exact ⟨g, o, cap, a, c, h1, Nat.lt_of_lt_of_le h2 hb.size, bc hb h2 h3, bc hb h2 h4, bc hb h2 h5, h6.step hb, h7, h8⟩
/-- A list of at most one slip, as table reads it. -/
structure TabIn (W : World) (v : Value) (A : Nat → Int) (y i : Int) (nb : Bool) (a1 : Option Addr) (cap1 : Nat) (f : Unit → Option Sx) (n : Nat) : Prop where
  call : ∀ w, Below W.heap.size W w → Calls Try.prog 10 #[v] w (TabOut f n w)
  get : (f ()).getD (0, 0, none, 0, 0) = (y, i, a1, ln A, cap1)
  was : Was y i nb A a1 cap1
  lst : Lst 3 W a1 (ln A) (lcs A)
  cap : ln A ≤ cap1 ∧ cap1 ≤ maxLen
  nil : a1 = none → ln A = 0 ∧ cap1 = 0
  num : (f () = none ∧ n = 0) ∨ (f () = some (2026, 1, a1, ln A, cap1) ∧ n = 1)
theorem tab_none (W : World) (a : Option Addr) (cap : Nat) : TabIn W (.slice a 0 cap) (fun _ => 0) 0 0 true none 0 (fun _ => none) 0 where
  call w _ := table_none a cap w
  get := by rw [ln_zero]; rfl
  was := was_none
  lst := ⟨by rw [ln_zero]; omega, fun h => by rw [ln_zero] at h; omega⟩
  cap := by rw [ln_zero]; exact ⟨Nat.le_refl _, Nat.zero_le _⟩
  nil _ := ⟨ln_zero, rfl⟩
  num := .inl ⟨rfl, rfl⟩
theorem tab_one {W : World} {v : Value} {A : Nat → Int} (hA : small BB A) (h : One W v A) : ∃ a1 cap1, TabIn W v A 2026 1 false a1 cap1 (fun _ => some (2026, 1, a1, ln A, cap1)) 1 := by
  obtain ⟨g, o, cap, a, c, rfl, h2, h3, h4, h5, h6, h7, h8⟩ := h
  refine ⟨a, c, ?_, rfl, was_slip A hA a c, h6, h7, h8, .inr ⟨rfl, rfl⟩⟩
  intro w hb
  exact table_one A hA a c g o cap w (h6.step hb) (Nat.lt_of_lt_of_le h2 hb.size) (bc hb h2 h3) (bc hb h2 h4) (bc hb h2 h5)
theorem keep3 {X wS : World} (h : Below X.heap.size X wS) {u v t : Value} : Below X.heap.size X (((wS.setCell ⟨X.heap.size, 0, none⟩ u).setCell ⟨X.heap.size, 1, none⟩ v).setCell ⟨X.heap.size, 2, none⟩ t) ∧ ∀ b o, b < X.heap.size → (((wS.setCell ⟨X.heap.size, 0, none⟩ u).setCell ⟨X.heap.size, 1, none⟩ v).setCell ⟨X.heap.size, 2, none⟩ t).cell? ⟨b, o, none⟩ = X.cell? ⟨b, o, none⟩ := by
  have h1 := bset (bset (bset h (p := ⟨X.heap.size, 0, none⟩) (Nat.le_refl _) u) (p := ⟨X.heap.size, 1, none⟩) (Nat.le_refl _) v) (p := ⟨X.heap.size, 2, none⟩) (Nat.le_refl _) t
  exact ⟨h1, (bcell h1).1⟩
/-- A slip that the call has made, in a block of its own behind X. -/
def CutD (T : Nat → Int) (X : World) (s : Value) (wx : World) : Prop := ∃ Q a c, s = .pointer (some ⟨Q, 0, none⟩) ∧ Q < wx.heap.size ∧ wx.cell? ⟨Q, 0, none⟩ = some (.int .i64 2026) ∧ wx.cell? ⟨Q, 1, none⟩ = some (.int .i64 1) ∧ wx.cell? ⟨Q, 2, none⟩ = some (.slice a (ln T) c) ∧ Lst 3 wx a (ln T) (lcs T) ∧ (ln T ≤ c ∧ c ≤ maxLen) ∧ (a = none → ln T = 0 ∧ c = 0) ∧ Below X.heap.size X wx
theorem cut_i {X wS : World} {T : Nat → Int} {a : Option Addr} {c : Nat} (hb : Below X.heap.size X wS) (hl : Lst 3 wS a (ln T) (lcs T)) (hc : ln T ≤ c ∧ c ≤ maxLen) (hn : a = none → ln T = 0 ∧ c = 0) : CutD T X (.pointer (some ⟨wS.heap.size, 0, none⟩)) (wS.alloc (.cells #[.int .i64 2026, .int .i64 1, .slice a (ln T) c] 29)) :=
  ⟨wS.heap.size, a, c, rfl, by simp, by simp, by simp, by simp, hl.step (balloc (Below.refl _ _) _), hc, hn, balloc hb _⟩
theorem cut_ii {X wS : World} {T : Nat → Int} {a : Option Addr} {c : Nat} {t0 t1 t2 : Value} (hb : Below X.heap.size X wS) (hl : Lst 3 wS a (ln T) (lcs T)) (hc : ln T ≤ c ∧ c ≤ maxLen) (hn : a = none → ln T = 0 ∧ c = 0) (hf : ∀ x, a = some x → X.heap.size + 1 ≤ x.block) (s0 : wS.cell? ⟨X.heap.size, 0, none⟩ = some t0) (s1 : wS.cell? ⟨X.heap.size, 1, none⟩ = some t1) (s2 : wS.cell? ⟨X.heap.size, 2, none⟩ = some t2) :
    CutD T X (.pointer (some ⟨X.heap.size, 0, none⟩)) (((wS.setCell ⟨X.heap.size, 0, none⟩ (.int .i64 2026)).setCell ⟨X.heap.size, 1, none⟩ (.int .i64 1)).setCell ⟨X.heap.size, 2, none⟩ (.slice a (ln T) c)) := by
  obtain ⟨y0, y1, y2⟩ := set3 wS X.heap.size (.int .i64 2026) (.int .i64 1) (.slice a (ln T) c) s0 s1 s2
  have hq := World.block_lt_of_cell? _ _ y0
  have hne : ∀ x, a = some x → x.block ≠ X.heap.size := fun x hx => by have := hf x hx; omega
  exact ⟨X.heap.size, a, c, rfl, hq, y0, y1, y2, ((hl.set hne _).set hne _).set hne _, hc, hn, (keep3 hb).1⟩
def AllOut (T : Nat → Int) (W : World) (e : Ending) (w' : World) : Prop := ∃ v, e = .returned (.tuple #[v, .int .i64 0]) ∧ One w' v T ∧ Below W.heap.size W w'

set_option maxRecDepth 100000 in
set_option maxHeartbeats 4000000 in
theorem all_is (A B : Nat → Int) (hA : small BB A) (hB : small BB B) (v0 v1 : Value) (y i : Int) (nb : Bool) (a1 a2 : Option Addr) (cap1 cap2 : Nat) (f : Unit → Option Sx) (n : Nat) (W : World) (hW : TabIn W v0 A y i nb a1 cap1 f n) (hN : TabIn W v1 B 2026 1 false a2 cap2 (fun _ => some (2026, 1, a2, ln B, cap2)) 1) :
    Calls Try.prog 5 #[v0, v1] W (AllOut (fun i => B i - A i) W) := by
  have HW := Lib.hid hW
  have HN := Lib.hid hN
  have HO := Lib.hid (fun (w : World) h1 h2 => of_all y i nb A B hA hB a1 cap1 hW.was a2 cap2 w h1 h2)
  have hn : n ≤ 1 := by rcases hW.num with h | h <;> omega
  clear hW hN hA hB
  go_enter Try.func5, Try.ntmps5
  go_wp2_with fail
  refine (HW.out.call W (Below.refl _ _)).mono ?_
  rintro e w1 ⟨b1, rfl, hbl1, hM1, hb1⟩
  have HM1 := Lib.hid hM1
  have HB1 := Lib.hid hb1
  have HBL1 := Lib.hid hbl1
  clear hM1 hb1 hbl1
  go_wp2_with fail
  refine (HN.out.call w1 HB1.out).mono ?_
  rintro e w2 ⟨b2, rfl, hbl2, hM2, hb2⟩
  have hlt1 : b1 < w1.heap.size := HM1.out.lt
  have HM1' := Lib.hid (HM1.out.next hb2 hlt1)
  have HM2 := Lib.hid hM2
  have HB2 := Lib.hid (bstep HB1.out hb2)
  clear hM2 hb2 hbl2 HM1 hlt1
  have hgl : w2.heap.size < (w2.alloc (.cells #[.map (some b1), .map (some b2)] 46)).heap.size := by simp
  have hc0 : ∀ j, j < 2 → (w2.alloc (.cells #[.map (some b1), .map (some b2)] 46)).cell? ⟨w2.heap.size, j, none⟩ = some (.map (some (if j = 0 then b1 else b2))) := fun j hj => by
    rcases (by omega : j = 0 ∨ j = 1) with rfl | rfl <;> simp
  have hb3 := balloc (Below.refl w2.heap.size w2) (.cells #[.map (some b1), .map (some b2)] 46)
  have hMj : ∀ j, j < 2 → MapT (w2.alloc (.cells #[.map (some b1), .map (some b2)] 46)) (if j = 0 then b1 else b2) (if j = 0 then n else 1) (if j = 0 then f else fun _ => some (2026, 1, a2, ln B, cap2)) := fun j hj => by
    rcases (by omega : j = 0 ∨ j = 1) with rfl | rfl
    · exact HM1'.out.next hb3 HM1'.out.lt
    · exact HM2.out.next hb3 HM2.out.lt
  have HP := Lib.hid (periods_is 2 (fun j => if j = 0 then b1 else b2) (fun j => if j = 0 then n else 1) (fun j => if j = 0 then f else fun _ => some (2026, 1, a2, ln B, cap2)) w2.heap.size _ (by omega) (fun j hj => by rcases (by omega : j = 0 ∨ j = 1) with rfl | rfl <;> simp; omega) hgl hc0 hMj (by simp [cum]; omega))
  have HB3 := Lib.hid (bstep HB2.out hb3)
  have HB3' := Lib.hid hb3
  clear hgl hc0 hb3 hMj
  go_wp2_with fail
  refine HP.out.mono ?_
  rintro e w3 ⟨g, cap, rfl, e0, e1, hg1, hg2, hb3⟩
  have HM1 := Lib.hid (HM1'.out.next (bstep HB3'.out hb3) HM1'.out.lt)
  have HM2' := Lib.hid (HM2.out.next (bstep HB3'.out hb3) HM2.out.lt)
  have HBW := Lib.hid (bstep HB3.out hb3)
  clear hb3 HB3' HB3 HP HM1' HM2 HB1 HB2 hg1
  go_wp2_with fail
  go_loopw [9, 35] (fun s9 s35 wx => (s35 = .int .i64 0 ∧ s9 = .slice none 0 0 ∧ wx = w3) ∨ (s35 = .int .i64 1 ∧ Hid (One wx s9 (fun i => B i - A i) ∧ Below W.heap.size W wx))) (fun _ s35 _ => 2 - (intOf s35).toNat)
  case atStart => exact .inl ⟨rfl, rfl, rfl⟩
  case round =>
    rcases hrel with ⟨rfl, rfl, rfl⟩ | ⟨rfl, hfin⟩
    · have hX0 := Lib.hid (balloc (Below.refl wr.heap.size wr) (.cells #[.int .i64 2026, .int .i64 1] 51))
      have x0 : (wr.alloc (.cells #[.int .i64 2026, .int .i64 1] 51)).cell? ⟨wr.heap.size, 0, none⟩ = some (.int .i64 2026) := by simp
      have x1 : (wr.alloc (.cells #[.int .i64 2026, .int .i64 1] 51)).cell? ⟨wr.heap.size, 1, none⟩ = some (.int .i64 1) := by simp
      have xs : wr.heap.size < (wr.alloc (.cells #[.int .i64 2026, .int .i64 1] 51)).heap.size := by simp
      go_upto_region 11 with fail
      clear e0 e1
      generalize wr.alloc (.cells #[.int .i64 2026, .int .i64 1] 51) = X at *
      obtain ⟨PX, hPX⟩ : ∃ m, wr.heap.size = m := ⟨_, rfl⟩
      have HPX := Lib.hid hPX
      have hw3 : Hid (wr.heap.size ≤ X.heap.size) := hX0.out.size
      rw [hPX] at x0 x1 xs ⊢
      clear hPX
      have HXW := Lib.hid (bstep HBW.out hX0.out)
      have hMa := HM1.out.next hX0.out HM1.out.lt
      have hMb := HM2'.out.next hX0.out HM2'.out.lt
      have hba : b1 < X.heap.size := hMa.lt
      have hbb : b2 < X.heap.size := hMb.lt
      have hMaD : MapT X.drew b1 n f := hMa.same rfl
      have hMbD : MapT X.drew b2 1 (fun _ => some (2026, 1, a2, ln B, cap2)) := hMb.same rfl
      have hMaZ : MapT (X.alloc (.cells #[.int .i64 0, .int .i64 0, .slice none 0 0] 29)).drew b1 n f := (hMa.next (m := X.heap.size) (balloc (Below.refl X.heap.size X) (.cells #[.int .i64 0, .int .i64 0, .slice none 0 0] 29)) hba).same rfl
      have hMbZ : MapT (X.alloc (.cells #[.int .i64 0, .int .i64 0, .slice none 0 0] 29)).drew b2 1 (fun _ => some (2026, 1, a2, ln B, cap2)) := (hMb.next (m := X.heap.size) (balloc (Below.refl X.heap.size X) (.cells #[.int .i64 0, .int .i64 0, .slice none 0 0] 29)) hbb).same rfl
      have hla := hMaD.look reads_sx kPer perNames Try.underlying46 (zeroSlip _) (s := ()) trivial
      have hlb := hMbD.look reads_sx kPer perNames Try.underlying46 (zeroSlip _) (s := ()) trivial
      have hla' := hMaZ.look reads_sx kPer perNames Try.underlying46 (zeroSlip _) (s := ()) trivial
      have hlb' := hMbZ.look reads_sx kPer perNames Try.underlying46 (zeroSlip _) (s := ()) trivial
      rw [HW.out.get] at hla hla'
      have hlaD : Sem.run Try.prog (Instr.lookup 46 (.map (some b1)) (.agg #[.int .i64 2026, .int .i64 1]) false) X.drew = .ok (.agg #[.int .i64 y, .int .i64 i, .slice a1 (ln A) cap1]) X.drew := hla
      have hlbD : Sem.run Try.prog (Instr.lookup 46 (.map (some b2)) (.agg #[.int .i64 2026, .int .i64 1]) false) X.drew = .ok (.agg #[.int .i64 2026, .int .i64 1, .slice a2 (ln B) cap2]) X.drew := hlb
      have hlaZ : Sem.run Try.prog (Instr.lookup 46 (.map (some b1)) (.agg #[.int .i64 2026, .int .i64 1]) false) (X.alloc (.cells #[.int .i64 0, .int .i64 0, .slice none 0 0] 29)).drew = .ok (.agg #[.int .i64 y, .int .i64 i, .slice a1 (ln A) cap1]) (X.alloc (.cells #[.int .i64 0, .int .i64 0, .slice none 0 0] 29)).drew := hla'
      have hlbZ : Sem.run Try.prog (Instr.lookup 46 (.map (some b2)) (.agg #[.int .i64 2026, .int .i64 1]) false) (X.alloc (.cells #[.int .i64 0, .int .i64 0, .slice none 0 0] 29)).drew = .ok (.agg #[.int .i64 2026, .int .i64 1, .slice a2 (ln B) cap2]) (X.alloc (.cells #[.int .i64 0, .int .i64 0, .slice none 0 0] 29)).drew := hlb'
      clear hla hlb hla' hlb' hMa hMb hMaD hMbD hMaZ hMbZ hba hbb
      have hL1 : Hid (Lst 3 X a1 (ln A) (lcs A)) := HW.out.lst.step HXW.out
      have hL2 : Hid (Lst 3 X a2 (ln B) (lcs B)) := (HN.out.lst.step (bstep HBW.out hX0.out))
      have HCX : Hid (X.cell? ⟨PX, 0, none⟩ = some (.int .i64 2026) ∧ X.cell? ⟨PX, 1, none⟩ = some (.int .i64 1)) := ⟨x0, x1⟩
      unfold sv at HO
      have HSZ : Hid (∀ x : Addr, (X.alloc (.cells #[.int .i64 0, .int .i64 0, .slice none 0 0] 29)).drew.heap.size ≤ x.block → X.heap.size + 1 ≤ x.block) := fun x hx => by
        have h0 : (X.alloc (.cells #[.int .i64 0, .int .i64 0, .slice none 0 0] 29)).drew.heap.size = X.heap.size + 1 := show (X.alloc (.cells #[.int .i64 0, .int .i64 0, .slice none 0 0] 29)).heap.size = _ by simp
        rw [h0] at hx; exact hx
      go_cut [12, 13] (fun s12 s13 wx => s13 = .int .i64 0 ∧ CutD (fun i => B i - A i) X s12 wx)
      case first =>
        have zs : X.heap.size < (X.alloc (.cells #[.int .i64 0, .int .i64 0, .slice none 0 0] 29)).drew.heap.size := show _ < (X.alloc (.cells #[.int .i64 0, .int .i64 0, .slice none 0 0] 29)).heap.size by simp
        have z0 : (X.alloc (.cells #[.int .i64 0, .int .i64 0, .slice none 0 0] 29)).drew.cell? ⟨X.heap.size, 0, none⟩ = some (.int .i64 0) := show (X.alloc (.cells #[.int .i64 0, .int .i64 0, .slice none 0 0] 29)).cell? _ = _ by simp
        have z1 : (X.alloc (.cells #[.int .i64 0, .int .i64 0, .slice none 0 0] 29)).drew.cell? ⟨X.heap.size, 1, none⟩ = some (.int .i64 0) := show (X.alloc (.cells #[.int .i64 0, .int .i64 0, .slice none 0 0] 29)).cell? _ = _ by simp
        have z2 : (X.alloc (.cells #[.int .i64 0, .int .i64 0, .slice none 0 0] 29)).drew.cell? ⟨X.heap.size, 2, none⟩ = some (.slice none 0 0) := show (X.alloc (.cells #[.int .i64 0, .int .i64 0, .slice none 0 0] 29)).cell? _ = _ by simp
        have zf : ∀ o, (X.alloc (.cells #[.int .i64 0, .int .i64 0, .slice none 0 0] 29)).drew.frozen? ⟨X.heap.size, o, none⟩ = false := fun o => World.frozen?_alloc_at _ _ _ _ rfl
        have HZ := Lib.hid (And.intro zs (And.intro z0 (And.intro z1 (And.intro z2 zf))))
        clear zs z0 z1 z2 zf
        go_region_held3 (fun w' => Below X.heap.size X w' ∧ ∀ b o, b < X.heap.size → w'.cell? ⟨b, o, none⟩ = X.cell? ⟨b, o, none⟩)
          (first | exact ⟨(Below.refl _ _).drew, fun _ _ _ => rfl⟩ | exact ⟨hBS, (bcell hBS).1⟩ | exact ⟨balloc hBS _, (bcell (balloc hBS _)).1⟩ | exact keep3 hBS | exact ⟨(balloc (Below.refl _ _) _).drew, (bcell (balloc (Below.refl _ _) _)).1⟩ | exact ⟨balloc (And.left (by assumption)) _, (bcell (balloc (And.left (by assumption)) _)).1⟩ | assumption)
          ((go_at_call 12; refine (HO.out _ (hL1.out.step (And.left (by assumption))) (hL2.out.step (And.left (by assumption)))).mono ?_; rintro e wS ⟨a5, cap5, rfl, hl5, hc5, hn5, hbS, hf5⟩; unfold sv; (try have s0 := bc hbS HZ.out.1 HZ.out.2.1); (try have s1 := bc hbS HZ.out.1 HZ.out.2.2.1); (try have s2 := bc hbS HZ.out.1 HZ.out.2.2.2.1); (try have f0 := bf hbS HZ.out.1 (HZ.out.2.2.2.2 0)); (try have f1 := bf hbS HZ.out.1 (HZ.out.2.2.2.2 1)); (try have f2 := bf hbS HZ.out.1 (HZ.out.2.2.2.2 2)); have hBS : Below X.heap.size X wS := bstep (And.left (by assumption)) hbS))
        all_goals
          go_wp2_with fail
          go_meet
          first
            | exact ⟨rfl, cut_i hBS hl5 hc5 hn5⟩
            | exact ⟨rfl, cut_ii hBS hl5 hc5 hn5 (fun x hx => HSZ.out x (hf5 x hx)) s0 s1 s2⟩
      case rest =>
        obtain ⟨rfl, hcd⟩ := hcut
        clear hlaD hlbD hlaZ hlbZ hL1 hL2 HCX HSZ x0 x1
        obtain ⟨Q, a, c, rfl, hQ, q0, q1, q2, hl, hc, hnl, hbX⟩ := hcd
        obtain ⟨L, hL⟩ : ∃ m, ln (fun i => B i - A i) = m := ⟨_, rfl⟩
        have HLL := Lib.hid hL
        rw [hL] at q2 hl hc hnl
        have HWC := Lib.hid (bstep HXW.out hbX)
        have HLC := Lib.hid hl
        have HCC := Lib.hid (And.intro hc hnl)
        clear hL hl hc hnl hbX
        obtain ⟨ie, hie, hz0, hz1, hz2⟩ := info_parts infoSlip
        have hnews : ∀ j u, [Value.int .i64 2026, .int .i64 1, .slice a L c][j]? = some u → (wc.alloc (.cells #[.int .i64 2026, .int .i64 1, .slice a L c] 29)).cell? ((⟨wc.heap.size, 0, none⟩ : Addr).add j) = some u :=
          World.news_of_block (block_alloc_last wc (.cells #[.int .i64 2026, .int .i64 1, .slice a L c] 29 (0, 0)))
        go_wp2_with (at_builtin; refine wpList_append_lies _ rfl _ _ 24 rfl wc.heap.size 29 ie (.agg #[.int .i64 0, .int .i64 0, .slice none 0 0]) 3 40 Try.underlying24 hie hz0 hz1 hz2 rfl (by decide) _ 0 [] rfl (World.ownsRow_nil _ _ _ _) ⟨wc.heap.size, 0, none⟩ 1 1 [.int .i64 2026, .int .i64 1, .slice a L c] rfl rfl hnews (by intro u hu; simp at hu; rcases hu with rfl | rfl | rfl <;> rfl) (by decide) (by unfold maxLen; omega) (by omega) (by simp) _ rfl ?_)
        intro g6 cp6 w6 hown2 hgr hat6 hglt
        have hb6 : Below wc.heap.size wc w6 := (balloc (Below.refl wc.heap.size wc) _).grown hgr (by simp) (fun k hk => by cases hk)
        have hone : Hid (One w6 (.slice (some ⟨g6, 0, none⟩) 1 cp6) (fun i => B i - A i)) := by
          refine ⟨g6, 0, cp6, a, c, rfl, hglt, hown2.cellAt 0 (by decide), hown2.cellAt 1 (by decide), ?_, ?_, ?_⟩
          · rw [HLL.out]; exact hown2.cellAt 2 (by decide)
          · rw [HLL.out]; exact HLC.out.step hb6
          · rw [HLL.out]; exact HCC.out
        have hbW : Hid (Below W.heap.size W w6) := bstep HWC.out hb6
        clear hown2 hgr hat6 hglt hb6 hnews
        go_wp2_with fail
        go_roundw
        case rel => exact .inr ⟨by go_num, hone.out, hbW.out⟩
        case measure => simp [intOf]
    · go_wp2_with fail
      go_ret2
      exact ⟨_, rfl, hfin.out.1, hfin.out.2⟩
end Go.Proofs.Ytnakcmliopcabaa.W
