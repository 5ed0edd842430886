/- An entry of a map that the call owns, taken and stored to: what 'm[k] += x' runs. -/
import Derived.Test.YtnakcmliopcabaaMapK
import Derived.WideKeyEntry
namespace Go.Proofs.Ytnakcmliopcabaa.M
open Go.ChangeMaps Go.MapKept Go.RowKit Go.WideElems Go.WideShapes
open Go.Maps (Keyed IsMap Tidy)
set_option linter.unusedVariables false
section
variable {X K : Type} {P : Program} {k e t : TypeId} {kv : K → Value} {ok : K → Prop} {val : X → Value} {dat : X → DataW Unit} {R : Value → Option (DataW Unit × List MemPlace)} {w : World} {b n : Nat} {f : K → Option X}
theorem MapF.entry [DecidableEq K] (h : MapF P k kv ok dat R w b n f) (E : Reads val dat R) (Y : Keyed P k) (N : Names P k kv ok) (ht : P.underlying t = some (.map k e)) (hn : n < maxLen) {z : X} (hz : ∀ u : World, (zeroValue e).run P u = .ok (val z) u) {s : K} (hs : ok s) :
    ∃ st w1, (Instr.mapEntry t (.map (some b)) (kv s)).run P w = .ok (.tuple #[val ((f s).getD z), goInt st]) w1 ∧ MapF P k kv ok dat R w1 b (moreK f s n) (updK f s ((f s).getD z)) ∧ w.mapTurned w1 b ∧
      ∀ x, ∃ w2, (Instr.entryStore t (.map (some b)) (goInt st) (val x)).run P w1 = .ok () w2 ∧ MapF P k kv ok dat R w2 b (moreK f s n) (updK f s x) ∧ w.mapTurned w2 b := by
  have hlook := h.look E Y N ht (hz w) hs
  have hstore := fun x => h.store E Y N ht hn hs x
  obtain ⟨D, ⟨es, clock, hb, F, hle, hD⟩, h2⟩ := h
  have hkey := N.key hs
  obtain ⟨s1, s2, _⟩ := F.stamped
  have hat : ∀ o, (setBlock w b o).heap[b]? = some o := fun o => by
    have hlt : b < w.heap.size := by rw [Array.getElem?_eq_some_iff] at hb; exact hb.1
    simp [setBlock, hlt]
  have hset : ∀ o o', setBlock (setBlock w b o) b o' = setBlock w b o' := fun o o' => by simp [setBlock]
  rcases Y.find w hkey es.toList F.keys with ⟨f1, f2⟩ | ⟨j, e0, f1, f2, f3⟩
  · have hv : val z = val ((f s).getD z) := by
      simp [Instr.lookup, run_underlying ht, MapKept.run_getObj_map hb, Y.check w _ hkey, f1, hz, Result.andThen] at hlook
      exact hlook
    have hup : ∀ v, (Instr.mapUpdate t (.map (some b)) (kv s) v).run P w = .ok () (setBlock w b (.map (es.push ⟨kv s, v, clock⟩) (clock + 1))) := fun v => by
      simp [Instr.mapUpdate, run_underlying ht, MapKept.run_getObj_map hb, Y.check w false hkey, f1, MapKept.run_setObj_map _ hb, Result.andThen, setBlock]
    have hfin : ∀ x, MapF P k kv ok dat R (setBlock w b (.map (es.push ⟨kv s, val x, clock⟩) (clock + 1))) b (moreK f s n) (updK f s x) ∧ w.mapTurned (setBlock w b (.map (es.push ⟨kv s, val x, clock⟩) (clock + 1))) b := fun x => by
      obtain ⟨w', hr, hm, ht'⟩ := hstore x
      rw [hup] at hr
      injection hr with _ hr
      rw [hr]; exact ⟨hm, ht'⟩
    refine ⟨clock, setBlock w b (.map (es.push ⟨kv s, val z, clock⟩) (clock + 1)), ?_, ?_, ?_, fun x => ⟨setBlock w b (.map (es.push ⟨kv s, val x, clock⟩) (clock + 1)), ?_, (hfin x).1, (hfin x).2⟩⟩
    · rw [← hv]
      simp [Instr.mapEntry, run_underlying ht, MapKept.run_getObj_map hb, Y.check w false hkey, f1, hz, MapKept.run_setObj_map _ hb, Result.andThen, setBlock]
    · have := (hfin ((f s).getD z)).1
      rw [← hv] at this; exact this
    · exact (hfin z).2
    · have hidx : (es.push ⟨kv s, val z, clock⟩).findIdx? (fun e => ((e.born : Nat) : Int) == ((clock : Nat) : Int)) = some es.size := by
        rw [findIdx_arr]
        have := findIdx_born (l := (es.push ⟨kv s, val z, clock⟩).toList) (j := es.size) (e0 := ⟨kv s, val z, clock⟩) (by
          simp only [Array.toList_push, List.map_append, List.map_cons, List.map_nil]
          refine List.nodup_append.2 ⟨s2, by simp, fun a ha c hc e1 => ?_⟩
          simp only [List.mem_singleton] at hc
          obtain ⟨x, hx, rfl⟩ := List.mem_map.1 ha
          have := s1 x hx
          omega) (by simp)
        exact this
      have hmod : (es.push ⟨kv s, val z, clock⟩).modify es.size (fun e => { e with val := val x }) = es.push ⟨kv s, val x, clock⟩ := by
        apply Array.ext'
        rw [Array.toList_modify, Array.toList_push, Array.toList_push, ← Array.length_toList, modify_last]
      have h1 : (Instr.entryStore t (.map (some b)) (goInt clock) (val x)).run P (setBlock w b (.map (es.push ⟨kv s, val z, clock⟩) (clock + 1))) = .ok () (setBlock (setBlock w b (.map (es.push ⟨kv s, val z, clock⟩) (clock + 1))) b (.map (es.push ⟨kv s, val x, clock⟩) (clock + 1))) := by
        have hw2 := hat (.map (es.push ⟨kv s, val z, clock⟩) (clock + 1))
        simp [Instr.entryStore, MapKept.run_getObj_map hw2, asInt, asIntOf, goInt, hidx, hmod, MapKept.run_setObj_map _ hw2, Result.andThen]
        rfl
      rw [h1, hset]
  · have hj : es[j]? = some e0 := by simpa using f2
    have hv : e0.val = val ((f s).getD z) := by
      simp [Instr.lookup, run_underlying ht, MapKept.run_getObj_map hb, Y.check w _ hkey, f1, Result.andThen] at hlook
      exact hlook
    have hself : setBlock w b (.map es clock) = w := by
      unfold setBlock
      obtain ⟨hlt, h4⟩ := Array.getElem?_eq_some_iff.1 hb
      have : w.heap.setIfInBounds b (.map es clock) = w.heap := by
        apply Array.ext
        · simp
        · intro i h1 h2
          by_cases c : i = b
          · subst c; simp [h4]
          · rw [Array.getElem_setIfInBounds_ne (by simpa using h1) (by omega)]
      rw [this]
    have hsame : es.modify j (fun e => { e with key := kv s }) = es := by
      apply Array.ext'
      rw [Array.toList_modify, modify_eq_set _ _ _ _ f2]
      have : ({ e0 with key := kv s } : MapEntry) = e0 := by rw [← f3]
      rw [this]
      exact set_self _ _ _ f2
    have hsame2 : es.modify j (fun e' => { e' with key := kv s, val := e0.val }) = es := by
      apply Array.ext'
      rw [Array.toList_modify, modify_eq_set _ _ _ _ f2]
      have : ({ e0 with key := kv s, val := e0.val } : MapEntry) = e0 := by rw [← f3]
      rw [this]
      exact set_self _ _ _ f2
    have hup : ∀ v, (Instr.mapUpdate t (.map (some b)) (kv s) v).run P w = .ok () (setBlock w b (.map (es.modify j (fun e' => { e' with key := kv s, val := v })) clock)) := fun v => by
      simp [Instr.mapUpdate, run_underlying ht, MapKept.run_getObj_map hb, Y.check w false hkey, f1, hj, f3, Y.stays w hkey, MapKept.run_setObj_map _ hb, Result.andThen, setBlock]
    have hfin : ∀ x, MapF P k kv ok dat R (setBlock w b (.map (es.modify j (fun e' => { e' with key := kv s, val := val x })) clock)) b (moreK f s n) (updK f s x) ∧ w.mapTurned (setBlock w b (.map (es.modify j (fun e' => { e' with key := kv s, val := val x })) clock)) b := fun x => by
      obtain ⟨w', hr, hm, ht'⟩ := hstore x
      rw [hup] at hr
      injection hr with _ hr
      rw [hr]; exact ⟨hm, ht'⟩
    have h0 := hfin ((f s).getD z)
    rw [← hv, hsame2] at h0
    refine ⟨e0.born, setBlock w b (.map es clock), ?_, h0.1, h0.2, fun x => ⟨_, ?_, (hfin x).1, (hfin x).2⟩⟩
    · rw [← hv]
      simp [Instr.mapEntry, run_underlying ht, MapKept.run_getObj_map hb, Y.check w false hkey, f1, hj, f3, Y.stays w hkey, hsame, MapKept.run_setObj_map _ hb, Result.andThen, setBlock]
    · have hidx : es.findIdx? (fun e => ((e.born : Nat) : Int) == ((e0.born : Nat) : Int)) = some j := by
        rw [findIdx_arr]
        exact findIdx_born s2 f2
      have hmod : es.modify j (fun e => { e with val := val x }) = es.modify j (fun e' => { e' with key := kv s, val := val x }) := by
        apply Array.ext'
        rw [Array.toList_modify, Array.toList_modify, modify_eq_set _ _ _ _ f2, modify_eq_set _ _ _ _ f2, ← f3]
      rw [hself]
      simp [Instr.entryStore, MapKept.run_getObj_map hb, asInt, asIntOf, goInt, hidx, hmod, MapKept.run_setObj_map _ hb, Result.andThen, setBlock]
end
end Go.Proofs.Ytnakcmliopcabaa.M
