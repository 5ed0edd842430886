/- Words for texts: a digit's byte, a number's last digits. -/
import Derived.WalkKit
import Derived.Laws.Runes
import Derived.Laws.IdiomStrings
import Derived.Test.YtnakcmliopcabaaMem
namespace Go.Proofs.Ytnakcmliopcabaa.M

theorem ret_str {a b : ByteArray} (h : a = b) : Ending.returned (.string a) = .returned (.string b) := by rw [h]

/-- The byte of a digit. -/
def db (q : Int) : UInt8 := UInt8.ofNat (48 + q).toNat

theorem enc_digit (q : Int) (h0 : 0 ≤ q) (h1 : q ≤ 9) : Utf8.encode (48 + q) = ⟨#[db q]⟩ := by
  have h : q = 0 ∨ q = 1 ∨ q = 2 ∨ q = 3 ∨ q = 4 ∨ q = 5 ∨ q = 6 ∨ q = 7 ∨ q = 8 ∨ q = 9 := by omega
  rcases h with rfl | rfl | rfl | rfl | rfl | rfl | rfl | rfl | rfl | rfl <;> decide
theorem enc_size (q : Int) (h0 : 0 ≤ q) (h1 : q ≤ 9) : (Utf8.encode (48 + q)).size = 1 := by rw [enc_digit q h0 h1]; rfl
theorem app_str (l r : List UInt8) : (⟨l.toArray⟩ : ByteArray) ++ ⟨r.toArray⟩ = ⟨(l ++ r).toArray⟩ := by
  apply ByteArray.ext
  simp [ByteArray.data_append]
theorem enc_app (q : Int) (h0 : 0 ≤ q) (h1 : q ≤ 9) (l : List UInt8) : Utf8.encode (48 + q) ++ (⟨l.toArray⟩ : ByteArray) = ⟨(db q :: l).toArray⟩ := by
  rw [enc_digit q h0 h1]
  exact app_str [db q] l

/-- A number's last digits, so many. -/
def dig (n : Int) : Nat → List UInt8
  | 0 => []
  | k + 1 => dig (n / 10) k ++ [db (n % 10)]
theorem dig_length (n : Int) (k : Nat) : (dig n k).length = k := by
  induction k generalizing n with
  | zero => rfl
  | succ k ih => simp [dig, ih]
theorem dig2 (n : Int) : dig n 2 = [db (n / 10 % 10), db (n % 10)] := rfl
theorem dig4 (n : Int) : dig n 4 = [db (n / 10 / 10 / 10 % 10), db (n / 10 / 10 % 10), db (n / 10 % 10), db (n % 10)] := rfl

open Go.RowKit in
/-- '[]byte(s)': a new row of the text's bytes. -/
theorem bytes_of {P : Program} (w : World) (src dst e : TypeId) (s : ByteArray) (hs : P.underlying src = some .string) (hd : P.underlying dst = some (.slice e)) (he : P.underlying e = some (.int .u8)) :
    ∃ (cap : Nat) (W1 : World), (convert src dst (.string s)).run P w = .ok (.slice (some ⟨w.heap.size, 0, none⟩) s.size cap) W1 ∧ Below w.heap.size w W1 ∧ w.heap.size < W1.heap.size ∧
      ∀ j, j < s.data.toList.length → W1.cell? ⟨w.heap.size, j, none⟩ = some (.int .u8 ((s.data.toList.getD j 0).toNat : Int)) := by
  refine ⟨_, _, run_bytes_of_string w src dst e s hs hd he, ⟨rfl, rfl, rfl, by simp, fun k hk => Below.heap_alloc _ _ _ hk⟩, by simp, fun j hj => ?_⟩
  have hj' : j < s.data.size := by simpa using hj
  have hh : ∀ (C : Array Value) (n : Nat), (w.drew.alloc (.cells C e (n, n + 1))).cell? ⟨w.heap.size, j, none⟩ = C[j]? := fun C n => by
    have h : (w.drew.alloc (.cells C e (n, n + 1))).heap[w.heap.size]? = some (.cells C e (n, n + 1)) := block_alloc_last w.drew _
    unfold World.cell?
    rw [h]
    rfl
  rw [hh, bytesRow_at s _ j hj']
  have h2 : s.data.toList.getD j 0 = s.data[j] := by
    rw [List.getD_eq_getElem?_getD, List.getElem?_eq_getElem hj]
    simp
  rw [h2]
end Go.Proofs.Ytnakcmliopcabaa.M
