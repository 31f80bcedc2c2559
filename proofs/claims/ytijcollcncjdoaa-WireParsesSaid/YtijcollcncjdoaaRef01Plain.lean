/- Bits as bytes 0 and 1 (the document's rows): plain laws. No conditions. -/
import Derived.Test.YtijcollcncjdoaaBitsPlain2
namespace Kin.Bit

/-- a bit as a byte -/
def one (b : Bool) : UInt8 := if b then 1 else 0
theorem one_toNat (b : Bool) : (one b).toNat = b.toNat := by cases b <;> rfl
/-- bits as bytes -/
def zo (B : List Bool) : List UInt8 := B.map one
theorem length_zo (B : List Bool) : (zo B).length = B.length := by simp [zo]
theorem zo_append (A B : List Bool) : zo (A ++ B) = zo A ++ zo B := by simp [zo]
theorem zo_at (B : List Bool) (k : Nat) : (zo B)[k]? = B[k]?.map one := by simp [zo]
theorem zo_drop (B : List Bool) (k : Nat) : (zo B).drop k = zo (B.drop k) := by simp [zo]
theorem zo_take (B : List Bool) (k : Nat) : (zo B).take k = zo (B.take k) := by simp [zo]
theorem zo_nil : zo [] = [] := rfl

theorem zo_digits (v n : Nat) {i : Nat} (h : i < n) : (zo (digits v n))[i]? = some (one (v.testBit (n - 1 - i))) := by
  rw [zo_at, digits_at v n h]; rfl

/-- the bit i of v as the program finds it -/
theorem low_bit (v i : Nat) : v / 2 ^ i % 2 = (one (v.testBit i)).toNat := by
  rw [one_toNat, Nat.toNat_testBit]

theorem num_take_succ (B : List Bool) (j : Nat) (b : Bool) (h : B[j]? = some b) : num (B.take (j + 1)) = 2 * num (B.take j) + b.toNat := by
  rw [List.take_add_one, h, Option.toList_some, num_snoc]

/-- the byte from bit i on, its first k bits -/
def eight (B : List Bool) (i k : Nat) : Nat := num ((List.range k).map fun j => B.getD (i + j) false)
theorem eight_zero (B : List Bool) (i : Nat) : eight B i 0 = 0 := rfl
theorem eight_succ (B : List Bool) (i k : Nat) : eight B i (k + 1) = 2 * eight B i k + (B.getD (i + k) false).toNat := by
  unfold eight
  rw [List.range_succ, List.map_append, List.map_singleton, num_snoc]
theorem eight_lt (B : List Bool) (i k : Nat) : eight B i k < 2 ^ k := by
  have := num_lt ((List.range k).map fun j => B.getD (i + j) false)
  simpa [eight] using this
theorem eight_byteAt (B : List Bool) (j : Nat) : eight B (8 * j) 8 = (byteAt B j).toNat := by rw [byteAt_toNat]; rfl

theorem pack_take (B : List Bool) (j : Nat) (h : 8 * j < B.length) : (pack B).take (j + 1) = (pack B).take j ++ [byteAt B j] := by
  rw [List.take_add_one, pack_at B (by omega)]; rfl

theorem row_take (l : List UInt8) (j : Nat) (x : UInt8) (h : l[j]? = some x) : row (l.take (j + 1)) = row (l.take j) ++ digits x.toNat 8 := by
  have hj : j < l.length := (List.getElem?_eq_some_iff.1 h).1
  have e1 : (l.take (j + 1)).length = j + 1 := by simp; omega
  have e0 : (l.take j).length = j := by simp; omega
  apply List.ext_getElem?
  intro k
  by_cases hk : k < 8 * (j + 1)
  · rw [row_at _ (by rw [e1]; exact hk)]
    by_cases hk' : k < 8 * j
    · rw [List.getElem?_append_left (by rw [length_row, e0]; exact hk'), row_at _ (by rw [e0]; exact hk')]
      congr 1
      unfold rbit
      rw [List.getD, List.getD, List.getElem?_take_of_lt (by omega), List.getElem?_take_of_lt (by omega)]
    · rw [List.getElem?_append_right (by rw [length_row, e0]; omega), length_row, e0, digits_at _ _ (by omega)]
      congr 1
      unfold rbit
      rw [List.getD, List.getElem?_take_of_lt (by omega), show k / 8 = j from by omega, h]
      simp only [Option.getD_some]
      congr 1
      omega
  · rw [List.getElem?_eq_none (by rw [length_row, e1]; omega), List.getElem?_eq_none (by rw [List.length_append, length_row, e0, length_digits]; omega)]
end Kin.Bit
