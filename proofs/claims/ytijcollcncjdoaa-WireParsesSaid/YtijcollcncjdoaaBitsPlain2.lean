/- Plain: numbers in pieces. No program here; no conditions. -/
import Derived.Test.YtijcollcncjdoaaBitsPlain
namespace Kin.Bit

theorem num_append (A B : List Bool) : num (A ++ B) = num A * 2 ^ B.length + num B := by
  induction B using snocInd with
  | h0 => simp [num]
  | h1 B b ih =>
    rw [← List.append_assoc, num_snoc, ih, num_snoc, List.length_append, List.length_singleton, Nat.pow_succ, ← Nat.mul_assoc]
    omega
theorem digits_add (y z n m : Nat) (hy : y < 2 ^ n) (hz : z < 2 ^ m) : digits (y * 2 ^ m + z) (n + m) = digits y n ++ digits z m := by
  have h := digits_num (digits y n ++ digits z m)
  rw [num_append, num_digits, num_digits, List.length_append, length_digits, length_digits, Nat.mod_eq_of_lt hy, Nat.mod_eq_of_lt hz] at h
  exact h
theorem shl_or (y z n m : Nat) (hy : y < 2 ^ n) (hz : z < 2 ^ m) (hnm : n + m ≤ 64) : y * 2 ^ m % 18446744073709551616 ||| z = y * 2 ^ m + z := by
  have h1 : y * 2 ^ m < 2 ^ n * 2 ^ m := Nat.mul_lt_mul_of_pos_right hy (Nat.two_pow_pos m)
  rw [← Nat.pow_add] at h1
  have h2 : 2 ^ (n + m) ≤ 2 ^ 64 := Nat.pow_le_pow_right (by omega) hnm
  rw [Nat.mod_eq_of_lt (by omega)]
  have h3 := Nat.two_pow_add_eq_or_of_lt hz y
  rw [Nat.mul_comm] at h3
  exact h3.symm
end Kin.Bit
