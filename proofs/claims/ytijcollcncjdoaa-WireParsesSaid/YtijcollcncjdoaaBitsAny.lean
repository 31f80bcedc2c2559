/- Writers, the program's and the document's: put, of any number and width, by one contract. Conditions: the objects are as the calls leave them; at most 2^40 bits. -/
import Derived.Test.YtijcollcncjdoaaRef01Writer
namespace Go.Proofs.Ytijcollcncjdoaa
open Go.RowKit Kin

/-- may the number be put? -/
def putOk (v n : Int) : Bool := decide (0 ≤ n ∧ n ≤ 64 ∧ v < 2 ^ n.toNat)
def putE (v n : Int) : Int := if putOk v n then 0 else 1
def putB (B : List Bool) (v n : Int) : List Bool := if putOk v n then B ++ Bit.digits v.toNat n.toNat else B
theorem length_putB (B : List Bool) (v n : Int) : (putB B v n).length ≤ B.length + 64 := by
  unfold putB
  split
  · rename_i h
    have := of_decide_eq_true h
    rw [List.length_append, Bit.length_digits]
    omega
  · omega

theorem put_any (g : Nat) (R : Option Nat) (B : List Bool) (v n : Int) (w : World) (h : WriterIs w g R B) (hB : B.length ≤ 1099511627776) (h0 : 0 ≤ v) (h1 : v < 18446744073709551616) :
    Calls Try.prog 50 #[.pointer (some ⟨g, 0, none⟩), .int .u64 v, .int .i64 n] w
      fun e w' => e = .returned (.int .i64 (putE v n)) ∧ ∃ R', WriterIs w' g R' (putB B v n) ∧ Chg (Foot g R) w w' ∧ RowNew w.heap.size R R' := by
  by_cases hn : n < 0 ∨ 64 < n
  · have e : putOk v n = false := by unfold putOk; rw [decide_eq_false_iff_not]; omega
    refine (put_bad g v n w hn).mono ?_
    rintro e w' ⟨rfl, rfl⟩
    unfold putE putB
    rw [e]
    exact ⟨rfl, R, h, Chg.refl _ _, RowNew.refl _ _⟩
  · obtain ⟨n, rfl⟩ : ∃ k : Nat, n = k := ⟨n.toNat, by omega⟩
    obtain ⟨v, rfl⟩ : ∃ k : Nat, v = k := ⟨v.toNat, by omega⟩
    have hp : ((2 ^ n : Nat) : Int) = 2 ^ n := by simp
    by_cases hv : v < 2 ^ n
    · have e : putOk v n = true := by unfold putOk; rw [decide_eq_true_iff, Int.toNat_natCast, ← hp]; omega
      refine (put_calls g R B v n w h hB (by omega) hv).mono ?_
      rintro e w' ⟨rfl, hh⟩
      unfold putE putB
      rw [e, Int.toNat_natCast, Int.toNat_natCast]
      exact ⟨rfl, hh⟩
    · have e : putOk v n = false := by unfold putOk; rw [decide_eq_false_iff_not, Int.toNat_natCast, ← hp]; omega
      have hn64 : n < 64 := by
        rcases Nat.lt_or_ge n 64 with h | h
        · exact h
        · have : n = 64 := by omega
          subst this
          omega
      refine (put_wide g v n w hn64 (by omega)).mono ?_
      rintro e w' ⟨rfl, rfl⟩
      unfold putE putB
      rw [e]
      exact ⟨rfl, R, h, Chg.refl _ _, RowNew.refl _ _⟩

theorem length_fill_le (B : List Bool) : (Bit.fill B).length ≤ B.length + 7 := by rw [Bit.length_fill]; omega
theorem dN (w : World) (k : Nat) : Below w.heap.size w (w.drewN k) := ⟨rfl, rfl, rfl, Nat.le_refl _, fun _ _ => rfl⟩
end Go.Proofs.Ytijcollcncjdoaa
