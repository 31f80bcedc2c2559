/- Codes that are read again, and bytes' bits: plain laws. No conditions. -/
import Derived.Test.YtijcollcncjdoaaGolGets
import Derived.Test.YtijcollcncjdoaaBitsRAny
namespace Go.Proofs.Ytijcollcncjdoaa
open Go.RowKit Kin

theorem tw_false (B : List Bool) : ∀ n, n ≤ (B.takeWhile (! ·)).length → B.take n = List.replicate n false := by
  induction B with
  | nil => intro n h; simp at h; subst h; rfl
  | cons b B ih =>
    intro n h
    cases n with
    | zero => rfl
    | succ n =>
      cases b
      · rw [List.takeWhile_cons] at h
        simp only [Bool.not_false, if_true, List.length_cons] at h
        rw [List.take_succ_cons, ih n (by omega), List.replicate_succ]
      · simp at h
theorem num_zeros (n : Nat) : Bit.num (List.replicate n false) = 0 := by
  induction n with
  | zero => rfl
  | succ n ih => rw [List.replicate_succ', Bit.num_snoc, ih]; rfl
theorem gV_le (B : List Bool) : Gol.gV B ≤ 4294967294 := by
  unfold Gol.gV
  split
  · rename_i h
    have h2 : Gol.gN B ≠ 32 := fun e => by unfold Gol.gE at h; rw [if_pos e] at h; omega
    have h3 := (Gol.gN_le B).1
    have h5 : Gol.gN B ≤ (B.takeWhile (! ·)).length := by unfold Gol.gN; omega
    have e : B.take (2 * Gol.gN B + 1) = B.take (Gol.gN B) ++ (B.drop (Gol.gN B)).take (Gol.gN B + 1) := by
      rw [show 2 * Gol.gN B + 1 = Gol.gN B + (Gol.gN B + 1) from by omega, List.take_add]
    rw [e, tw_false B _ h5, Bit.num_append, num_zeros, Nat.zero_mul, Nat.zero_add]
    have h1 := Bit.num_lt ((B.drop (Gol.gN B)).take (Gol.gN B + 1))
    have h4 : 2 ^ ((B.drop (Gol.gN B)).take (Gol.gN B + 1)).length ≤ 2 ^ 32 := Nat.pow_le_pow_right (by omega) (by rw [List.length_take]; omega)
    omega
  · omega
theorem bl_of {x n : Nat} (h1 : 2 ^ n ≤ x) (h2 : x < 2 ^ (n + 1)) (hn : n < 64) : Gol.bl x = n + 1 := by
  have hle := Gol.bl_le h2 (by omega)
  have hp := Nat.two_pow_pos n
  have h64 : x < 2 ^ 64 := Nat.lt_of_lt_of_le h2 (Nat.pow_le_pow_right (by omega) (by omega))
  obtain ⟨_, _, i3⟩ := Gol.bl_spec x x (Nat.le_refl _) (by omega) h64
  rcases Nat.lt_or_ge (Gol.bl x) (n + 1) with h | h
  · have : 2 ^ Gol.bl x ≤ 2 ^ n := Nat.pow_le_pow_right (by omega) (by omega)
    omega
  · omega
theorem tw_next (B : List Bool) (h : (B.takeWhile (! ·)).length < B.length) : B.getD (B.takeWhile (! ·)).length false = true := by
  induction B with
  | nil => simp at h
  | cons b B ih =>
    cases b
    · rw [List.takeWhile_cons] at h ⊢
      simp only [Bool.not_false, if_true, List.length_cons] at h ⊢
      have := ih (by omega)
      simpa [List.getD] using this
    · rfl
theorem code_of {B : List Bool} (h : Gol.gE B = 0) : B = Gol.codeB (Gol.gV B) ++ B.drop (Gol.gK B) ∧ Gol.gK B = Gol.gl (Gol.gV B) := by
  have h2 : Gol.gN B ≠ 32 := fun e => by unfold Gol.gE at h; rw [if_pos e] at h; omega
  have hl : 2 * Gol.gN B + 1 ≤ B.length := by
    unfold Gol.gE at h
    rw [if_neg h2] at h
    split at h
    · omega
    · omega
  have hN : Gol.gN B = (B.takeWhile (! ·)).length := by unfold Gol.gN at *; omega
  have h3 := (Gol.gN_le B).1
  have hK : Gol.gK B = 2 * Gol.gN B + 1 := if_pos h
  have hV : Gol.gV B = Bit.num (B.take (2 * Gol.gN B + 1)) - 1 := if_pos h
  have hle := gV_le B
  have hb : B.getD (Gol.gN B) false = true := by rw [hN]; exact tw_next B (by omega)
  have hbit : B[Gol.gN B]'(by omega) = true := by
    rw [List.getD, List.getElem?_eq_getElem (by omega)] at hb
    simpa using hb
  have e : B.take (2 * Gol.gN B + 1) = List.replicate (Gol.gN B) false ++ (true :: (B.drop (Gol.gN B + 1)).take (Gol.gN B)) := by
    rw [show 2 * Gol.gN B + 1 = Gol.gN B + (Gol.gN B + 1) from by omega, List.take_add, tw_false B _ (by omega)]
    congr 1
    rw [List.drop_eq_getElem_cons (by omega), hbit, List.take_succ_cons]
  clear hbit
  generalize hn : Gol.gN B = n at *
  have hnum : Bit.num (B.take (2 * n + 1)) = 2 ^ n + Bit.num ((B.drop (n + 1)).take n) := by
    rw [e, Bit.num_append, num_zeros, Nat.zero_mul, Nat.zero_add]
    have := Bit.num_append [true] ((B.drop (n + 1)).take n)
    rw [List.singleton_append] at this
    rw [this, List.length_take, List.length_drop, show min n (B.length - (n + 1)) = n from by omega]
    show 1 * 2 ^ n + _ = _
    omega
  have hT := Bit.num_lt ((B.drop (n + 1)).take n)
  rw [List.length_take, List.length_drop, show min n (B.length - (n + 1)) = n from by omega] at hT
  have hp := Nat.two_pow_pos n
  have hv1 : Gol.gV B + 1 = Bit.num (B.take (2 * n + 1)) := by omega
  have hbl : Gol.bl (Gol.gV B + 1) = n + 1 := by
    rw [hv1, hnum]
    exact bl_of (by omega) (by rw [Nat.pow_succ]; omega) (by omega)
  have hcode : Gol.codeB (Gol.gV B) = B.take (2 * n + 1) := by
    unfold Gol.codeB
    rw [hbl, hv1, show 2 * (n + 1) - 1 = 2 * n + 1 from by omega]
    have := Bit.digits_num (B.take (2 * n + 1))
    rw [List.length_take, show min (2 * n + 1) B.length = 2 * n + 1 from by omega] at this
    exact this
  refine ⟨?_, ?_⟩
  · rw [hcode, hK, List.take_append_drop]
  · rw [hK, Gol.gl_of hle, hbl]; omega
theorem row_pre (C : List Bool) : ∃ E, Bit.row (Bit.pack C) = C ++ E := by
  have h : C <+: Bit.row (Bit.pack C) := by
    rw [List.prefix_iff_eq_take]
    apply List.ext_getElem?
    intro i
    by_cases hi : i < C.length
    · rw [List.getElem?_take_of_lt hi, Bit.row_at _ (by rw [Bit.length_pack]; omega), Bit.rbit_pack, List.getD, List.getElem?_eq_getElem hi]; rfl
    · rw [List.getElem?_eq_none (by omega), List.getElem?_eq_none (by rw [List.length_take]; omega)]
  obtain ⟨E, e⟩ := h
  exact ⟨E, e.symm⟩
theorem row_append (l m : List UInt8) : Bit.row (l ++ m) = Bit.row l ++ Bit.row m := by
  apply List.ext_getElem?
  intro k
  by_cases hk : k < 8 * l.length
  · rw [List.getElem?_append_left (by rw [Bit.length_row]; exact hk), Bit.row_at _ (by rw [List.length_append]; omega), Bit.row_at _ hk]
    congr 1
    unfold Bit.rbit
    rw [List.getD, List.getD, List.getElem?_append_left (by omega)]
  · rw [List.getElem?_append_right (by rw [Bit.length_row]; omega), Bit.length_row]
    by_cases hk2 : k < 8 * (l.length + m.length)
    · rw [Bit.row_at _ (by rw [List.length_append]; exact hk2), Bit.row_at _ (by omega)]
      congr 1
      unfold Bit.rbit
      rw [List.getD, List.getD, List.getElem?_append_right (by omega), show k / 8 - l.length = (k - 8 * l.length) / 8 from by omega, show (k - 8 * l.length) % 8 = k % 8 from by omega]
    · rw [List.getElem?_eq_none (by rw [Bit.length_row, List.length_append]; omega), List.getElem?_eq_none (by rw [Bit.length_row]; omega)]
theorem row_pack_get (C : List Bool) (i : Nat) : (Bit.row (Bit.pack C)).getD i false = C.getD i false := by
  by_cases h : i < 8 * (Bit.pack C).length
  · rw [List.getD, Bit.row_at _ h, Option.getD_some, Bit.rbit_pack]
  · rw [List.getD, List.getElem?_eq_none (by rw [Bit.length_row]; omega), List.getD, List.getElem?_eq_none]
    rw [Bit.length_pack] at h; omega
theorem restB_app (B : List Bool) (r : List UInt8) : Bit.restB (Bit.row (Bit.pack B ++ r)) B.length = true := by
  refine restB_of fun i h1 h2 => ?_
  have hl := Bit.length_pack B
  have := row_pack_get B i
  rw [row_append, List.getD, List.getElem?_append_left (by rw [Bit.length_row]; omega)]
  rw [List.getD] at this
  rw [this, List.getD, List.getElem?_eq_none h1]; rfl
end Go.Proofs.Ytijcollcncjdoaa
