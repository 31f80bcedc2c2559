/- Golomb codes, plain: how long a number is; its code; what a row of bits begins with. No program here; no conditions. -/
import Derived.Test.YtijcollcncjdoaaBitsPlain2
import Derived.Lib.BitFns
namespace Kin.Gol
open Kin

abbrev bl (x : Nat) : Nat := Go.Lib.bitLen x
theorem bl_zero : bl 0 = 0 := by decide +kernel
theorem bl_spec : ∀ (n x : Nat), x ≤ n → 0 < x → x < 2 ^ 64 → 1 ≤ bl x ∧ 2 ^ (bl x - 1) ≤ x ∧ x < 2 ^ bl x
  | 0, x, h, h0, _ => absurd h0 (by omega)
  | n + 1, x, h, h0, h64 => by
    have e := Go.Lib.bitLen_half x (by omega) h64
    by_cases h1 : x = 1
    · subst h1
      have e1 : bl 1 = 1 := by decide +kernel
      rw [e1]; decide
    · obtain ⟨i1, i2, i3⟩ := bl_spec n (x / 2) (by omega) (by omega) (by omega)
      have e' : bl x = 1 + bl (x / 2) := e
      obtain ⟨m, hm⟩ : ∃ m, bl (x / 2) = m + 1 := ⟨bl (x / 2) - 1, by omega⟩
      rw [e', hm]
      rw [hm] at i1 i2 i3
      rw [show m + 1 - 1 = m from rfl] at i2
      rw [show 1 + (m + 1) - 1 = m + 1 from by omega, show 1 + (m + 1) = m + 2 from by omega]
      have p1 : 2 ^ (m + 1) = 2 * 2 ^ m := by rw [Nat.pow_succ]; omega
      have p2 : 2 ^ (m + 2) = 2 * 2 ^ (m + 1) := by rw [Nat.pow_succ]; omega
      omega
theorem bl_le {x k : Nat} (h : x < 2 ^ k) (hk : k ≤ 64) : bl x ≤ k := by
  rcases Nat.eq_zero_or_pos x with rfl | h0
  · rw [bl_zero]; omega
  · have h64 : x < 2 ^ 64 := Nat.lt_of_lt_of_le h (Nat.pow_le_pow_right (by omega) hk)
    obtain ⟨i1, i2, _⟩ := bl_spec x x (Nat.le_refl _) h0 h64
    rcases Nat.lt_or_ge k (bl x) with hlt | hge
    · have : 2 ^ k ≤ 2 ^ (bl x - 1) := Nat.pow_le_pow_right (by omega) (by omega)
      omega
    · exact hge
theorem bl_mono {x y : Nat} (h : x ≤ y) (hy : y < 2 ^ 64) : bl x ≤ bl y := by
  rcases Nat.eq_zero_or_pos x with rfl | h0
  · rw [bl_zero]; omega
  · obtain ⟨_, _, i3⟩ := bl_spec y y (Nat.le_refl _) (by omega) hy
    exact bl_le (by omega) (bl_le hy (Nat.le_refl _))

/-- how long a number's code is -/
def gl (v : Nat) : Nat := if 4294967294 < v then 0 else 2 * bl (v + 1) - 1
theorem gl_big {v : Nat} (h : 4294967294 < v) : gl v = 0 := if_pos h
theorem gl_of {v : Nat} (h : v ≤ 4294967294) : gl v = 2 * bl (v + 1) - 1 := if_neg (by omega)
theorem bl_code {v : Nat} (h : v ≤ 4294967294) : 1 ≤ bl (v + 1) ∧ bl (v + 1) ≤ 32 ∧ 2 ^ (bl (v + 1) - 1) ≤ v + 1 ∧ v + 1 < 2 ^ bl (v + 1) := by
  obtain ⟨i1, i2, i3⟩ := bl_spec _ (v + 1) (Nat.le_refl _) (by omega) (by omega)
  exact ⟨i1, bl_le (k := 32) (by omega) (by omega), i2, i3⟩
/-- a number's code -/
def codeB (v : Nat) : List Bool := Bit.digits (v + 1) (2 * bl (v + 1) - 1)
theorem length_codeB {v : Nat} (h : v ≤ 4294967294) : (codeB v).length = gl v := by rw [codeB, Bit.length_digits, gl_of h]
theorem num_codeB {v : Nat} (h : v ≤ 4294967294) : Bit.num (codeB v) = v + 1 := by
  obtain ⟨i1, _, _, i3⟩ := bl_code h
  rw [codeB, Bit.num_digits, Nat.mod_eq_of_lt]
  exact Nat.lt_of_lt_of_le i3 (Nat.pow_le_pow_right (by omega) (by omega))
theorem code_fits {v : Nat} (h : v ≤ 4294967294) : v + 1 < 2 ^ gl v := by
  obtain ⟨i1, _, _, i3⟩ := bl_code h
  rw [gl_of h]
  exact Nat.lt_of_lt_of_le i3 (Nat.pow_le_pow_right (by omega) (by omega))
theorem gl_le (v : Nat) : gl v ≤ 63 := by
  unfold gl
  split
  · omega
  · rename_i h
    have := (bl_code (v := v) (by omega)).2.1
    omega
theorem codeB_form {v : Nat} (h : v ≤ 4294967294) : ∃ T, codeB v = List.replicate (bl (v + 1) - 1) false ++ true :: T ∧ T.length = bl (v + 1) - 1 := by
  obtain ⟨i1, _, i2, i3⟩ := bl_code h
  obtain ⟨m, hm⟩ : ∃ m, bl (v + 1) = m + 1 := ⟨bl (v + 1) - 1, by omega⟩
  unfold codeB
  rw [hm]
  rw [hm] at i1 i2 i3
  rw [show m + 1 - 1 = m from rfl] at i2 ⊢
  refine ⟨(Bit.digits (v + 1) (2 * (m + 1) - 1)).drop (m + 1), ?_, by rw [List.length_drop, Bit.length_digits]; omega⟩
  apply List.ext_getElem?
  intro i
  rcases Nat.lt_trichotomy i m with hi | hi | hi
  · rw [Bit.digits_at _ _ (by omega), List.getElem?_append_left (by simpa using hi), List.getElem?_replicate, if_pos hi]
    congr 1
    exact Nat.testBit_lt_two_pow (Nat.lt_of_lt_of_le i3 (Nat.pow_le_pow_right (by omega) (by omega)))
  · subst hi
    rw [Bit.digits_at _ _ (by omega), List.getElem?_append_right (by simp)]
    simp only [List.length_replicate, Nat.sub_self, List.getElem?_cons_zero]
    congr 1
    rw [show 2 * (i + 1) - 1 - 1 - i = i from by omega]
    have h1 : (v + 1) / 2 ^ i = 1 := by
      have hp := Nat.two_pow_pos i
      rw [Nat.pow_succ] at i3
      have a1 : 1 ≤ (v + 1) / 2 ^ i := (Nat.le_div_iff_mul_le hp).2 (by omega)
      have a2 : (v + 1) / 2 ^ i < 2 := (Nat.div_lt_iff_lt_mul hp).2 (by omega)
      omega
    rw [Nat.testBit, Nat.shiftRight_eq_div_pow, h1]; rfl
  · rw [List.getElem?_append_right (by simp; omega), List.length_replicate]
    obtain ⟨j, rfl⟩ : ∃ j, i = m + 1 + j := ⟨i - m - 1, by omega⟩
    rw [show m + 1 + j - m = j + 1 from by omega, List.getElem?_cons_succ, List.getElem?_drop]

/-- what bits begin with: so many noughts, at most 32 -/
def gN (B : List Bool) : Nat := min 32 (B.takeWhile (! ·)).length
def gE (B : List Bool) : Int := if gN B = 32 then 21 else if B.length < 2 * gN B + 1 then 11 else 0
def gV (B : List Bool) : Nat := if gE B = 0 then Bit.num (B.take (2 * gN B + 1)) - 1 else 0
def gK (B : List Bool) : Nat := if gE B = 0 then 2 * gN B + 1 else 0
theorem tw_zeros (m : Nat) (T : List Bool) : (List.replicate m false ++ true :: T).takeWhile (! ·) = List.replicate m false := by
  induction m with
  | zero => rfl
  | succ m ih => rw [List.replicate_succ, List.cons_append, List.takeWhile_cons]; simp [ih]
theorem gN_code {v : Nat} (h : v ≤ 4294967294) (D : List Bool) : gN (codeB v ++ D) = bl (v + 1) - 1 := by
  obtain ⟨T, e, _⟩ := codeB_form h
  have := (bl_code h).2.1
  unfold gN
  rw [e, List.append_assoc, List.cons_append, tw_zeros, List.length_replicate]
  omega
theorem gE_code {v : Nat} (h : v ≤ 4294967294) (D : List Bool) : gE (codeB v ++ D) = 0 := by
  have h1 := gN_code h D
  have h2 := bl_code h
  unfold gE
  rw [h1, if_neg (by omega), if_neg]
  rw [List.length_append, length_codeB h, gl_of h]
  omega
theorem take_code {v : Nat} (h : v ≤ 4294967294) (D : List Bool) : (codeB v ++ D).take (2 * gN (codeB v ++ D) + 1) = codeB v := by
  have h2 := bl_code h
  rw [gN_code h D]
  apply List.take_left'
  rw [length_codeB h, gl_of h]; omega
theorem gV_code {v : Nat} (h : v ≤ 4294967294) (D : List Bool) : gV (codeB v ++ D) = v := by
  unfold gV
  rw [if_pos (gE_code h D), take_code h D, num_codeB h]; rfl
theorem gK_code {v : Nat} (h : v ≤ 4294967294) (D : List Bool) : gK (codeB v ++ D) = gl v := by
  have h2 := bl_code h
  unfold gK
  rw [if_pos (gE_code h D), gN_code h D, gl_of h]; omega
/-- no code begins another one -/
theorem code_apart {a b : Nat} (ha : a ≤ 4294967294) (hb : b ≤ 4294967294) (h : codeB a <+: codeB b) : a = b := by
  obtain ⟨D, e⟩ := h
  have h1 := gV_code ha D
  rw [e] at h1
  have h2 := gV_code hb []
  rw [List.append_nil] at h2
  omega
theorem gN_le (B : List Bool) : gN B ≤ 32 ∧ gN B ≤ B.length := by
  unfold gN
  have := (List.takeWhile_prefix (! ·) (l := B)).length_le
  omega

/-- noughts so far: the count goes on -/
def zerosTo (B : List Bool) (n : Nat) : Prop := n ≤ B.length ∧ ∀ i, i < n → B.getD i false = false
theorem zeros_tw {B : List Bool} {n : Nat} (h : zerosTo B n) : n ≤ (B.takeWhile (! ·)).length := by
  induction n generalizing B with
  | zero => omega
  | succ n ih =>
    obtain ⟨h1, h2⟩ := h
    cases B with
    | nil => simp at h1
    | cons b B =>
      have hb : b = false := h2 0 (by omega)
      subst hb
      rw [List.takeWhile_cons]
      simp only [Bool.not_false, if_true, List.length_cons]
      have := ih (B := B) ⟨by simpa using h1, fun i hi => h2 (i + 1) (by omega)⟩
      omega
theorem tw_stop {B : List Bool} {n : Nat} (h : zerosTo B n) (hs : n = B.length ∨ B.getD n false = true) : (B.takeWhile (! ·)).length = n := by
  induction n generalizing B with
  | zero =>
    rcases hs with hs | hs
    · have : B = [] := List.eq_nil_of_length_eq_zero hs.symm
      subst this; rfl
    · cases B with
      | nil => rfl
      | cons b B =>
        have hb : b = true := hs
        subst hb; rfl
  | succ n ih =>
    obtain ⟨h1, h2⟩ := h
    cases B with
    | nil => simp at h1
    | cons b B =>
      have hb : b = false := h2 0 (by omega)
      subst hb
      rw [List.takeWhile_cons]
      simp only [Bool.not_false, if_true, List.length_cons]
      rw [ih (B := B) ⟨by simpa using h1, fun i hi => h2 (i + 1) (by omega)⟩ (by
        rcases hs with hs | hs
        · left; simpa using hs
        · right; exact hs)]
theorem gE_golomb {B : List Bool} (h : zerosTo B 32) : gE B = 21 := by
  have := zeros_tw h
  unfold gE gN
  rw [if_pos (by omega)]
theorem gN_stop {B : List Bool} {n : Nat} (h : zerosTo B n) (hn : n < 32) (hs : n = B.length ∨ B.getD n false = true) : gN B = n := by
  have := tw_stop h hs
  unfold gN
  omega
theorem gE_short {B : List Bool} {n : Nat} (h : zerosTo B n) (hn : n < 32) (hs : n = B.length ∨ B.getD n false = true) (hl : B.length < 2 * n + 1) : gE B = 11 := by
  have := gN_stop h hn hs
  unfold gE
  rw [this, if_neg (by omega), if_pos hl]
theorem gE_good {B : List Bool} {n : Nat} (h : zerosTo B n) (hn : n < 32) (hs : B.getD n false = true) (hl : 2 * n + 1 ≤ B.length) : gE B = 0 ∧ gK B = 2 * n + 1 ∧ gV B = Bit.num (B.take (2 * n + 1)) - 1 := by
  have e := gN_stop h hn (.inr hs)
  have e0 : gE B = 0 := by
    unfold gE
    rw [e, if_neg (by omega), if_neg (by omega)]
  refine ⟨e0, ?_, ?_⟩
  · unfold gK; rw [if_pos e0, e]
  · unfold gV; rw [if_pos e0, e]
theorem gK_bad {B : List Bool} (h : gE B ≠ 0) : gK B = 0 := if_neg h
theorem gV_bad {B : List Bool} (h : gE B ≠ 0) : gV B = 0 := if_neg h
theorem gV_lt (B : List Bool) : gV B < 2 ^ 63 := by
  unfold gV
  split
  · rename_i h
    have h1 := Bit.num_lt (B.take (2 * gN B + 1))
    have h2 : gN B ≠ 32 := fun e => by unfold gE at h; rw [if_pos e] at h; omega
    have h3 := (gN_le B).1
    have h4 : 2 ^ (B.take (2 * gN B + 1)).length ≤ 2 ^ 63 := Nat.pow_le_pow_right (by omega) (by rw [List.length_take]; omega)
    omega
  · exact Nat.two_pow_pos _
theorem gK_le (B : List Bool) : gK B ≤ B.length := by
  unfold gK
  split
  · rename_i h
    unfold gE at h
    split at h
    · omega
    · split at h
      · omega
      · omega
  · omega

/- folding -/

def foldOk (x : Int) : Bool := decide (-2147483647 ≤ x ∧ x ≤ 2147483647)
def foldV (x : Int) : Int := if foldOk x then (if 0 < x then 2 * x - 1 else -2 * x) else 0
def unf (v : Int) : Int := if 4294967294 < v then 0 else if v % 2 = 1 then (v + 1) / 2 else -(v / 2)
theorem foldV_range (x : Int) : 0 ≤ foldV x ∧ foldV x ≤ 4294967294 := by
  unfold foldV
  split
  · rename_i h
    have := of_decide_eq_true h
    split <;> omega
  · omega
theorem unf_fold {x : Int} (h : foldOk x = true) : unf (foldV x) = x := by
  have hr := foldV_range x
  have hb := of_decide_eq_true h
  unfold unf
  rw [if_neg (by omega)]
  unfold foldV
  rw [h]
  simp only [if_true]
  split <;> split <;> omega
theorem unf_zero : unf 0 = 0 := by decide
end Kin.Gol
