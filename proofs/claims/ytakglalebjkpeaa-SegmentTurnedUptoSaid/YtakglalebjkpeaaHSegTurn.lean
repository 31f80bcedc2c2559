/- Plain laws: a media's file of which bits within 32 beside one another are turned is none's; nor is one with bytes gone from its end, or one more behind. No program here; no conditions. -/
import Derived.Test.YtakglalebjkpeaaHSegPlain
namespace Kin.Crc

/-- the bits of x, laid from bit p on, turned: the first j of them -/
def turn (l : List UInt8) (p x : Nat) : Nat → List UInt8
  | 0 => l
  | j + 1 => if x / 2 ^ j % 2 = 1 then flip (turn l p x j) (p + j) else turn l p x j
theorem turn_yes {l : List UInt8} {p x j : Nat} (h : x / 2 ^ j % 2 = 1) : turn l p x (j + 1) = flip (turn l p x j) (p + j) := if_pos h
theorem turn_no {l : List UInt8} {p x j : Nat} (h : ¬ x / 2 ^ j % 2 = 1) : turn l p x (j + 1) = turn l p x j := if_neg h
theorem length_turn (l : List UInt8) (p x : Nat) : ∀ j, (turn l p x j).length = l.length
  | 0 => rfl
  | j + 1 => by
    unfold turn
    split
    · rw [length_flip, length_turn l p x j]
    · exact length_turn l p x j
theorem turn_burst (l : List UInt8) (p x : Nat) : ∀ j, p + j ≤ 8 * l.length → Burst l (turn l p x j) p x j
  | 0, _ => Burst.zero l p x
  | j + 1, h => by
    have ih := turn_burst l p x j (by omega)
    by_cases hb : x / 2 ^ j % 2 = 1
    · rw [turn_yes hb]; exact ih.yes hb (by omega)
    · rw [turn_no hb]; exact ih.no hb
theorem Burst.told' {l m : List UInt8} {p x j : Nat} (hx : x < 4294967296) (h : Burst l m p x j) : (sum m = sum l) ↔ x % 2 ^ j = 0 := by
  rw [sum_eq, h.2, xor_eq_self]
  have h1 : x % 2 ^ j < 4294967296 := Nat.lt_of_le_of_lt (Nat.mod_le _ _) hx
  constructor
  · intro e; exact stpN_eq_zero h1 e
  · intro e; rw [e]; exact stpN_zero _
theorem take_flipT {l : List UInt8} {p k : Nat} (h : p < 8 * k) : (flip l p).take k = flip (l.take k) p := by
  unfold flip
  rw [List.take_set]
  congr 2
  rw [List.getD, List.getD, List.getElem?_take, if_pos (by omega)]
theorem take_flip_far {l : List UInt8} {p k : Nat} (h : 8 * k ≤ p) : (flip l p).take k = l.take k := by
  unfold flip
  rw [List.take_set, List.set_eq_of_length_le]
  rw [List.length_take]; omega
theorem drop_flip_far {l : List UInt8} {p k : Nat} (h : p < 8 * k) : (flip l p).drop k = l.drop k := by
  unfold flip
  rw [List.drop_set, if_pos (by omega)]
theorem turn_take (l : List UInt8) (p x k : Nat) : ∀ j, (turn l p x j).take k = turn (l.take k) p x (min j (8 * k - p))
  | 0 => by rw [Nat.zero_min]; rfl
  | j + 1 => by
    have ih := turn_take l p x k j
    by_cases hp : p + j < 8 * k
    · rw [show min (j + 1) (8 * k - p) = j + 1 by omega]
      rw [show min j (8 * k - p) = j by omega] at ih
      by_cases hb : x / 2 ^ j % 2 = 1
      · rw [turn_yes hb, turn_yes hb, take_flipT hp, ih]
      · rw [turn_no hb, turn_no hb, ih]
    · rw [show min (j + 1) (8 * k - p) = min j (8 * k - p) by omega, ← ih]
      by_cases hb : x / 2 ^ j % 2 = 1
      · rw [turn_yes hb, take_flip_far (by omega)]
      · rw [turn_no hb]
theorem turn_drop (l : List UInt8) (p x k : Nat) : ∀ j, p + j ≤ 8 * k → (turn l p x j).drop k = l.drop k
  | 0, _ => rfl
  | j + 1, h => by
    have ih := turn_drop l p x k j (by omega)
    by_cases hb : x / 2 ^ j % 2 = 1
    · rw [turn_yes hb, drop_flip_far (by omega), ih]
    · rw [turn_no hb, ih]
def bitAt (l : List UInt8) (q : Nat) : Bool := (l.getD (q / 8) 0).toNat.testBit (q % 8)
theorem bitAt_flip {l : List UInt8} {p : Nat} (hp : p < 8 * l.length) (q : Nat) : bitAt (flip l p) q = ((bitAt l q) ^^ decide (p = q)) := by
  unfold bitAt flip
  rw [List.getD, List.getElem?_set]
  by_cases h : p / 8 = q / 8
  · rw [if_pos h, if_pos (by omega), ← h]
    simp only [Option.getD_some]
    have h2 : (UInt8.ofNat (2 ^ (p % 8))).toNat = 2 ^ (p % 8) := by
      rw [UInt8.toNat_ofNat_of_lt']
      exact Nat.pow_lt_pow_right (by omega) (Nat.mod_lt _ (by omega))
    rw [UInt8.toNat_xor, h2, Nat.testBit_xor, Nat.testBit_two_pow]
    congr 1
    apply Bool.eq_iff_iff.2
    rw [decide_eq_true_iff, decide_eq_true_iff]
    omega
  · rw [if_neg h, decide_eq_false (by omega), Bool.xor_false]
    rfl
theorem testBit_divT (x j : Nat) : x.testBit j = decide (x / 2 ^ j % 2 = 1) := by
  rw [Nat.testBit, Nat.shiftRight_eq_div_pow, Nat.one_and_eq_mod_two]
  rcases Nat.mod_two_eq_zero_or_one (x / 2 ^ j) with h | h <;> simp [h]
theorem bitAt_turn (l : List UInt8) (p x q : Nat) : ∀ j, p + j ≤ 8 * l.length → bitAt (turn l p x j) q = ((bitAt l q) ^^ (decide (p ≤ q ∧ q < p + j) && x.testBit (q - p)))
  | 0, _ => by
    rw [decide_eq_false (by omega), Bool.false_and, Bool.xor_false]; rfl
  | j + 1, h => by
    have ih := bitAt_turn l p x q j (by omega)
    have e : x.testBit j = decide (x / 2 ^ j % 2 = 1) := testBit_divT x j
    by_cases hq : p + j = q
    · have e2 : q - p = j := by omega
      rw [decide_eq_false (show ¬ (p ≤ q ∧ q < p + j) by omega), Bool.false_and, Bool.xor_false] at ih
      rw [decide_eq_true (show p ≤ q ∧ q < p + (j + 1) by omega), Bool.true_and, e2, e]
      by_cases hb : x / 2 ^ j % 2 = 1
      · rw [turn_yes hb, bitAt_flip (by rw [length_turn]; omega), ih, decide_eq_true hq, decide_eq_true hb]
      · rw [turn_no hb, ih, decide_eq_false hb, Bool.xor_false]
    · have e3 : decide (p ≤ q ∧ q < p + (j + 1)) = decide (p ≤ q ∧ q < p + j) := by
        apply Bool.eq_iff_iff.2
        rw [decide_eq_true_iff, decide_eq_true_iff]
        omega
      rw [e3, ← ih]
      by_cases hb : x / 2 ^ j % 2 = 1
      · rw [turn_yes hb, bitAt_flip (by rw [length_turn]; omega), decide_eq_false hq, Bool.xor_false]
      · rw [turn_no hb]
theorem bitAt_congr {l m : List UInt8} {q : Nat} (h : m[q / 8]? = l[q / 8]?) : bitAt m q = bitAt l q := by
  unfold bitAt
  rw [List.getD, List.getD, h]
/-- bits that stay are not turned -/
theorem turn_same {l : List UInt8} {p x i : Nat} (hp : p + 32 ≤ 8 * l.length) (hi : i < 32) (h : (turn l p x 32)[(p + i) / 8]? = l[(p + i) / 8]?) : x.testBit i = false := by
  have h1 := bitAt_turn l p x (p + i) 32 hp
  rw [bitAt_congr h, decide_eq_true (by omega), Bool.true_and, show p + i - p = i by omega] at h1
  cases hb : x.testBit i
  · rfl
  · rw [hb] at h1; simp at h1
theorem mod_of_bitsT {x j : Nat} (hx : x < 4294967296) (h : ∀ i, j ≤ i → i < 32 → x.testBit i = false) : x % 2 ^ j = x := by
  apply Nat.eq_of_testBit_eq
  intro i
  rw [Nat.testBit_mod_two_pow]
  by_cases h1 : i < j
  · rw [decide_eq_true h1, Bool.true_and]
  · rw [decide_eq_false h1, Bool.false_and]
    by_cases h2 : i < 32
    · exact (h i (by omega) h2).symm
    · exact (Nat.testBit_lt_two_pow (Nat.lt_of_lt_of_le (show x < 2 ^ 32 from hx) (Nat.pow_le_pow_right (by omega) (by omega)))).symm
end Kin.Crc

namespace Sg
open Go Kin Go.Proofs.Ytakglalebjkpeaa.C12
def sealH : List UInt8 := [0, 0, 0, 12, 115, 117, 109, 109]
theorem seal_form (L : List Bx.Box) : sealB L = Bx.file L ++ (sealH ++ Bx.four (Crc.sum (Bx.file L))) := by
  have e : Bx.four 12 ++ kSumm.data.toList = sealH := by decide +kernel
  have h : Bx.file [sumB L] = sealH ++ Bx.four (Crc.sum (Bx.file L)) := by
    rw [← e]
    show (Bx.four 12 ++ kSumm.data.toList ++ Bx.four (Crc.sum (Bx.file L))) ++ [] = _
    rw [List.append_nil]
  unfold sealB
  rw [h]
theorem pm_form {b : List UInt8} (h : pmOk b = true) : ∃ B, b = B ++ (sealH ++ Bx.four (Crc.sum B)) := by
  have h1 := openM (pm_of h).1
  rw [seal_form] at h1
  exact ⟨_, h1⟩
theorem turned_no {l : List UInt8} {p x : Nat} (hx : x < 4294967296) (h0 : x ≠ 0) (hp : p + 32 ≤ 8 * l.length) (hl : pmOk l = true) : pmOk (Crc.turn l p x 32) = false := by
  cases hm : pmOk (Crc.turn l p x 32)
  · rfl
  · exfalso
    obtain ⟨B, hB⟩ := pm_form hl
    obtain ⟨B', hB'⟩ := pm_form hm
    have hlen := Crc.length_turn l p x 32
    have e1 : l.length = B.length + 12 := by rw [hB]; simp [sealH, Bx.length_four]
    have e2 : (Crc.turn l p x 32).length = B'.length + 12 := by rw [hB']; simp [sealH, Bx.length_four]
    have ek : B'.length = B.length := by omega
    have t1 : l.take B.length = B := by
      conv => lhs; rw [hB]
      exact List.take_left
    have t2 : (Crc.turn l p x 32).take B.length = B' := by
      rw [← ek]
      conv => lhs; rw [hB']
      exact List.take_left
    have d1 : l.drop B.length = sealH ++ Bx.four (Crc.sum B) := by
      conv => lhs; rw [hB]
      exact List.drop_left
    have d2 : (Crc.turn l p x 32).drop B.length = sealH ++ Bx.four (Crc.sum B') := by
      rw [← ek]
      conv => lhs; rw [hB']
      exact List.drop_left
    have h3 := Crc.turn_take l p x B.length 32
    rw [t1, t2] at h3
    have four_inj : Bx.four (Crc.sum B) = Bx.four (Crc.sum B') → Crc.sum B = Crc.sum B' := fun e => by
      have o1 := Bx.of4_four (Crc.sum B) (Crc.sum_lt _) []
      have o2 := Bx.of4_four (Crc.sum B') (Crc.sum_lt _) []
      rw [← o1, e, o2]
    have mid : ∀ i, B.length ≤ i → i < B.length + 8 → (Crc.turn l p x 32)[i]? = l[i]? := fun i h1 h2 => by
      have a1 : (l.drop B.length)[i - B.length]? = l[i]? := by rw [List.getElem?_drop, show B.length + (i - B.length) = i by omega]
      have a2 : ((Crc.turn l p x 32).drop B.length)[i - B.length]? = (Crc.turn l p x 32)[i]? := by rw [List.getElem?_drop, show B.length + (i - B.length) = i by omega]
      rw [← a1, ← a2, d1, d2, List.getElem?_append_left (by simp [sealH]; omega), List.getElem?_append_left (by simp [sealH]; omega)]
    by_cases hpB : p < 8 * B.length
    · have hsum : Crc.sum B = Crc.sum B' := by
        apply four_inj
        have h4 := Crc.turn_drop l p x (B.length + 8) 32 (by omega)
        rw [← List.drop_drop, ← List.drop_drop, d1, d2] at h4
        have e8 : sealH.length = 8 := rfl
        rw [← e8, List.drop_left, List.drop_left] at h4
        exact h4.symm
      have hbu := Crc.turn_burst B p x (min 32 (8 * B.length - p)) (by omega)
      rw [← h3] at hbu
      have h5 := (hbu.told' hx).1 hsum.symm
      rw [Crc.mod_of_bitsT hx (fun i h1 h2 => Crc.turn_same hp h2 (mid _ (by omega) (by omega)))] at h5
      exact h0 h5
    · rw [show min 32 (8 * B.length - p) = 0 by omega] at h3
      have h3' : B' = B := h3
      have hE : Crc.turn l p x 32 = l := by rw [hB', h3', ← hB]
      have h5 := Crc.mod_of_bitsT (j := 0) hx (fun i h1 h2 => Crc.turn_same (l := l) (p := p) hp h2 (by rw [hE]))
      rw [Nat.pow_zero, Nat.mod_one] at h5
      exact h0 h5.symm
theorem cut_no {l : List UInt8} (hl : pmOk l = true) {c : Nat} (hc : c < l.length) : pmOk (l.take c) = false := by
  cases hm : pmOk (l.take c)
  · rfl
  · exfalso
    obtain ⟨a1, a2, _, _⟩ := op_of (pm_of hl).1
    obtain ⟨b1, b2, _, _⟩ := op_of (pm_of hm).1
    have hf := Bx.file_even b1
    have h1 := Bx.file_behind (Bx.boxes (l.take c)) (Bx.boxes_right _) (l.drop c)
    rw [hf, List.take_append_drop, a1] at h1
    have h2 := congrArg (fun L => L.map Prod.fst) h1.1
    simp only [List.map_append] at h2
    rw [a2, b2] at h2
    have h3 : (Bx.boxes (l.drop c)).map Prod.fst = [] := by
      have := congrArg List.length h2
      rw [List.length_append] at this
      exact List.eq_nil_of_length_eq_zero (by omega)
    have h4 : Bx.boxes (l.drop c) = [] := List.map_eq_nil_iff.1 h3
    have h5 := Bx.file_even h1.2.symm
    rw [h4] at h5
    have := congrArg List.length h5
    rw [List.length_drop] at this
    simp [Bx.file] at this
    omega
theorem long_no {l : List UInt8} (hl : pmOk l = true) : pmOk (l ++ [0]) = false := by
  cases hm : pmOk (l ++ [0])
  · rfl
  · exfalso
    obtain ⟨a1, _⟩ := op_of (pm_of hl).1
    obtain ⟨b1, _⟩ := op_of (pm_of hm).1
    have hf := Bx.file_even a1
    have h1 := (Bx.file_behind (Bx.boxes l) (Bx.boxes_right _) [0]).2
    rw [hf, b1, Bx.even_no (by simp) (Bx.firstN_small (by simp))] at h1
    cases h1
theorem pm_ne {b : List UInt8} (h : pmOk b = false) : ¬ pmE b = 0 := fun e => by rw [pm_zero.1 e] at h; cases h
end Sg
