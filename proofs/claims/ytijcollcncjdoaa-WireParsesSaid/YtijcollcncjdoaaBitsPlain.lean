/- Plain facts on bits: lists of bools, the numbers that they are, the bytes that they fill. No program here; no conditions. -/
namespace Kin.Bit

/-- the number of bits, the highest one first -/
def num (l : List Bool) : Nat := l.foldl (fun v b => 2 * v + b.toNat) 0
theorem num_nil : num [] = 0 := rfl
theorem num_snoc (l : List Bool) (b : Bool) : num (l ++ [b]) = 2 * num l + b.toNat := by simp [num]
theorem snocInd {P : List Bool → Prop} (h0 : P []) (h1 : ∀ l b, P l → P (l ++ [b])) (l : List Bool) : P l := by
  have h : ∀ m : List Bool, P m.reverse := by
    intro m
    induction m with
    | nil => exact h0
    | cons b m ih => rw [List.reverse_cons]; exact h1 _ _ ih
  have := h l.reverse
  rwa [List.reverse_reverse] at this
theorem num_lt (l : List Bool) : num l < 2 ^ l.length := by
  induction l using snocInd with
  | h0 => simp [num]
  | h1 l b ih =>
    rw [num_snoc, List.length_append, List.length_singleton, Nat.pow_succ]
    have : b.toNat ≤ 1 := Bool.toNat_le b
    omega
theorem num_testBit (l : List Bool) (i : Nat) (h : i < l.length) : (num l).testBit i = l.getD (l.length - 1 - i) false := by
  induction l using snocInd generalizing i with
  | h0 => simp at h
  | h1 l b ih =>
    rw [num_snoc]
    simp only [List.length_append, List.length_singleton] at h ⊢
    cases i with
    | zero =>
      rw [Nat.testBit_zero]
      simp only [Nat.add_sub_cancel, Nat.sub_zero]
      have : (l ++ [b]).getD l.length false = b := by simp [List.getD]
      rw [this]
      cases b <;> simp [Nat.add_mod]
    | succ i =>
      have e : (2 * num l + b.toNat).testBit (i + 1) = (num l).testBit i := by
        rw [Nat.testBit_succ]
        congr 1
        have : b.toNat ≤ 1 := Bool.toNat_le b
        omega
      rw [e, ih i (by omega)]
      simp only [List.getD]
      rw [List.getElem?_append_left (by omega)]
      congr 2
      omega
/-- the lowest n bits of a number, the highest one first -/
def digits (v n : Nat) : List Bool := (List.range n).map fun i => v.testBit (n - 1 - i)
theorem length_digits (v n : Nat) : (digits v n).length = n := by simp [digits]
theorem digits_at (v n : Nat) {i : Nat} (h : i < n) : (digits v n)[i]? = some (v.testBit (n - 1 - i)) := by simp [digits, h]
theorem num_digits (v n : Nat) : num (digits v n) = v % 2 ^ n := by
  apply Nat.eq_of_testBit_eq
  intro i
  rw [Nat.testBit_mod_two_pow]
  by_cases h : i < n
  · rw [num_testBit _ _ (by rw [length_digits]; exact h), length_digits]
    simp only [List.getD, digits_at v n (show n - 1 - i < n by omega), Option.getD_some]
    simp only [h, decide_true, Bool.true_and]
    congr 1
    omega
  · rw [Nat.testBit_lt_two_pow (Nat.lt_of_lt_of_le (num_lt _) (by rw [length_digits]; exact Nat.pow_le_pow_right (by omega) (by omega)))]
    simp [h]
theorem digits_num (l : List Bool) : digits (num l) l.length = l := by
  apply List.ext_getElem?
  intro i
  by_cases h : i < l.length
  · rw [digits_at _ _ h, num_testBit _ _ (by omega)]
    rw [List.getElem?_eq_getElem h]
    simp only [List.getD]
    rw [show l.length - 1 - (l.length - 1 - i) = i from by omega, List.getElem?_eq_getElem h]; rfl
  · rw [List.getElem?_eq_none (by rw [length_digits]; omega), List.getElem?_eq_none (by omega)]
theorem digits_inj {a b n : Nat} (ha : a < 2 ^ n) (hb : b < 2 ^ n) (h : digits a n = digits b n) : a = b := by
  have h1 := num_digits a n
  rw [h, num_digits, Nat.mod_eq_of_lt ha, Nat.mod_eq_of_lt hb] at h1
  exact h1.symm

/-- the byte j of bits -/
def byteAt (B : List Bool) (j : Nat) : UInt8 := UInt8.ofNat (num ((List.range 8).map fun i => B.getD (8 * j + i) false))
theorem byteAt_toNat (B : List Bool) (j : Nat) : (byteAt B j).toNat = num ((List.range 8).map fun i => B.getD (8 * j + i) false) := by
  unfold byteAt
  rw [UInt8.toNat_ofNat_of_lt']
  have := num_lt ((List.range 8).map fun i => B.getD (8 * j + i) false)
  simpa using this
theorem byteAt_bit (B : List Bool) (j i : Nat) (h : i < 8) : (byteAt B j).toNat.testBit (7 - i) = B.getD (8 * j + i) false := by
  rw [byteAt_toNat, num_testBit _ _ (by simp; omega)]
  have : ((List.range 8).map fun i => B.getD (8 * j + i) false).length = 8 := by simp
  rw [this]
  simp only [List.getD, List.getElem?_map]
  rw [List.getElem?_range (by omega)]
  simp only [Option.map_some, Option.getD_some]
  rw [show 8 - 1 - (7 - i) = i from by omega]
theorem u8_ext {x y : UInt8} (h : ∀ i, i < 8 → x.toNat.testBit (7 - i) = y.toNat.testBit (7 - i)) : x = y := by
  apply UInt8.toNat_inj.1
  apply Nat.eq_of_testBit_eq
  intro i
  by_cases hi : i < 8
  · have := h (7 - i) (by omega)
    rwa [show 7 - (7 - i) = i from by omega] at this
  · have hx : x.toNat < 2 ^ i := Nat.lt_of_lt_of_le x.toNat_lt (Nat.pow_le_pow_right (by omega) (by omega))
    have hy : y.toNat < 2 ^ i := Nat.lt_of_lt_of_le y.toNat_lt (Nat.pow_le_pow_right (by omega) (by omega))
    rw [Nat.testBit_lt_two_pow hx, Nat.testBit_lt_two_pow hy]

/-- bits as bytes, filled up with noughts -/
def pack (B : List Bool) : List UInt8 := (List.range ((B.length + 7) / 8)).map (byteAt B)
theorem length_pack (B : List Bool) : (pack B).length = (B.length + 7) / 8 := by simp [pack]
theorem pack_at (B : List Bool) {j : Nat} (h : j < (B.length + 7) / 8) : (pack B)[j]? = some (byteAt B j) := by simp [pack, h]
/-- the bit k of bytes -/
def rbit (l : List UInt8) (k : Nat) : Bool := (l.getD (k / 8) 0).toNat.testBit (7 - k % 8)
theorem rbit_pack (B : List Bool) (k : Nat) : rbit (pack B) k = B.getD k false := by
  unfold rbit
  by_cases h : k / 8 < (B.length + 7) / 8
  · simp only [List.getD, pack_at B h, Option.getD_some]
    rw [byteAt_bit _ _ _ (Nat.mod_lt _ (by omega))]
    rw [show 8 * (k / 8) + k % 8 = k from by omega]; rfl
  · simp only [List.getD]
    rw [List.getElem?_eq_none (by rw [length_pack]; omega), List.getElem?_eq_none (by omega)]
    simp
/-- all bits of bytes -/
def row (l : List UInt8) : List Bool := (List.range (8 * l.length)).map (rbit l)
theorem length_row (l : List UInt8) : (row l).length = 8 * l.length := by simp [row]
theorem row_at (l : List UInt8) {k : Nat} (h : k < 8 * l.length) : (row l)[k]? = some (rbit l k) := by simp [row, h]
theorem pack_row (l : List UInt8) : pack (row l) = l := by
  apply List.ext_getElem?
  intro j
  have hl : ((row l).length + 7) / 8 = l.length := by rw [length_row]; omega
  by_cases h : j < l.length
  · rw [pack_at _ (by rw [hl]; exact h), List.getElem?_eq_getElem h]
    congr 1
    apply u8_ext
    intro i hi
    rw [byteAt_bit _ _ _ hi]
    simp only [List.getD]
    rw [row_at l (by omega)]
    unfold rbit
    simp only [Option.getD_some]
    rw [show (8 * j + i) / 8 = j from by omega, show (8 * j + i) % 8 = i from by omega]
    simp [List.getD, List.getElem?_eq_getElem h]
  · rw [List.getElem?_eq_none (by rw [length_pack, hl]; omega), List.getElem?_eq_none (by omega)]

/- a bit more -/

theorem byteAt_snoc_other (B : List Bool) (b : Bool) (j : Nat) (h : j ≠ B.length / 8) : byteAt (B ++ [b]) j = byteAt B j := by
  apply u8_ext
  intro i hi
  rw [byteAt_bit _ _ _ hi, byteAt_bit _ _ _ hi]
  simp only [List.getD]
  by_cases hk : 8 * j + i < B.length
  · rw [List.getElem?_append_left hk]
  · rw [List.getElem?_eq_none (l := B) (by omega), List.getElem?_eq_none (by simp; omega)]
/-- the byte with the bit laid in -/
def orBit (x : UInt8) (b : Bool) (k : Nat) : UInt8 := UInt8.ofNat (x.toNat ||| (b.toNat * 2 ^ (7 - k)))
theorem orBit_toNat (x : UInt8) (b : Bool) (k : Nat) : (orBit x b k).toNat = x.toNat ||| (b.toNat * 2 ^ (7 - k)) := by
  unfold orBit
  rw [UInt8.toNat_ofNat_of_lt']
  refine Nat.or_lt_two_pow (n := 8) x.toNat_lt ?_
  have h1 : b.toNat ≤ 1 := Bool.toNat_le b
  have h2 : 2 ^ (7 - k) ≤ 2 ^ 7 := Nat.pow_le_pow_right (by omega) (by omega)
  have : b.toNat * 2 ^ (7 - k) ≤ 1 * 2 ^ 7 := Nat.mul_le_mul h1 h2
  omega
theorem byteAt_snoc (B : List Bool) (b : Bool) : byteAt (B ++ [b]) (B.length / 8) = orBit (byteAt B (B.length / 8)) b (B.length % 8) := by
  apply u8_ext
  intro i hi
  have hk : B.length % 8 < 8 := Nat.mod_lt _ (by omega)
  rw [byteAt_bit _ _ _ hi, orBit_toNat, Nat.testBit_or, byteAt_bit _ _ _ hi]
  simp only [List.getD]
  have hb : (b.toNat * 2 ^ (7 - B.length % 8)).testBit (7 - i) = (decide (i = B.length % 8) && b) := by
    cases b with
    | false => simp
    | true =>
      simp only [Bool.toNat_true, Nat.one_mul, Bool.and_true]
      rw [Nat.testBit_two_pow]
      simp only [decide_eq_decide]
      omega
  rw [hb]
  by_cases h : i = B.length % 8
  · have e : 8 * (B.length / 8) + i = B.length := by omega
    rw [e, List.getElem?_append_right (Nat.le_refl _), List.getElem?_eq_none (l := B) (by omega)]
    simp [h]
  · simp only [h, decide_false, Bool.false_and, Bool.or_false]
    by_cases h2 : 8 * (B.length / 8) + i < B.length
    · rw [List.getElem?_append_left h2]
    · rw [List.getElem?_eq_none (l := B) (by omega), List.getElem?_eq_none (by simp; omega)]
theorem byteAt_end (B : List Bool) (h : B.length % 8 = 0) : byteAt B (B.length / 8) = 0 := by
  apply u8_ext
  intro i hi
  rw [byteAt_bit _ _ _ hi]
  simp only [List.getD]
  rw [List.getElem?_eq_none (by omega)]
  simp
/-- the bytes behind a bit more: a byte more first, if they are whole -/
def grow (B : List Bool) : List UInt8 := if B.length % 8 = 0 then pack B ++ [0] else pack B
theorem length_grow (B : List Bool) : (grow B).length = B.length / 8 + 1 := by
  unfold grow
  split
  · rw [List.length_append, length_pack, List.length_singleton]; omega
  · rw [length_pack]; omega
theorem grow_at (B : List Bool) : (grow B)[B.length / 8]? = some (byteAt B (B.length / 8)) := by
  unfold grow
  split
  · rename_i h
    rw [List.getElem?_append_right (by rw [length_pack]; omega), length_pack, show B.length / 8 - (B.length + 7) / 8 = 0 from by omega, byteAt_end B h]; rfl
  · rw [pack_at B (by omega)]
theorem pack_snoc (B : List Bool) (b : Bool) : pack (B ++ [b]) = (grow B).set (B.length / 8) (orBit (byteAt B (B.length / 8)) b (B.length % 8)) := by
  have hl : ((B ++ [b]).length + 7) / 8 = B.length / 8 + 1 := by simp; omega
  apply List.ext_getElem?
  intro j
  rw [List.getElem?_set]
  by_cases h : j < B.length / 8 + 1
  · rw [pack_at _ (by rw [hl]; exact h)]
    by_cases e : B.length / 8 = j
    · subst e
      rw [if_pos rfl, if_pos (by rw [length_grow]; omega), byteAt_snoc]
    · rw [if_neg e, byteAt_snoc_other B b j (Ne.symm e)]
      unfold grow
      split
      · rw [List.getElem?_append_left (by rw [length_pack]; omega), pack_at B (by omega)]
      · rw [pack_at B (by omega)]
  · rw [List.getElem?_eq_none (by rw [length_pack, hl]; omega), if_neg (by omega), List.getElem?_eq_none (by rw [length_grow]; omega)]
/-- noughts behind change no byte -/
theorem pack_zeros (B : List Bool) (k : Nat) (h : (B.length + k + 7) / 8 = (B.length + 7) / 8) : pack (B ++ List.replicate k false) = pack B := by
  apply List.ext_getElem?
  intro j
  have hl : (B ++ List.replicate k false).length = B.length + k := by simp
  by_cases hj : j < (B.length + 7) / 8
  · rw [pack_at _ (by rw [hl, h]; exact hj), pack_at _ hj]
    congr 1
    apply u8_ext
    intro i hi
    rw [byteAt_bit _ _ _ hi, byteAt_bit _ _ _ hi]
    simp only [List.getD]
    by_cases h2 : 8 * j + i < B.length
    · rw [List.getElem?_append_left h2]
    · rw [List.getElem?_append_right (by omega), List.getElem?_eq_none (l := B) (by omega), List.getElem?_replicate]
      split <;> rfl
  · rw [List.getElem?_eq_none (by rw [length_pack, hl, h]; omega), List.getElem?_eq_none (by rw [length_pack]; omega)]
/-- bits filled up to whole bytes -/
def fill (B : List Bool) : List Bool := B ++ List.replicate (8 * ((B.length + 7) / 8) - B.length) false
theorem length_fill (B : List Bool) : (fill B).length = 8 * ((B.length + 7) / 8) := by simp [fill]; omega
theorem pack_fill (B : List Bool) : pack (fill B) = pack B := pack_zeros B _ (by omega)

/- reading -/

/-- the number of the n bits from k on -/
def get (l : List UInt8) (k n : Nat) : Nat := num ((List.range n).map fun i => rbit l (k + i))
theorem get_zero (l : List UInt8) (k : Nat) : get l k 0 = 0 := rfl
theorem get_succ (l : List UInt8) (k n : Nat) : get l k (n + 1) = 2 * get l k n + (rbit l (k + n)).toNat := by
  unfold get
  rw [List.range_succ, List.map_append, List.map_singleton, num_snoc]
theorem get_lt (l : List UInt8) (k n : Nat) : get l k n < 2 ^ n := by
  have := num_lt ((List.range n).map fun i => rbit l (k + i))
  simpa [get] using this
theorem get_add (l : List UInt8) (k n m : Nat) : get l k (n + m) = get l k n * 2 ^ m + get l (k + n) m := by
  induction m with
  | zero => simp [get_zero]
  | succ m ih =>
    rw [← Nat.add_assoc, get_succ, ih, get_succ, Nat.pow_succ, Nat.add_assoc k n m, ← Nat.mul_assoc]
    omega
theorem get_congr {l m : List UInt8} {k j n : Nat} (h : ∀ i, i < n → rbit l (k + i) = rbit m (j + i)) : get l k n = get m j n := by
  unfold get
  congr 1
  apply List.map_congr_left
  intro i hi
  exact h i (by simpa using hi)
theorem get_pack (B : List Bool) (k n : Nat) (h : k + n ≤ B.length) : get (pack B) k n = num ((B.drop k).take n) := by
  unfold get
  congr 1
  apply List.ext_getElem?
  intro i
  by_cases hi : i < n
  · rw [List.getElem?_map, List.getElem?_range hi, Option.map_some, rbit_pack, List.getElem?_take_of_lt hi, List.getElem?_drop]
    simp only [List.getD]
    rw [List.getElem?_eq_getElem (by omega)]; rfl
  · rw [List.getElem?_eq_none (by simp; omega), List.getElem?_eq_none (by simp; omega)]
end Kin.Bit
