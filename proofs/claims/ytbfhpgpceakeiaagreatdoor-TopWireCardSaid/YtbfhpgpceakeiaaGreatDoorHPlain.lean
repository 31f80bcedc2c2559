/- Texts of this claim in one: HPlain. What each proves, and on what conditions, its own words say. -/
import Derived.Lib.BitFns
import Derived.Test.YtbfhpgpceakeiaaGreatDoorConv
import Derived.Deep.RegionHeld3
import Derived.Test.YtbfhpgpceakeiaaGreatDoorApp
import Derived.WalkKit
import Derived.ProofKit
import Derived.OpenShut
import Derived.ShutString
import Derived.ChangeOld
import Derived.Test.YtbfhpgpceakeiaaGreatDoorRecs
namespace Kin.Bit

/-- the number of bits, the highest one first -/
def num (l : List Bool) : Nat := l.foldl (fun v b => 2 * v + b.toNat) 0
theorem num_nil : num [] = 0 := rfl
theorem num_snoc (l : List Bool) (b : Bool) : num (l ++ [b]) = 2 * num l + b.toNat := by simp [num]
theorem snocInd {P : List Bool → Prop} (h0 : P []) (h1 : ∀ l b, P l → P (l ++ [b])) (l : List Bool) : P l := by
  have h : ∀ m : List Bool, P m.reverse := by
    intro m
    induction m with
    | nil => exact h0
    | cons b m ih => rw [List.reverse_cons]; exact h1 _ _ ih
  have := h l.reverse
  rwa [List.reverse_reverse] at this
theorem num_lt (l : List Bool) : num l < 2 ^ l.length := by
  induction l using snocInd with
  | h0 => simp [num]
  | h1 l b ih =>
    rw [num_snoc, List.length_append, List.length_singleton, Nat.pow_succ]
    have : b.toNat ≤ 1 := Bool.toNat_le b
    omega
theorem num_testBit (l : List Bool) (i : Nat) (h : i < l.length) : (num l).testBit i = l.getD (l.length - 1 - i) false := by
  induction l using snocInd generalizing i with
  | h0 => simp at h
  | h1 l b ih =>
    rw [num_snoc]
    simp only [List.length_append, List.length_singleton] at h ⊢
    cases i with
    | zero =>
      rw [Nat.testBit_zero]
      simp only [Nat.add_sub_cancel, Nat.sub_zero]
      have : (l ++ [b]).getD l.length false = b := by simp [List.getD]
      rw [this]
      cases b <;> simp [Nat.add_mod]
    | succ i =>
      have e : (2 * num l + b.toNat).testBit (i + 1) = (num l).testBit i := by
        rw [Nat.testBit_succ]
        congr 1
        have : b.toNat ≤ 1 := Bool.toNat_le b
        omega
      rw [e, ih i (by omega)]
      simp only [List.getD]
      rw [List.getElem?_append_left (by omega)]
      congr 2
      omega
/-- the lowest n bits of a number, the highest one first -/
def digits (v n : Nat) : List Bool := (List.range n).map fun i => v.testBit (n - 1 - i)
theorem length_digits (v n : Nat) : (digits v n).length = n := by simp [digits]
theorem digits_at (v n : Nat) {i : Nat} (h : i < n) : (digits v n)[i]? = some (v.testBit (n - 1 - i)) := by simp [digits, h]
theorem num_digits (v n : Nat) : num (digits v n) = v % 2 ^ n := by
  apply Nat.eq_of_testBit_eq
  intro i
  rw [Nat.testBit_mod_two_pow]
  by_cases h : i < n
  · rw [num_testBit _ _ (by rw [length_digits]; exact h), length_digits]
    simp only [List.getD, digits_at v n (show n - 1 - i < n by omega), Option.getD_some]
    simp only [h, decide_true, Bool.true_and]
    congr 1
    omega
  · rw [Nat.testBit_lt_two_pow (Nat.lt_of_lt_of_le (num_lt _) (by rw [length_digits]; exact Nat.pow_le_pow_right (by omega) (by omega)))]
    simp [h]
theorem digits_num (l : List Bool) : digits (num l) l.length = l := by
  apply List.ext_getElem?
  intro i
  by_cases h : i < l.length
  · rw [digits_at _ _ h, num_testBit _ _ (by omega)]
    rw [List.getElem?_eq_getElem h]
    simp only [List.getD]
    rw [show l.length - 1 - (l.length - 1 - i) = i from by omega, List.getElem?_eq_getElem h]; rfl
  · rw [List.getElem?_eq_none (by rw [length_digits]; omega), List.getElem?_eq_none (by omega)]
theorem digits_inj {a b n : Nat} (ha : a < 2 ^ n) (hb : b < 2 ^ n) (h : digits a n = digits b n) : a = b := by
  have h1 := num_digits a n
  rw [h, num_digits, Nat.mod_eq_of_lt ha, Nat.mod_eq_of_lt hb] at h1
  exact h1.symm

/-- the byte j of bits -/
def byteAt (B : List Bool) (j : Nat) : UInt8 := UInt8.ofNat (num ((List.range 8).map fun i => B.getD (8 * j + i) false))
theorem byteAt_toNat (B : List Bool) (j : Nat) : (byteAt B j).toNat = num ((List.range 8).map fun i => B.getD (8 * j + i) false) := by
  unfold byteAt
  rw [UInt8.toNat_ofNat_of_lt']
  have := num_lt ((List.range 8).map fun i => B.getD (8 * j + i) false)
  simpa using this
theorem byteAt_bit (B : List Bool) (j i : Nat) (h : i < 8) : (byteAt B j).toNat.testBit (7 - i) = B.getD (8 * j + i) false := by
  rw [byteAt_toNat, num_testBit _ _ (by simp; omega)]
  have : ((List.range 8).map fun i => B.getD (8 * j + i) false).length = 8 := by simp
  rw [this]
  simp only [List.getD, List.getElem?_map]
  rw [List.getElem?_range (by omega)]
  simp only [Option.map_some, Option.getD_some]
  rw [show 8 - 1 - (7 - i) = i from by omega]
theorem u8_ext {x y : UInt8} (h : ∀ i, i < 8 → x.toNat.testBit (7 - i) = y.toNat.testBit (7 - i)) : x = y := by
  apply UInt8.toNat_inj.1
  apply Nat.eq_of_testBit_eq
  intro i
  by_cases hi : i < 8
  · have := h (7 - i) (by omega)
    rwa [show 7 - (7 - i) = i from by omega] at this
  · have hx : x.toNat < 2 ^ i := Nat.lt_of_lt_of_le x.toNat_lt (Nat.pow_le_pow_right (by omega) (by omega))
    have hy : y.toNat < 2 ^ i := Nat.lt_of_lt_of_le y.toNat_lt (Nat.pow_le_pow_right (by omega) (by omega))
    rw [Nat.testBit_lt_two_pow hx, Nat.testBit_lt_two_pow hy]

/-- bits as bytes, filled up with noughts -/
def pack (B : List Bool) : List UInt8 := (List.range ((B.length + 7) / 8)).map (byteAt B)
theorem length_pack (B : List Bool) : (pack B).length = (B.length + 7) / 8 := by simp [pack]
theorem pack_at (B : List Bool) {j : Nat} (h : j < (B.length + 7) / 8) : (pack B)[j]? = some (byteAt B j) := by simp [pack, h]
/-- the bit k of bytes -/
def rbit (l : List UInt8) (k : Nat) : Bool := (l.getD (k / 8) 0).toNat.testBit (7 - k % 8)
theorem rbit_pack (B : List Bool) (k : Nat) : rbit (pack B) k = B.getD k false := by
  unfold rbit
  by_cases h : k / 8 < (B.length + 7) / 8
  · simp only [List.getD, pack_at B h, Option.getD_some]
    rw [byteAt_bit _ _ _ (Nat.mod_lt _ (by omega))]
    rw [show 8 * (k / 8) + k % 8 = k from by omega]; rfl
  · simp only [List.getD]
    rw [List.getElem?_eq_none (by rw [length_pack]; omega), List.getElem?_eq_none (by omega)]
    simp
/-- all bits of bytes -/
def row (l : List UInt8) : List Bool := (List.range (8 * l.length)).map (rbit l)
theorem length_row (l : List UInt8) : (row l).length = 8 * l.length := by simp [row]
theorem row_at (l : List UInt8) {k : Nat} (h : k < 8 * l.length) : (row l)[k]? = some (rbit l k) := by simp [row, h]
theorem pack_row (l : List UInt8) : pack (row l) = l := by
  apply List.ext_getElem?
  intro j
  have hl : ((row l).length + 7) / 8 = l.length := by rw [length_row]; omega
  by_cases h : j < l.length
  · rw [pack_at _ (by rw [hl]; exact h), List.getElem?_eq_getElem h]
    congr 1
    apply u8_ext
    intro i hi
    rw [byteAt_bit _ _ _ hi]
    simp only [List.getD]
    rw [row_at l (by omega)]
    unfold rbit
    simp only [Option.getD_some]
    rw [show (8 * j + i) / 8 = j from by omega, show (8 * j + i) % 8 = i from by omega]
    simp [List.getD, List.getElem?_eq_getElem h]
  · rw [List.getElem?_eq_none (by rw [length_pack, hl]; omega), List.getElem?_eq_none (by omega)]

/- a bit more -/

theorem byteAt_snoc_other (B : List Bool) (b : Bool) (j : Nat) (h : j ≠ B.length / 8) : byteAt (B ++ [b]) j = byteAt B j := by
  apply u8_ext
  intro i hi
  rw [byteAt_bit _ _ _ hi, byteAt_bit _ _ _ hi]
  simp only [List.getD]
  by_cases hk : 8 * j + i < B.length
  · rw [List.getElem?_append_left hk]
  · rw [List.getElem?_eq_none (l := B) (by omega), List.getElem?_eq_none (by simp; omega)]
/-- the byte with the bit laid in -/
def orBit (x : UInt8) (b : Bool) (k : Nat) : UInt8 := UInt8.ofNat (x.toNat ||| (b.toNat * 2 ^ (7 - k)))
theorem orBit_toNat (x : UInt8) (b : Bool) (k : Nat) : (orBit x b k).toNat = x.toNat ||| (b.toNat * 2 ^ (7 - k)) := by
  unfold orBit
  rw [UInt8.toNat_ofNat_of_lt']
  refine Nat.or_lt_two_pow (n := 8) x.toNat_lt ?_
  have h1 : b.toNat ≤ 1 := Bool.toNat_le b
  have h2 : 2 ^ (7 - k) ≤ 2 ^ 7 := Nat.pow_le_pow_right (by omega) (by omega)
  have : b.toNat * 2 ^ (7 - k) ≤ 1 * 2 ^ 7 := Nat.mul_le_mul h1 h2
  omega
theorem byteAt_snoc (B : List Bool) (b : Bool) : byteAt (B ++ [b]) (B.length / 8) = orBit (byteAt B (B.length / 8)) b (B.length % 8) := by
  apply u8_ext
  intro i hi
  have hk : B.length % 8 < 8 := Nat.mod_lt _ (by omega)
  rw [byteAt_bit _ _ _ hi, orBit_toNat, Nat.testBit_or, byteAt_bit _ _ _ hi]
  simp only [List.getD]
  have hb : (b.toNat * 2 ^ (7 - B.length % 8)).testBit (7 - i) = (decide (i = B.length % 8) && b) := by
    cases b with
    | false => simp
    | true =>
      simp only [Bool.toNat_true, Nat.one_mul, Bool.and_true]
      rw [Nat.testBit_two_pow]
      simp only [decide_eq_decide]
      omega
  rw [hb]
  by_cases h : i = B.length % 8
  · have e : 8 * (B.length / 8) + i = B.length := by omega
    rw [e, List.getElem?_append_right (Nat.le_refl _), List.getElem?_eq_none (l := B) (by omega)]
    simp [h]
  · simp only [h, decide_false, Bool.false_and, Bool.or_false]
    by_cases h2 : 8 * (B.length / 8) + i < B.length
    · rw [List.getElem?_append_left h2]
    · rw [List.getElem?_eq_none (l := B) (by omega), List.getElem?_eq_none (by simp; omega)]
theorem byteAt_end (B : List Bool) (h : B.length % 8 = 0) : byteAt B (B.length / 8) = 0 := by
  apply u8_ext
  intro i hi
  rw [byteAt_bit _ _ _ hi]
  simp only [List.getD]
  rw [List.getElem?_eq_none (by omega)]
  simp
/-- the bytes behind a bit more: a byte more first, if they are whole -/
def grow (B : List Bool) : List UInt8 := if B.length % 8 = 0 then pack B ++ [0] else pack B
theorem length_grow (B : List Bool) : (grow B).length = B.length / 8 + 1 := by
  unfold grow
  split
  · rw [List.length_append, length_pack, List.length_singleton]; omega
  · rw [length_pack]; omega
theorem grow_at (B : List Bool) : (grow B)[B.length / 8]? = some (byteAt B (B.length / 8)) := by
  unfold grow
  split
  · rename_i h
    rw [List.getElem?_append_right (by rw [length_pack]; omega), length_pack, show B.length / 8 - (B.length + 7) / 8 = 0 from by omega, byteAt_end B h]; rfl
  · rw [pack_at B (by omega)]
theorem pack_snoc (B : List Bool) (b : Bool) : pack (B ++ [b]) = (grow B).set (B.length / 8) (orBit (byteAt B (B.length / 8)) b (B.length % 8)) := by
  have hl : ((B ++ [b]).length + 7) / 8 = B.length / 8 + 1 := by simp; omega
  apply List.ext_getElem?
  intro j
  rw [List.getElem?_set]
  by_cases h : j < B.length / 8 + 1
  · rw [pack_at _ (by rw [hl]; exact h)]
    by_cases e : B.length / 8 = j
    · subst e
      rw [if_pos rfl, if_pos (by rw [length_grow]; omega), byteAt_snoc]
    · rw [if_neg e, byteAt_snoc_other B b j (Ne.symm e)]
      unfold grow
      split
      · rw [List.getElem?_append_left (by rw [length_pack]; omega), pack_at B (by omega)]
      · rw [pack_at B (by omega)]
  · rw [List.getElem?_eq_none (by rw [length_pack, hl]; omega), if_neg (by omega), List.getElem?_eq_none (by rw [length_grow]; omega)]
/-- noughts behind change no byte -/
theorem pack_zeros (B : List Bool) (k : Nat) (h : (B.length + k + 7) / 8 = (B.length + 7) / 8) : pack (B ++ List.replicate k false) = pack B := by
  apply List.ext_getElem?
  intro j
  have hl : (B ++ List.replicate k false).length = B.length + k := by simp
  by_cases hj : j < (B.length + 7) / 8
  · rw [pack_at _ (by rw [hl, h]; exact hj), pack_at _ hj]
    congr 1
    apply u8_ext
    intro i hi
    rw [byteAt_bit _ _ _ hi, byteAt_bit _ _ _ hi]
    simp only [List.getD]
    by_cases h2 : 8 * j + i < B.length
    · rw [List.getElem?_append_left h2]
    · rw [List.getElem?_append_right (by omega), List.getElem?_eq_none (l := B) (by omega), List.getElem?_replicate]
      split <;> rfl
  · rw [List.getElem?_eq_none (by rw [length_pack, hl, h]; omega), List.getElem?_eq_none (by rw [length_pack]; omega)]
/-- bits filled up to whole bytes -/
def fill (B : List Bool) : List Bool := B ++ List.replicate (8 * ((B.length + 7) / 8) - B.length) false
theorem length_fill (B : List Bool) : (fill B).length = 8 * ((B.length + 7) / 8) := by simp [fill]; omega
theorem pack_fill (B : List Bool) : pack (fill B) = pack B := pack_zeros B _ (by omega)

/- reading -/

/-- the number of the n bits from k on -/
def get (l : List UInt8) (k n : Nat) : Nat := num ((List.range n).map fun i => rbit l (k + i))
theorem get_zero (l : List UInt8) (k : Nat) : get l k 0 = 0 := rfl
theorem get_succ (l : List UInt8) (k n : Nat) : get l k (n + 1) = 2 * get l k n + (rbit l (k + n)).toNat := by
  unfold get
  rw [List.range_succ, List.map_append, List.map_singleton, num_snoc]
theorem get_lt (l : List UInt8) (k n : Nat) : get l k n < 2 ^ n := by
  have := num_lt ((List.range n).map fun i => rbit l (k + i))
  simpa [get] using this
theorem get_add (l : List UInt8) (k n m : Nat) : get l k (n + m) = get l k n * 2 ^ m + get l (k + n) m := by
  induction m with
  | zero => simp [get_zero]
  | succ m ih =>
    rw [← Nat.add_assoc, get_succ, ih, get_succ, Nat.pow_succ, Nat.add_assoc k n m, ← Nat.mul_assoc]
    omega
theorem get_congr {l m : List UInt8} {k j n : Nat} (h : ∀ i, i < n → rbit l (k + i) = rbit m (j + i)) : get l k n = get m j n := by
  unfold get
  congr 1
  apply List.map_congr_left
  intro i hi
  exact h i (by simpa using hi)
theorem get_pack (B : List Bool) (k n : Nat) (h : k + n ≤ B.length) : get (pack B) k n = num ((B.drop k).take n) := by
  unfold get
  congr 1
  apply List.ext_getElem?
  intro i
  by_cases hi : i < n
  · rw [List.getElem?_map, List.getElem?_range hi, Option.map_some, rbit_pack, List.getElem?_take_of_lt hi, List.getElem?_drop]
    simp only [List.getD]
    rw [List.getElem?_eq_getElem (by omega)]; rfl
  · rw [List.getElem?_eq_none (by simp; omega), List.getElem?_eq_none (by simp; omega)]
end Kin.Bit
namespace Kin.Crc

def poly : Nat := 3988292384
/-- one step of the register -/
def stp (r : Nat) : Nat := if r % 2 = 1 then (r / 2) ^^^ 3988292384 else r / 2
def stpN : Nat → Nat → Nat
  | 0, r => r
  | n + 1, r => stpN n (stp r)
def tab (i : Nat) : Nat := stpN 8 i
def upd (r b : Nat) : Nat := tab ((r % 256) ^^^ b) ^^^ (r / 256)
def fold (r : Nat) (l : List UInt8) : Nat := l.foldl (fun r b => upd r b.toNat) r
def more (s : Nat) (l : List UInt8) : Nat := 4294967295 - fold (4294967295 - s) l
def sum (l : List UInt8) : Nat := more 0 l

theorem stpN_add (a b r : Nat) : stpN (a + b) r = stpN b (stpN a r) := by
  induction a generalizing r with
  | zero => simp [stpN]
  | succ a ih => rw [Nat.succ_add]; exact ih _
theorem stpN_succ (n r : Nat) : stpN (n + 1) r = stp (stpN n r) := stpN_add n 1 r

theorem stp_lt {r : Nat} (h : r < 4294967296) : stp r < 4294967296 := by
  unfold stp
  split
  · exact Nat.xor_lt_two_pow (n := 32) (by omega) (by omega)
  · omega
theorem stpN_lt {n r : Nat} (h : r < 4294967296) : stpN n r < 4294967296 := by
  induction n generalizing r with
  | zero => exact h
  | succ n ih => exact ih (stp_lt h)
theorem tab_lt {i : Nat} (h : i < 4294967296) : tab i < 4294967296 := stpN_lt h
theorem upd_lt {r b : Nat} (hr : r < 4294967296) (hb : b < 256) : upd r b < 4294967296 := by
  unfold upd
  have h1 : r % 256 ^^^ b < 2 ^ 8 := Nat.xor_lt_two_pow (by omega) (by omega)
  exact Nat.xor_lt_two_pow (n := 32) (tab_lt (by omega)) (by omega)
theorem fold_lt {l : List UInt8} {r : Nat} (hr : r < 4294967296) : fold r l < 4294967296 := by
  unfold fold
  induction l generalizing r with
  | nil => exact hr
  | cons b l ih => exact ih (upd_lt hr b.toNat_lt)
theorem fold_snoc (r : Nat) (l : List UInt8) (b : UInt8) : fold r (l ++ [b]) = upd (fold r l) b.toNat := by simp [fold]
theorem fold_append (r : Nat) (l m : List UInt8) : fold r (l ++ m) = fold (fold r l) m := by simp [fold]
theorem more_lt (s : Nat) (l : List UInt8) : more s l < 4294967296 := by unfold more; omega

/- linear -/

theorem mod2_xor (a b : Nat) : (a ^^^ b) % 2 = (a % 2 + b % 2) % 2 := by
  have h := Nat.testBit_xor a b 0
  simp only [Nat.testBit_zero] at h
  rcases Nat.mod_two_eq_zero_or_one a with ha | ha <;> rcases Nat.mod_two_eq_zero_or_one b with hb | hb <;>
    rcases Nat.mod_two_eq_zero_or_one (a ^^^ b) with hc | hc <;> simp [ha, hb, hc] at h ⊢
theorem div2_xor (a b : Nat) : (a ^^^ b) / 2 = (a / 2) ^^^ (b / 2) := by
  apply Nat.eq_of_testBit_eq
  intro i
  simp [Nat.testBit_xor, Nat.testBit_div_two]
theorem stp_xor (a b : Nat) : stp (a ^^^ b) = stp a ^^^ stp b := by
  unfold stp
  rw [mod2_xor, div2_xor]
  rcases Nat.mod_two_eq_zero_or_one a with ha | ha <;> rcases Nat.mod_two_eq_zero_or_one b with hb | hb <;> simp only [ha, hb]
  · rfl
  · show a / 2 ^^^ b / 2 ^^^ 3988292384 = a / 2 ^^^ (b / 2 ^^^ 3988292384)
    rw [Nat.xor_assoc]
  · show a / 2 ^^^ b / 2 ^^^ 3988292384 = (a / 2 ^^^ 3988292384) ^^^ b / 2
    rw [Nat.xor_assoc, Nat.xor_assoc, Nat.xor_comm (b / 2)]
  · show a / 2 ^^^ b / 2 = (a / 2 ^^^ 3988292384) ^^^ (b / 2 ^^^ 3988292384)
    rw [Nat.xor_assoc, ← Nat.xor_assoc 3988292384, Nat.xor_comm 3988292384 (b / 2), Nat.xor_assoc (b / 2), Nat.xor_self, Nat.xor_zero]
theorem stpN_xor (n a b : Nat) : stpN n (a ^^^ b) = stpN n a ^^^ stpN n b := by
  induction n generalizing a b with
  | zero => rfl
  | succ n ih => show stpN n (stp (a ^^^ b)) = _; rw [stp_xor, ih]; rfl
theorem stpN_zero (n : Nat) : stpN n 0 = 0 := by
  induction n with
  | zero => rfl
  | succ n ih => exact ih

/- one-to-one -/

theorem stp_eq_zero {r : Nat} (h : r < 4294967296) (h0 : stp r = 0) : r = 0 := by
  unfold stp at h0
  split at h0
  · have h1 : Nat.testBit (r / 2 ^^^ 3988292384) 31 = true := by
      rw [Nat.testBit_xor, Nat.testBit_lt_two_pow (x := r / 2) (by omega)]
      decide
    rw [h0] at h1
    simp at h1
  · omega
theorem stpN_eq_zero {n r : Nat} (h : r < 4294967296) (h0 : stpN n r = 0) : r = 0 := by
  induction n generalizing r with
  | zero => exact h0
  | succ n ih => exact stp_eq_zero h (ih (stp_lt h) h0)

/- eight steps are one of the table's -/

theorem stp_double (q : Nat) : stp (2 * q) = q := by unfold stp; rw [if_neg (by omega)]; omega
theorem stpN8_shift (q : Nat) : stpN 8 (256 * q) = q := by
  show stp (stp (stp (stp (stp (stp (stp (stp (256 * q)))))))) = q
  rw [show 256 * q = 2 * (2 * (2 * (2 * (2 * (2 * (2 * (2 * q))))))) from by omega]
  simp only [stp_double]
theorem split8 (r : Nat) : r = (r % 256) ^^^ (256 * (r / 256)) := by
  apply Nat.eq_of_testBit_eq
  intro i
  rw [Nat.testBit_xor, show (256 : Nat) = 2 ^ 8 from rfl, Nat.testBit_mod_two_pow, Nat.testBit_two_pow_mul, Nat.testBit_div_two_pow]
  by_cases h : i < 8
  · simp [h, show ¬ 8 ≤ i from by omega]
  · simp [h, show 8 ≤ i from by omega]
theorem upd_eq (r b : Nat) : upd r b = stpN 8 (r ^^^ b) := by
  have e : r ^^^ b = (r % 256 ^^^ b) ^^^ (256 * (r / 256)) := by
    conv => lhs; rw [split8 r]
    rw [Nat.xor_assoc, Nat.xor_comm (256 * (r / 256)) b, Nat.xor_assoc]
  rw [e, stpN_xor, stpN8_shift]; rfl

/- the fold, linear -/

def xors : List UInt8 → List UInt8 → List UInt8
  | a :: l, b :: m => (a ^^^ b) :: xors l m
  | _, _ => []
theorem length_xors {l m : List UInt8} (h : l.length = m.length) : (xors l m).length = l.length := by
  induction l generalizing m with
  | nil => cases m <;> rfl
  | cons a l ih =>
    cases m with
    | nil => simp at h
    | cons b m => simp only [xors, List.length_cons]; rw [ih (by simpa using h)]
theorem getElem?_xors (l m : List UInt8) (i : Nat) : (xors l m)[i]? = (match l[i]?, m[i]? with | some a, some b => some (a ^^^ b) | _, _ => none) := by
  induction l generalizing m i with
  | nil => cases m <;> simp [xors]
  | cons a l ih =>
    cases m with
    | nil => simp only [xors, List.getElem?_nil]; split <;> simp_all
    | cons b m =>
      cases i with
      | zero => simp [xors]
      | succ i => simp only [xors, List.getElem?_cons_succ]; exact ih m i
theorem xor4 (a b c d : Nat) : (a ^^^ b) ^^^ (c ^^^ d) = (a ^^^ c) ^^^ (b ^^^ d) := by
  rw [Nat.xor_assoc, Nat.xor_assoc, ← Nat.xor_assoc b c d, Nat.xor_comm b c, Nat.xor_assoc c b d]
theorem upd_xor (r s a b : Nat) : upd (r ^^^ s) (a ^^^ b) = upd r a ^^^ upd s b := by
  rw [upd_eq, upd_eq, upd_eq, ← stpN_xor, xor4]
theorem fold_xor {l m : List UInt8} (h : l.length = m.length) (r s : Nat) : fold (r ^^^ s) (xors l m) = fold r l ^^^ fold s m := by
  induction l generalizing m r s with
  | nil =>
    cases m with
    | nil => rfl
    | cons b m => simp at h
  | cons a l ih =>
    cases m with
    | nil => simp at h
    | cons b m =>
      show fold (upd (r ^^^ s) (a ^^^ b).toNat) (xors l m) = fold (upd r a.toNat) l ^^^ fold (upd s b.toNat) m
      rw [UInt8.toNat_xor, upd_xor, ih (by simpa using h)]
theorem fold_zeros (n r : Nat) : fold r (List.replicate n 0) = stpN (8 * n) r := by
  induction n generalizing r with
  | zero => rfl
  | succ n ih =>
    show fold (upd r 0) (List.replicate n 0) = _
    rw [ih, upd_eq, Nat.xor_zero, ← stpN_add, show 8 + 8 * n = 8 * (n + 1) from by omega]

/- the turned number -/

theorem flip_xor (a : Nat) (h : a < 4294967296) : 4294967295 - a = a ^^^ 4294967295 := by
  have h2 : 4294967295 - a = 2 ^ 32 - (a + 1) := by omega
  rw [h2]
  apply Nat.eq_of_testBit_eq
  intro i
  rw [Nat.testBit_two_pow_sub_succ (by omega), Nat.testBit_xor, show (4294967295 : Nat) = 2 ^ 32 - 1 from rfl, Nat.testBit_two_pow_sub_one]
  by_cases hi : i < 32
  · simp [hi]
  · have : a.testBit i = false := Nat.testBit_lt_two_pow (Nat.lt_of_lt_of_le (show a < 2 ^ 32 from h) (Nat.pow_le_pow_right (by omega) (by omega)))
    simp [hi, this]

end Kin.Crc
namespace Kin.Crc

theorem upd_shift (x y b : Nat) : upd (x ^^^ y) b = upd x b ^^^ stpN 8 y := by
  rw [upd_eq, upd_eq, ← stpN_xor, Nat.xor_assoc, Nat.xor_comm y b, ← Nat.xor_assoc]
theorem fold_shift (l : List UInt8) (x y : Nat) : fold (x ^^^ y) l = fold x l ^^^ stpN (8 * l.length) y := by
  induction l generalizing x y with
  | nil => rfl
  | cons b l ih =>
    show fold (upd (x ^^^ y) b.toNat) l = fold (upd x b.toNat) l ^^^ _
    rw [upd_shift, ih, ← stpN_add, List.length_cons, show 8 + 8 * l.length = 8 * (l.length + 1) from by omega]
theorem stpN_pow (j : Nat) : stpN j (2 ^ j) = 1 := by
  induction j with
  | zero => rfl
  | succ j ih =>
    show stpN j (stp (2 ^ (j + 1))) = 1
    rw [Nat.pow_succ, Nat.mul_comm, stp_double, ih]
theorem stpN_pow_le {m j : Nat} (h : j ≤ m) : stpN m (2 ^ j) = stpN (m - j) 1 := by
  conv => lhs; rw [show m = j + (m - j) from by omega]
  rw [stpN_add, stpN_pow]
theorem upd_zero (m : Nat) : upd 0 m = stpN 8 m := by rw [upd_eq, Nat.zero_xor]

/-- bit p of bytes turned -/
def flip (l : List UInt8) (p : Nat) : List UInt8 := l.set (p / 8) (l.getD (p / 8) 0 ^^^ UInt8.ofNat (2 ^ (p % 8)))
theorem length_flip (l : List UInt8) (p : Nat) : (flip l p).length = l.length := by simp [flip]
theorem fold_flip (l : List UInt8) (p r : Nat) (h : p < 8 * l.length) : fold r (flip l p) = fold r l ^^^ stpN (8 * l.length - p) 1 := by
  have hk : p / 8 < l.length := by omega
  have hl : l = l.take (p / 8) ++ (l[p / 8] :: l.drop (p / 8 + 1)) := by
    rw [← List.drop_eq_getElem_cons hk, List.take_append_drop]
  have hs : flip l p = l.take (p / 8) ++ ((l[p / 8] ^^^ UInt8.ofNat (2 ^ (p % 8))) :: l.drop (p / 8 + 1)) := by
    unfold flip
    rw [List.set_eq_take_append_cons_drop, if_pos hk]
    simp [List.getD, hk]
  rw [hs, fold_append]
  conv => rhs; rw [hl, fold_append]
  generalize fold r (l.take (p / 8)) = s
  show fold (upd s (l[p / 8] ^^^ UInt8.ofNat (2 ^ (p % 8))).toNat) _ = fold (upd s l[p / 8].toNat) _ ^^^ _
  have hp : p % 8 < 8 := Nat.mod_lt _ (by omega)
  have h2 : (UInt8.ofNat (2 ^ (p % 8))).toNat = 2 ^ (p % 8) := by
    rw [UInt8.toNat_ofNat_of_lt']
    exact Nat.pow_lt_pow_right (by omega) hp
  rw [UInt8.toNat_xor, h2]
  have e : upd s (l[p / 8].toNat ^^^ 2 ^ (p % 8)) = upd s l[p / 8].toNat ^^^ stpN (8 - p % 8) 1 := by
    rw [← stpN_pow_le (by omega), ← upd_zero, ← upd_xor, Nat.xor_zero]
  rw [e, fold_shift, ← stpN_add]
  congr 2
  simp only [List.length_append, List.length_take, List.length_cons, List.length_drop]
  omega

/-- sums are alike just if the registers are -/
theorem sum_eq (l m : List UInt8) : (sum l = sum m) ↔ fold 4294967295 l = fold 4294967295 m := by
  have h1 := fold_lt (l := l) (r := 4294967295) (by omega)
  have h2 := fold_lt (l := m) (r := 4294967295) (by omega)
  unfold sum more
  constructor
  · intro h; simp only [Nat.sub_zero] at h; omega
  · intro h; simp only [Nat.sub_zero, h]
theorem xor_eq_self (a b : Nat) : (a ^^^ b = a) ↔ b = 0 := by
  constructor
  · intro h
    have : a ^^^ (a ^^^ b) = a ^^^ a := by rw [h]
    rwa [← Nat.xor_assoc, Nat.xor_self, Nat.zero_xor] at this
  · rintro rfl; exact Nat.xor_zero _
theorem stpN_one_ne (n : Nat) : stpN n 1 ≠ 0 := fun h => by
  have := stpN_eq_zero (n := n) (r := 1) (by omega) h
  omega
theorem sum_flip (l : List UInt8) (p : Nat) (h : p < 8 * l.length) : sum (flip l p) ≠ sum l := by
  intro e
  rw [sum_eq, fold_flip l p _ h, xor_eq_self] at e
  exact stpN_one_ne _ e

/- the register's way back to 1 is long -/

def notOne : Nat → Nat → Bool
  | 0, _ => true
  | n + 1, r => (stp r != 1) && notOne n (stp r)
theorem notOne_sound (n r : Nat) (h : notOne n r = true) (d : Nat) (h0 : 0 < d) (hd : d ≤ n) : stpN d r ≠ 1 := by
  induction n generalizing r d with
  | zero => omega
  | succ n ih =>
    simp only [notOne, Bool.and_eq_true, bne_iff_ne] at h
    cases d with
    | zero => omega
    | succ d =>
      show stpN d (stp r) ≠ 1
      by_cases hd0 : d = 0
      · subst hd0; exact h.1
      · exact ih _ h.2 d (by omega) (by omega)
set_option maxRecDepth 100000 in
theorem notOne_2400 : notOne 2400 1 = true := by decide +kernel

theorem stpN_inj_lt {a b : Nat} (hab : a < b) (hd : b ≤ a + 2400) : stpN a 1 ≠ stpN b 1 := by
  intro e
  have h1 : stpN b 1 = stpN a (stpN (b - a) 1) := by rw [← stpN_add]; congr 1; omega
  rw [h1] at e
  have h2 : stpN a (1 ^^^ stpN (b - a) 1) = 0 := by rw [stpN_xor, ← e, Nat.xor_self]
  have h3 := stpN_eq_zero (Nat.xor_lt_two_pow (n := 32) (by omega) (stpN_lt (by omega))) h2
  have h4 : stpN (b - a) 1 = 1 := by
    have : 1 ^^^ (1 ^^^ stpN (b - a) 1) = 1 := by rw [h3, Nat.xor_zero]
    rwa [← Nat.xor_assoc, Nat.xor_self, Nat.zero_xor] at this
  exact notOne_sound 2400 1 notOne_2400 (b - a) (by omega) (by omega) h4
theorem sum_flip2 (l : List UInt8) (p q : Nat) (hl : l.length ≤ 300) (hp : p < 8 * l.length) (hq : q < 8 * l.length) (hne : p ≠ q) : sum (flip (flip l p) q) ≠ sum l := by
  intro e
  rw [sum_eq, fold_flip _ q _ (by rw [length_flip]; exact hq), fold_flip l p _ hp, length_flip, Nat.xor_assoc, xor_eq_self] at e
  have e2 : stpN (8 * l.length - p) 1 = stpN (8 * l.length - q) 1 := by
    have h := congrArg (stpN (8 * l.length - p) 1 ^^^ ·) e
    simp only [← Nat.xor_assoc, Nat.xor_self, Nat.zero_xor, Nat.xor_zero] at h
    exact h.symm
  rcases Nat.lt_or_gt_of_ne hne with h | h
  · exact stpN_inj_lt (a := 8 * l.length - q) (b := 8 * l.length - p) (by omega) (by omega) e2.symm
  · exact stpN_inj_lt (a := 8 * l.length - p) (b := 8 * l.length - q) (by omega) (by omega) e2

/- a burst of bits -/

theorem mod_pow_succ (x j : Nat) : x % 2 ^ (j + 1) = if x / 2 ^ j % 2 = 1 then (x % 2 ^ j) ^^^ 2 ^ j else x % 2 ^ j := by
  apply Nat.eq_of_testBit_eq
  intro i
  have hb : x.testBit j = decide (x / 2 ^ j % 2 = 1) := by rw [Nat.testBit, Nat.shiftRight_eq_div_pow, Nat.one_and_eq_mod_two]; rcases Nat.mod_two_eq_zero_or_one (x / 2 ^ j) with h | h <;> simp [h]
  rw [Nat.testBit_mod_two_pow]
  split
  · rename_i h
    rw [Nat.testBit_xor, Nat.testBit_mod_two_pow, Nat.testBit_two_pow]
    by_cases e : i = j
    · subst e; simp [hb, h]
    · by_cases hi : i < j
      · simp [hi, show i < j + 1 from by omega, Ne.symm e]
      · simp [hi, show ¬ i < j + 1 from by omega, Ne.symm e]
  · rename_i h
    rw [Nat.testBit_mod_two_pow]
    by_cases e : i = j
    · subst e; simp [hb, h]
    · by_cases hi : i < j
      · simp [hi, show i < j + 1 from by omega]
      · simp [hi, show ¬ i < j + 1 from by omega]
/-- the bytes m are l but for bits whose sum is that of the low j bits of x, laid from the bit 'at' on -/
def Burst (l m : List UInt8) (p x j : Nat) : Prop := m.length = l.length ∧ fold 4294967295 m = fold 4294967295 l ^^^ stpN (8 * l.length - p) (x % 2 ^ j)
theorem Burst.zero (l : List UInt8) (p x : Nat) : Burst l l p x 0 := ⟨rfl, by rw [Nat.pow_zero, Nat.mod_one, stpN_zero, Nat.xor_zero]⟩
theorem Burst.no {l m : List UInt8} {p x j : Nat} (h : Burst l m p x j) (hb : ¬ x / 2 ^ j % 2 = 1) : Burst l m p x (j + 1) := ⟨h.1, by rw [h.2, mod_pow_succ, if_neg hb]⟩
theorem Burst.yes {l m : List UInt8} {p x j : Nat} (h : Burst l m p x j) (hb : x / 2 ^ j % 2 = 1) (hp : p + j < 8 * l.length) : Burst l (flip m (p + j)) p x (j + 1) := by
  refine ⟨by rw [length_flip, h.1], ?_⟩
  rw [fold_flip _ _ _ (by rw [h.1]; exact hp), h.2, h.1, mod_pow_succ, if_pos hb, stpN_xor, Nat.xor_assoc, stpN_pow_le (m := 8 * l.length - p) (j := j) (by omega), show 8 * l.length - (p + j) = 8 * l.length - p - j from by omega]
theorem Burst.told {l m : List UInt8} {p x : Nat} (hx : x < 4294967296) (h : Burst l m p x 32) : (sum m = sum l) ↔ x = 0 := by
  rw [sum_eq, h.2, xor_eq_self, Nat.mod_eq_of_lt (show x < 2 ^ 32 from hx)]
  constructor
  · intro e; exact stpN_eq_zero hx e
  · rintro rfl; exact stpN_zero _

/- sums and noughts, joined -/

def zeros (s n : Nat) : Nat := 4294967295 - stpN (8 * n) (4294967295 - s)
theorem zeros_more (s n : Nat) : zeros s n = more s (List.replicate n 0) := by unfold zeros more; rw [fold_zeros]
theorem more_more (s : Nat) (hs : s < 4294967296) (l m : List UInt8) : more (more s l) m = more s (l ++ m) := by
  unfold more
  have h := fold_lt (l := l) (r := 4294967295 - s) (by omega)
  rw [show 4294967295 - (4294967295 - fold (4294967295 - s) l) = fold (4294967295 - s) l from by omega, fold_append]
theorem sum_append (l m : List UInt8) : more (sum l) m = sum (l ++ m) := more_more 0 (by omega) l m
theorem sum_zeros (l : List UInt8) (n : Nat) : zeros (sum l) n = sum (l ++ List.replicate n 0) := by rw [zeros_more, sum_append]
theorem more_lt' (s : Nat) (l : List UInt8) : more s l < 4294967296 := more_lt s l
theorem sum_lt (l : List UInt8) : sum l < 4294967296 := more_lt 0 l
theorem zeros_lt (s n : Nat) : zeros s n < 4294967296 := by unfold zeros; omega
theorem flip2 (a : Nat) (h : a < 4294967296) : (4294967295 - a) ^^^ 4294967295 = a := by rw [flip_xor a h, Nat.xor_assoc, Nat.xor_self, Nat.xor_zero]
/-- what Join adds -/
def join (a b n : Nat) : Nat := zeros a n ^^^ zeros 0 n ^^^ b
theorem sum_join (l m : List UInt8) : join (sum l) (sum m) m.length = sum (l ++ m) := by
  have hl := fold_lt (l := l) (r := 4294967295) (by omega)
  have hm := fold_lt (l := m) (r := 4294967295) (by omega)
  unfold join zeros sum more
  simp only [Nat.sub_zero]
  rw [show 4294967295 - (4294967295 - fold 4294967295 l) = fold 4294967295 l from by omega, fold_append]
  generalize fold 4294967295 l = x at *
  have e : fold x m = fold 4294967295 m ^^^ stpN (8 * m.length) (x ^^^ 4294967295) := by
    have h := fold_shift m 4294967295 (x ^^^ 4294967295)
    rwa [Nat.xor_comm x, ← Nat.xor_assoc, Nat.xor_self, Nat.zero_xor, Nat.xor_comm 4294967295 x] at h
  have hfx := fold_lt (l := m) hl
  have h1 := stpN_lt (n := 8 * m.length) hl
  have h2 := stpN_lt (n := 8 * m.length) (r := 4294967295) (by omega)
  rw [flip_xor _ hfx, e, stpN_xor]
  generalize fold 4294967295 m = c at *
  generalize stpN (8 * m.length) x = a at *
  generalize stpN (8 * m.length) 4294967295 = b at *
  rw [flip_xor a h1, flip_xor b h2, flip_xor c hm]
  rw [xor4 a 4294967295 b 4294967295, Nat.xor_self, Nat.xor_zero, Nat.xor_comm (a ^^^ b), Nat.xor_assoc c, Nat.xor_comm 4294967295, Nat.xor_assoc c]

/- bits together -/

theorem sum_three {a b c : List UInt8} (hb : b.length = a.length) (hc : c.length = a.length) : sum (xors (xors a b) c) = sum a ^^^ sum b ^^^ sum c := by
  have h : fold 4294967295 (xors (xors a b) c) = fold 4294967295 a ^^^ fold 4294967295 b ^^^ fold 4294967295 c := by
    have e : (4294967295 : Nat) = (4294967295 ^^^ 4294967295) ^^^ 4294967295 := by decide
    conv => lhs; rw [e]
    rw [fold_xor (by rw [length_xors hb.symm, hc]), fold_xor hb.symm]
  have h0 : ∀ l : List UInt8, sum l = fold 4294967295 l ^^^ 4294967295 := fun l => by
    unfold sum more
    simp only [Nat.sub_zero]
    exact flip_xor _ (fold_lt (by omega))
  rw [h0, h0, h0, h0, h]
  generalize fold 4294967295 a = x
  generalize fold 4294967295 b = y
  generalize fold 4294967295 c = z
  rw [xor4 x 4294967295 y 4294967295, Nat.xor_self, Nat.xor_zero, Nat.xor_assoc (x ^^^ y)]
theorem sum_pairs {a b c : List UInt8} (hb : b.length = a.length) (hc : c.length = a.length) : sum a ^^^ sum (xors a c) = sum b ^^^ sum (xors b c) := by
  have h0 : ∀ l : List UInt8, sum l = fold 4294967295 l ^^^ 4294967295 := fun l => by
    unfold sum more
    simp only [Nat.sub_zero]
    exact flip_xor _ (fold_lt (by omega))
  have key : ∀ l : List UInt8, c.length = l.length → sum l ^^^ sum (xors l c) = fold 0 c := fun l hl => by
    have h : fold 4294967295 (xors l c) = fold 4294967295 l ^^^ fold 0 c := by
      have := fold_xor hl.symm 4294967295 0
      rwa [Nat.xor_zero] at this
    rw [h0, h0, h, xor4, Nat.xor_self, Nat.xor_zero, ← Nat.xor_assoc, Nat.xor_self, Nat.zero_xor]
  rw [key a hc, key b (by rw [hc, hb])]
end Kin.Crc
namespace Kin.Bit

theorem num_append (A B : List Bool) : num (A ++ B) = num A * 2 ^ B.length + num B := by
  induction B using snocInd with
  | h0 => simp [num]
  | h1 B b ih =>
    rw [← List.append_assoc, num_snoc, ih, num_snoc, List.length_append, List.length_singleton, Nat.pow_succ, ← Nat.mul_assoc]
    omega
theorem digits_add (y z n m : Nat) (hy : y < 2 ^ n) (hz : z < 2 ^ m) : digits (y * 2 ^ m + z) (n + m) = digits y n ++ digits z m := by
  have h := digits_num (digits y n ++ digits z m)
  rw [num_append, num_digits, num_digits, List.length_append, length_digits, length_digits, Nat.mod_eq_of_lt hy, Nat.mod_eq_of_lt hz] at h
  exact h
theorem shl_or (y z n m : Nat) (hy : y < 2 ^ n) (hz : z < 2 ^ m) (hnm : n + m ≤ 64) : y * 2 ^ m % 18446744073709551616 ||| z = y * 2 ^ m + z := by
  have h1 : y * 2 ^ m < 2 ^ n * 2 ^ m := Nat.mul_lt_mul_of_pos_right hy (Nat.two_pow_pos m)
  rw [← Nat.pow_add] at h1
  have h2 : 2 ^ (n + m) ≤ 2 ^ 64 := Nat.pow_le_pow_right (by omega) hnm
  rw [Nat.mod_eq_of_lt (by omega)]
  have h3 := Nat.two_pow_add_eq_or_of_lt hz y
  rw [Nat.mul_comm] at h3
  exact h3.symm
end Kin.Bit
namespace Kin.Gol
open Kin

abbrev bl (x : Nat) : Nat := Go.Lib.bitLen x
theorem bl_zero : bl 0 = 0 := by decide +kernel
theorem bl_spec : ∀ (n x : Nat), x ≤ n → 0 < x → x < 2 ^ 64 → 1 ≤ bl x ∧ 2 ^ (bl x - 1) ≤ x ∧ x < 2 ^ bl x
  | 0, x, h, h0, _ => absurd h0 (by omega)
  | n + 1, x, h, h0, h64 => by
    have e := Go.Lib.bitLen_half x (by omega) h64
    by_cases h1 : x = 1
    · subst h1
      have e1 : bl 1 = 1 := by decide +kernel
      rw [e1]; decide
    · obtain ⟨i1, i2, i3⟩ := bl_spec n (x / 2) (by omega) (by omega) (by omega)
      have e' : bl x = 1 + bl (x / 2) := e
      obtain ⟨m, hm⟩ : ∃ m, bl (x / 2) = m + 1 := ⟨bl (x / 2) - 1, by omega⟩
      rw [e', hm]
      rw [hm] at i1 i2 i3
      rw [show m + 1 - 1 = m from rfl] at i2
      rw [show 1 + (m + 1) - 1 = m + 1 from by omega, show 1 + (m + 1) = m + 2 from by omega]
      have p1 : 2 ^ (m + 1) = 2 * 2 ^ m := by rw [Nat.pow_succ]; omega
      have p2 : 2 ^ (m + 2) = 2 * 2 ^ (m + 1) := by rw [Nat.pow_succ]; omega
      omega
theorem bl_le {x k : Nat} (h : x < 2 ^ k) (hk : k ≤ 64) : bl x ≤ k := by
  rcases Nat.eq_zero_or_pos x with rfl | h0
  · rw [bl_zero]; omega
  · have h64 : x < 2 ^ 64 := Nat.lt_of_lt_of_le h (Nat.pow_le_pow_right (by omega) hk)
    obtain ⟨i1, i2, _⟩ := bl_spec x x (Nat.le_refl _) h0 h64
    rcases Nat.lt_or_ge k (bl x) with hlt | hge
    · have : 2 ^ k ≤ 2 ^ (bl x - 1) := Nat.pow_le_pow_right (by omega) (by omega)
      omega
    · exact hge
theorem bl_mono {x y : Nat} (h : x ≤ y) (hy : y < 2 ^ 64) : bl x ≤ bl y := by
  rcases Nat.eq_zero_or_pos x with rfl | h0
  · rw [bl_zero]; omega
  · obtain ⟨_, _, i3⟩ := bl_spec y y (Nat.le_refl _) (by omega) hy
    exact bl_le (by omega) (bl_le hy (Nat.le_refl _))

/-- how long a number's code is -/
def gl (v : Nat) : Nat := if 4294967294 < v then 0 else 2 * bl (v + 1) - 1
theorem gl_big {v : Nat} (h : 4294967294 < v) : gl v = 0 := if_pos h
theorem gl_of {v : Nat} (h : v ≤ 4294967294) : gl v = 2 * bl (v + 1) - 1 := if_neg (by omega)
theorem bl_code {v : Nat} (h : v ≤ 4294967294) : 1 ≤ bl (v + 1) ∧ bl (v + 1) ≤ 32 ∧ 2 ^ (bl (v + 1) - 1) ≤ v + 1 ∧ v + 1 < 2 ^ bl (v + 1) := by
  obtain ⟨i1, i2, i3⟩ := bl_spec _ (v + 1) (Nat.le_refl _) (by omega) (by omega)
  exact ⟨i1, bl_le (k := 32) (by omega) (by omega), i2, i3⟩
/-- a number's code -/
def codeB (v : Nat) : List Bool := Bit.digits (v + 1) (2 * bl (v + 1) - 1)
theorem length_codeB {v : Nat} (h : v ≤ 4294967294) : (codeB v).length = gl v := by rw [codeB, Bit.length_digits, gl_of h]
theorem num_codeB {v : Nat} (h : v ≤ 4294967294) : Bit.num (codeB v) = v + 1 := by
  obtain ⟨i1, _, _, i3⟩ := bl_code h
  rw [codeB, Bit.num_digits, Nat.mod_eq_of_lt]
  exact Nat.lt_of_lt_of_le i3 (Nat.pow_le_pow_right (by omega) (by omega))
theorem code_fits {v : Nat} (h : v ≤ 4294967294) : v + 1 < 2 ^ gl v := by
  obtain ⟨i1, _, _, i3⟩ := bl_code h
  rw [gl_of h]
  exact Nat.lt_of_lt_of_le i3 (Nat.pow_le_pow_right (by omega) (by omega))
theorem gl_le (v : Nat) : gl v ≤ 63 := by
  unfold gl
  split
  · omega
  · rename_i h
    have := (bl_code (v := v) (by omega)).2.1
    omega
theorem codeB_form {v : Nat} (h : v ≤ 4294967294) : ∃ T, codeB v = List.replicate (bl (v + 1) - 1) false ++ true :: T ∧ T.length = bl (v + 1) - 1 := by
  obtain ⟨i1, _, i2, i3⟩ := bl_code h
  obtain ⟨m, hm⟩ : ∃ m, bl (v + 1) = m + 1 := ⟨bl (v + 1) - 1, by omega⟩
  unfold codeB
  rw [hm]
  rw [hm] at i1 i2 i3
  rw [show m + 1 - 1 = m from rfl] at i2 ⊢
  refine ⟨(Bit.digits (v + 1) (2 * (m + 1) - 1)).drop (m + 1), ?_, by rw [List.length_drop, Bit.length_digits]; omega⟩
  apply List.ext_getElem?
  intro i
  rcases Nat.lt_trichotomy i m with hi | hi | hi
  · rw [Bit.digits_at _ _ (by omega), List.getElem?_append_left (by simpa using hi), List.getElem?_replicate, if_pos hi]
    congr 1
    exact Nat.testBit_lt_two_pow (Nat.lt_of_lt_of_le i3 (Nat.pow_le_pow_right (by omega) (by omega)))
  · subst hi
    rw [Bit.digits_at _ _ (by omega), List.getElem?_append_right (by simp)]
    simp only [List.length_replicate, Nat.sub_self, List.getElem?_cons_zero]
    congr 1
    rw [show 2 * (i + 1) - 1 - 1 - i = i from by omega]
    have h1 : (v + 1) / 2 ^ i = 1 := by
      have hp := Nat.two_pow_pos i
      rw [Nat.pow_succ] at i3
      have a1 : 1 ≤ (v + 1) / 2 ^ i := (Nat.le_div_iff_mul_le hp).2 (by omega)
      have a2 : (v + 1) / 2 ^ i < 2 := (Nat.div_lt_iff_lt_mul hp).2 (by omega)
      omega
    rw [Nat.testBit, Nat.shiftRight_eq_div_pow, h1]; rfl
  · rw [List.getElem?_append_right (by simp; omega), List.length_replicate]
    obtain ⟨j, rfl⟩ : ∃ j, i = m + 1 + j := ⟨i - m - 1, by omega⟩
    rw [show m + 1 + j - m = j + 1 from by omega, List.getElem?_cons_succ, List.getElem?_drop]

/-- what bits begin with: so many noughts, at most 32 -/
def gN (B : List Bool) : Nat := min 32 (B.takeWhile (! ·)).length
def gE (B : List Bool) : Int := if gN B = 32 then 21 else if B.length < 2 * gN B + 1 then 11 else 0
def gV (B : List Bool) : Nat := if gE B = 0 then Bit.num (B.take (2 * gN B + 1)) - 1 else 0
def gK (B : List Bool) : Nat := if gE B = 0 then 2 * gN B + 1 else 0
theorem tw_zeros (m : Nat) (T : List Bool) : (List.replicate m false ++ true :: T).takeWhile (! ·) = List.replicate m false := by
  induction m with
  | zero => rfl
  | succ m ih => rw [List.replicate_succ, List.cons_append, List.takeWhile_cons]; simp [ih]
theorem gN_code {v : Nat} (h : v ≤ 4294967294) (D : List Bool) : gN (codeB v ++ D) = bl (v + 1) - 1 := by
  obtain ⟨T, e, _⟩ := codeB_form h
  have := (bl_code h).2.1
  unfold gN
  rw [e, List.append_assoc, List.cons_append, tw_zeros, List.length_replicate]
  omega
theorem gE_code {v : Nat} (h : v ≤ 4294967294) (D : List Bool) : gE (codeB v ++ D) = 0 := by
  have h1 := gN_code h D
  have h2 := bl_code h
  unfold gE
  rw [h1, if_neg (by omega), if_neg]
  rw [List.length_append, length_codeB h, gl_of h]
  omega
theorem take_code {v : Nat} (h : v ≤ 4294967294) (D : List Bool) : (codeB v ++ D).take (2 * gN (codeB v ++ D) + 1) = codeB v := by
  have h2 := bl_code h
  rw [gN_code h D]
  apply List.take_left'
  rw [length_codeB h, gl_of h]; omega
theorem gV_code {v : Nat} (h : v ≤ 4294967294) (D : List Bool) : gV (codeB v ++ D) = v := by
  unfold gV
  rw [if_pos (gE_code h D), take_code h D, num_codeB h]; rfl
theorem gK_code {v : Nat} (h : v ≤ 4294967294) (D : List Bool) : gK (codeB v ++ D) = gl v := by
  have h2 := bl_code h
  unfold gK
  rw [if_pos (gE_code h D), gN_code h D, gl_of h]; omega
/-- no code begins another one -/
theorem code_apart {a b : Nat} (ha : a ≤ 4294967294) (hb : b ≤ 4294967294) (h : codeB a <+: codeB b) : a = b := by
  obtain ⟨D, e⟩ := h
  have h1 := gV_code ha D
  rw [e] at h1
  have h2 := gV_code hb []
  rw [List.append_nil] at h2
  omega
theorem gN_le (B : List Bool) : gN B ≤ 32 ∧ gN B ≤ B.length := by
  unfold gN
  have := (List.takeWhile_prefix (! ·) (l := B)).length_le
  omega

/-- noughts so far: the count goes on -/
def zerosTo (B : List Bool) (n : Nat) : Prop := n ≤ B.length ∧ ∀ i, i < n → B.getD i false = false
theorem zeros_tw {B : List Bool} {n : Nat} (h : zerosTo B n) : n ≤ (B.takeWhile (! ·)).length := by
  induction n generalizing B with
  | zero => omega
  | succ n ih =>
    obtain ⟨h1, h2⟩ := h
    cases B with
    | nil => simp at h1
    | cons b B =>
      have hb : b = false := h2 0 (by omega)
      subst hb
      rw [List.takeWhile_cons]
      simp only [Bool.not_false, if_true, List.length_cons]
      have := ih (B := B) ⟨by simpa using h1, fun i hi => h2 (i + 1) (by omega)⟩
      omega
theorem tw_stop {B : List Bool} {n : Nat} (h : zerosTo B n) (hs : n = B.length ∨ B.getD n false = true) : (B.takeWhile (! ·)).length = n := by
  induction n generalizing B with
  | zero =>
    rcases hs with hs | hs
    · have : B = [] := List.eq_nil_of_length_eq_zero hs.symm
      subst this; rfl
    · cases B with
      | nil => rfl
      | cons b B =>
        have hb : b = true := hs
        subst hb; rfl
  | succ n ih =>
    obtain ⟨h1, h2⟩ := h
    cases B with
    | nil => simp at h1
    | cons b B =>
      have hb : b = false := h2 0 (by omega)
      subst hb
      rw [List.takeWhile_cons]
      simp only [Bool.not_false, if_true, List.length_cons]
      rw [ih (B := B) ⟨by simpa using h1, fun i hi => h2 (i + 1) (by omega)⟩ (by
        rcases hs with hs | hs
        · left; simpa using hs
        · right; exact hs)]
theorem gE_golomb {B : List Bool} (h : zerosTo B 32) : gE B = 21 := by
  have := zeros_tw h
  unfold gE gN
  rw [if_pos (by omega)]
theorem gN_stop {B : List Bool} {n : Nat} (h : zerosTo B n) (hn : n < 32) (hs : n = B.length ∨ B.getD n false = true) : gN B = n := by
  have := tw_stop h hs
  unfold gN
  omega
theorem gE_short {B : List Bool} {n : Nat} (h : zerosTo B n) (hn : n < 32) (hs : n = B.length ∨ B.getD n false = true) (hl : B.length < 2 * n + 1) : gE B = 11 := by
  have := gN_stop h hn hs
  unfold gE
  rw [this, if_neg (by omega), if_pos hl]
theorem gE_good {B : List Bool} {n : Nat} (h : zerosTo B n) (hn : n < 32) (hs : B.getD n false = true) (hl : 2 * n + 1 ≤ B.length) : gE B = 0 ∧ gK B = 2 * n + 1 ∧ gV B = Bit.num (B.take (2 * n + 1)) - 1 := by
  have e := gN_stop h hn (.inr hs)
  have e0 : gE B = 0 := by
    unfold gE
    rw [e, if_neg (by omega), if_neg (by omega)]
  refine ⟨e0, ?_, ?_⟩
  · unfold gK; rw [if_pos e0, e]
  · unfold gV; rw [if_pos e0, e]
theorem gK_bad {B : List Bool} (h : gE B ≠ 0) : gK B = 0 := if_neg h
theorem gV_bad {B : List Bool} (h : gE B ≠ 0) : gV B = 0 := if_neg h
theorem gV_lt (B : List Bool) : gV B < 2 ^ 63 := by
  unfold gV
  split
  · rename_i h
    have h1 := Bit.num_lt (B.take (2 * gN B + 1))
    have h2 : gN B ≠ 32 := fun e => by unfold gE at h; rw [if_pos e] at h; omega
    have h3 := (gN_le B).1
    have h4 : 2 ^ (B.take (2 * gN B + 1)).length ≤ 2 ^ 63 := Nat.pow_le_pow_right (by omega) (by rw [List.length_take]; omega)
    omega
  · exact Nat.two_pow_pos _
theorem gK_le (B : List Bool) : gK B ≤ B.length := by
  unfold gK
  split
  · rename_i h
    unfold gE at h
    split at h
    · omega
    · split at h
      · omega
      · omega
  · omega

/- folding -/

def foldOk (x : Int) : Bool := decide (-2147483647 ≤ x ∧ x ≤ 2147483647)
def foldV (x : Int) : Int := if foldOk x then (if 0 < x then 2 * x - 1 else -2 * x) else 0
def unf (v : Int) : Int := if 4294967294 < v then 0 else if v % 2 = 1 then (v + 1) / 2 else -(v / 2)
theorem foldV_range (x : Int) : 0 ≤ foldV x ∧ foldV x ≤ 4294967294 := by
  unfold foldV
  split
  · rename_i h
    have := of_decide_eq_true h
    split <;> omega
  · omega
theorem unf_fold {x : Int} (h : foldOk x = true) : unf (foldV x) = x := by
  have hr := foldV_range x
  have hb := of_decide_eq_true h
  unfold unf
  rw [if_neg (by omega)]
  unfold foldV
  rw [h]
  simp only [if_true]
  split <;> split <;> omega
theorem unf_zero : unf 0 = 0 := by decide
end Kin.Gol
namespace Wi
open Kin

def okp (c : UInt8) : Bool := decide ((97 ≤ c.toNat ∧ c.toNat ≤ 122) ∨ (48 ≤ c.toNat ∧ c.toNat ≤ 57) ∨ c.toNat = 46 ∨ c.toNat = 47)
def upto (t : ByteArray) (k : Nat) : Bool := (t.data.toList.take k).all okp
def path (t : ByteArray) : Bool := decide (1 ≤ t.size ∧ t.size ≤ 60) && t.data.toList.all okp
def win (n a b : Int) : Bool := decide (a ≤ n ∧ n ≤ b)
def rq (id : Int) (p : ByteArray) (fr tto : Int) : Bool := win id 0 1048575 && path p && win fr 0 1048576 && win tto (-1) 1048576
def rr (id st fr sz : Int) (n : Nat) : Bool := win id 0 1048575 && win st 1 4 && win fr 0 1048576 && win sz 0 1048576 && decide (n ≤ 1048576)
def four (n : Nat) : List UInt8 := [UInt8.ofNat (n / 16777216), UInt8.ofNat (n / 65536), UInt8.ofNat (n / 256), UInt8.ofNat n]
def codes (vs : List Nat) : List Bool := vs.flatMap Gol.codeB
/-- what is ahead of the sum -/
def body (vs : List Nat) (t : List UInt8) : List UInt8 := Bit.pack (codes vs) ++ t
def wire (vs : List Nat) (t : List UInt8) : List UInt8 := body vs t ++ four (Crc.sum (body vs t))
theorem upto_succ (t : ByteArray) (k : Nat) (h : k < t.size) : upto t (k + 1) = (upto t k && okp t[k]) := by
  unfold upto
  rw [List.take_add_one, List.all_append]
  have : t.data.toList[k]? = some t[k] := by
    rw [List.getElem?_eq_getElem (by simpa using h)]
    rfl
  rw [this]
  simp
theorem upto_all (t : ByteArray) (k : Nat) (h : t.size ≤ k) : upto t k = t.data.toList.all okp := by
  unfold upto
  rw [List.take_of_length_le (by simpa using h)]
theorem upto_more {t : ByteArray} {k : Nat} (h : upto t k = false) : t.data.toList.all okp = false := by
  unfold upto at h
  cases e : t.data.toList.all okp
  · rfl
  · rw [List.all_eq_true] at e
    have : (t.data.toList.take k).all okp = true := by
      rw [List.all_eq_true]; intro x hx; exact e x (List.mem_of_mem_take hx)
    rw [this] at h; cases h
theorem okp_yes {c : UInt8} {v : Nat} (h : c.toNat = v) (k : (97 ≤ v ∧ v ≤ 122) ∨ (48 ≤ v ∧ v ≤ 57) ∨ v = 46 ∨ v = 47) : okp c = true := by
  unfold okp; rw [h]; exact decide_eq_true k
theorem okp_no {c : UInt8} {v : Nat} (h : c.toNat = v) (k : ¬ ((97 ≤ v ∧ v ≤ 122) ∨ (48 ≤ v ∧ v ≤ 57) ∨ v = 46 ∨ v = 47)) : okp c = false := by
  unfold okp; rw [h]; exact decide_eq_false k
theorem length_four (n : Nat) : (four n).length = 4 := rfl
theorem codes_snoc (vs : List Nat) (v : Nat) : codes (vs ++ [v]) = codes vs ++ Gol.codeB v := by simp [codes]
theorem u8m (n : Nat) : (UInt8.ofNat n).toNat = n % 256 := by simp
end Wi
namespace Kin.Bit

/-- a bit as a byte -/
def one (b : Bool) : UInt8 := if b then 1 else 0
theorem one_toNat (b : Bool) : (one b).toNat = b.toNat := by cases b <;> rfl
/-- bits as bytes -/
def zo (B : List Bool) : List UInt8 := B.map one
theorem length_zo (B : List Bool) : (zo B).length = B.length := by simp [zo]
theorem zo_append (A B : List Bool) : zo (A ++ B) = zo A ++ zo B := by simp [zo]
theorem zo_at (B : List Bool) (k : Nat) : (zo B)[k]? = B[k]?.map one := by simp [zo]
theorem zo_drop (B : List Bool) (k : Nat) : (zo B).drop k = zo (B.drop k) := by simp [zo]
theorem zo_take (B : List Bool) (k : Nat) : (zo B).take k = zo (B.take k) := by simp [zo]
theorem zo_nil : zo [] = [] := rfl

theorem zo_digits (v n : Nat) {i : Nat} (h : i < n) : (zo (digits v n))[i]? = some (one (v.testBit (n - 1 - i))) := by
  rw [zo_at, digits_at v n h]; rfl

/-- the bit i of v as the program finds it -/
theorem low_bit (v i : Nat) : v / 2 ^ i % 2 = (one (v.testBit i)).toNat := by
  rw [one_toNat, Nat.toNat_testBit]

theorem num_take_succ (B : List Bool) (j : Nat) (b : Bool) (h : B[j]? = some b) : num (B.take (j + 1)) = 2 * num (B.take j) + b.toNat := by
  rw [List.take_add_one, h, Option.toList_some, num_snoc]

/-- the byte from bit i on, its first k bits -/
def eight (B : List Bool) (i k : Nat) : Nat := num ((List.range k).map fun j => B.getD (i + j) false)
theorem eight_zero (B : List Bool) (i : Nat) : eight B i 0 = 0 := rfl
theorem eight_succ (B : List Bool) (i k : Nat) : eight B i (k + 1) = 2 * eight B i k + (B.getD (i + k) false).toNat := by
  unfold eight
  rw [List.range_succ, List.map_append, List.map_singleton, num_snoc]
theorem eight_lt (B : List Bool) (i k : Nat) : eight B i k < 2 ^ k := by
  have := num_lt ((List.range k).map fun j => B.getD (i + j) false)
  simpa [eight] using this
theorem eight_byteAt (B : List Bool) (j : Nat) : eight B (8 * j) 8 = (byteAt B j).toNat := by rw [byteAt_toNat]; rfl

theorem pack_take (B : List Bool) (j : Nat) (h : 8 * j < B.length) : (pack B).take (j + 1) = (pack B).take j ++ [byteAt B j] := by
  rw [List.take_add_one, pack_at B (by omega)]; rfl

theorem row_take (l : List UInt8) (j : Nat) (x : UInt8) (h : l[j]? = some x) : row (l.take (j + 1)) = row (l.take j) ++ digits x.toNat 8 := by
  have hj : j < l.length := (List.getElem?_eq_some_iff.1 h).1
  have e1 : (l.take (j + 1)).length = j + 1 := by simp; omega
  have e0 : (l.take j).length = j := by simp; omega
  apply List.ext_getElem?
  intro k
  by_cases hk : k < 8 * (j + 1)
  · rw [row_at _ (by rw [e1]; exact hk)]
    by_cases hk' : k < 8 * j
    · rw [List.getElem?_append_left (by rw [length_row, e0]; exact hk'), row_at _ (by rw [e0]; exact hk')]
      congr 1
      unfold rbit
      rw [List.getD, List.getD, List.getElem?_take_of_lt (by omega), List.getElem?_take_of_lt (by omega)]
    · rw [List.getElem?_append_right (by rw [length_row, e0]; omega), length_row, e0, digits_at _ _ (by omega)]
      congr 1
      unfold rbit
      rw [List.getD, List.getElem?_take_of_lt (by omega), show k / 8 = j from by omega, h]
      simp only [Option.getD_some]
      congr 1
      omega
  · rw [List.getElem?_eq_none (by rw [length_row, e1]; omega), List.getElem?_eq_none (by rw [List.length_append, length_row, e0, length_digits]; omega)]
end Kin.Bit
namespace Kin
open Go

/-- a region's way on, where R is held besides -/
def Strong (_R : World → Prop) (p : Prop) : Prop := p
theorem shut_strong (R : World → Prop) (p : Prop) : Shut p = Strong R p := rfl
theorem strong_strong (R R' : World → Prop) (p : Prop) : Strong R p = Strong R' p := rfl

theorem wpAnyH_imp {P : Program} {md : Region.Mode} {ops : Array Oper} {Q : Exit → Act → World → Prop} {S S' : World → Prop} (imp : ∀ w, S' w → S w) :
    ∀ (fuel : Nat) (listed : Array Bool) (a : Act) (w : World), wpAnyH P md ops Q S' fuel listed a w → wpAnyH P md ops Q S fuel listed a w
  | 0, _, _, _, h => h
  | fuel + 1, _, _, _, h => ⟨h.1, fun i hi => wpOp_mono (fun a' w' h' => ⟨imp _ h'.1, wpAnyH_imp imp fuel _ a' w' h'.2⟩) (h.2 i hi)⟩

theorem Strong.out {R : World → Prop} {P : Program} {md : Region.Mode} {ops : Array Oper} {Q : Exit → Act → World → Prop} {S : World → Prop} {fuel : Nat} {listed : Array Bool} {K : Act → World → Prop}
    (h : Strong R (∀ a w, S w → (S w → wpAnyH P md ops Q S fuel listed a w) → K a w)) :
    ∀ a w, S w ∧ R w → (S w ∧ R w → wpAnyH P md ops Q (fun w => S w ∧ R w) fuel listed a w) → K a w :=
  fun a w hs hw => h a w hs.1 (fun _ => wpAnyH_imp (fun _ k => k.1) fuel listed a w (hw hs))

/-- append of bytes at a step of a region that draws its order -/
theorem step_append8 {P : Program} {w : World} {ops : Array Oper} {o : Oper} {a : Act} {K : Act → World → Prop} {Q : Exit → Act → World → Prop} (hw : Region.wanted o (yielded ops a.tmps) = true) (s x : Operand) (t e : TypeId)
    (ho : o.op = .call { callee := .builtin .append, args := #[s, x], argTypes := #[t, t] }) (ht : IsBytes P t e)
    (A : Option Addr) (n c : Nat) (l : List UInt8) (hs : a.eval s = .slice A n c) (hown : Own8 w e A n c l) (B : Nat) (A2 : Option Addr) (n2 c2 : Nat) (m : List UInt8) (hx : a.eval x = .slice A2 n2 c2) (hr : Byt w B A2 m) (hn2 : n2 = m.length) (hb : n + n2 ≤ 140737488355328)
    (h : ∀ A' c' w', Own8 w' e A' (n + n2) c' (l ++ m) → w.grownBy w' (blkOf A) → (blkOf A' = blkOf A ∨ blkOf A' = some w.heap.size) → K (a.put o.dst (.slice A' (n + n2) c')) w') :
    if Region.wanted o (yielded ops a.tmps) = true then Oper.wp P o a w K Q else K (a.put o.dst undef) w := by
  obtain ⟨ht, _, i, hi, hz, hsize, hby⟩ := ht
  obtain ⟨A', c', w', hr, h2, h3, h4⟩ := run_append8 (P := P) w t o.type e i ht hi hz hsize hby A n c l hown B A2 n2 c2 m hr hn2 hb
  rw [if_pos hw]
  unfold Oper.wp execOp
  simp only [ho, resolve, invoke, builtin, Sem.run_bind, Sem.run_pure, Result.andThen_ok, List.map_toArray, List.map_cons, List.map_nil, hs, hx, hr]
  exact h A' c' w' h2 h3 h4
end Kin
namespace Kin
open Go Go.RowKit Go.ChangeShapes Go.WideShapes Go.ChangeAt

theorem u8_of_wf {z : Int} (h : (Lit.int .u8 z).wf = true) : ((UInt8.ofNat z.toNat).toNat : Int) = z := by
  have hb := bounds_u8 h
  have : z.toNat < 256 := by omega
  rw [UInt8.toNat_ofNat_of_lt' (by simpa using this)]
  omega

theorem byt_open {H : Type} {enc : TypeId × Value → H} {P : Program} {W : World} {base : Nat} {spare : Nat → Bool} {held : Bool} {t e : TypeId} {v : Value} {d : DataW H} {p : List MemPlace} {r : Reach} {b0 : Nat}
    (ht : IsBytes P t e) (hc : P.cellsOf e = 1) (hv : Value.okWide P W r b0 t v) (h : DataW.Trod enc P W base spare held t v d p) :
    ∃ A n c l, v = .slice A n c ∧ n = l.length ∧ n ≤ maxLen ∧ Byt W W.heap.size A l := by
  obtain ⟨A, n, c, rfl⟩ := okWide_slice ht.1 hv
  obtain ⟨fuel, hf⟩ := h
  rcases open_ints ht.1 ht.2.1 hc hf with ⟨hcs, _⟩ | ⟨x, n', c', zs, hcs, _, hl, hm, hz, _, hcell, hwz⟩
  · simp [Value.cells] at hcs
    obtain ⟨rfl, rfl, rfl⟩ := hcs
    exact ⟨none, 0, 0, [], rfl, rfl, Nat.zero_le _, Byt.nil⟩
  · simp [Value.cells] at hcs
    obtain ⟨rfl, rfl, rfl⟩ := hcs
    have hlen : n ≤ zs.length := by rw [hz]; split <;> omega
    refine ⟨some x, n, c, (zs.take n).map fun z => UInt8.ofNat z.toNat, rfl, by simp; omega, by omega, fun hpos => ?_⟩
    simp at hpos
    obtain ⟨b, off, spot⟩ := x
    have hc0 := hcell 0 (by omega)
    have hspot : spot = none := by simpa [Addr.add] using World.cell?_spot hc0
    subst hspot
    refine ⟨b, off, rfl, ?_, fun j x hx => ?_⟩
    · have := block_lt_of_cell hc0
      simpa [Addr.add] using this
    · rw [List.getElem?_map] at hx
      rcases hj : (zs.take n)[j]? with _ | z
      · rw [hj] at hx; cases hx
      · rw [hj] at hx
        injection hx with hx
        have hjn : j < n := by
          have := (List.getElem?_eq_some_iff.1 hj).1
          simp at this; omega
        rw [List.getElem?_take_of_lt hjn] at hj
        have hjz := (List.getElem?_eq_some_iff.1 hj).1
        have hcj := hcell j hjz
        rw [Addr.add_lit] at hcj
        have hg : zs.getD j 0 = z := by simp [List.getD, hj]
        rw [hcj, hg, ← hx, u8_of_wf (hwz z (List.mem_of_getElem? hj))]
end Kin
namespace Kin
open Go Go.RowKit Go.ChangeShapes Go.WideShapes Go.Deep Go.ChangeAt

/-- the slice at A reads as the values xs, and lies below block B -/
def Vals (w : World) (B : Nat) (A : Option Addr) (xs : List Value) : Prop :=
  0 < xs.length → ∃ b off, A = some ⟨b, off, none⟩ ∧ b < B ∧ ∀ j v, xs[j]? = some v → w.cell? ⟨b, off + j, none⟩ = some v
section
variable {w w' : World} {B : Nat} {A : Option Addr} {xs : List Value}

theorem Vals.keep (h : Vals w B A xs) (hk : ∀ p : Addr, p.block < B → w'.cell? p = w.cell? p) : Vals w' B A xs := fun hl => by
  obtain ⟨b, off, e, hb, hc⟩ := h hl
  exact ⟨b, off, e, hb, fun j x hx => (hk ⟨b, off + j, none⟩ hb).trans (hc j x hx)⟩
theorem Vals.below (h : Vals w B A xs) (hb : Below B w w') : Vals w' B A xs := h.keep fun _ hp => hb.cell hp
theorem Vals.at_ (h : Vals w B A xs) {k : Nat} (hk : k < xs.length) : ∃ b off, A = some ⟨b, off, none⟩ ∧ b < B ∧ w.cell? ⟨b, off + k, none⟩ = some xs[k] := by
  obtain ⟨b, off, e, hb, hc⟩ := h (by omega)
  exact ⟨b, off, e, hb, hc k _ (List.getElem?_eq_getElem hk)⟩
end

section
variable {H : Type} {enc : TypeId × Value → H} {P : Program} {w : World} {base : Nat} {spare : Nat → Bool} {held : Bool}

theorem vals_open {t e : TypeId} {v : Value} {d : DataW H} {p : List MemPlace} {r : Reach} {b0 : Nat} (R : Value → Prop)
    (ht : P.underlying t = some (.slice e)) (hC : P.cellsOf e = 1) (hR : ∀ (v : Value) (n : Nat) (y : DataW H × List MemPlace), DataW.trod enc P w base spare held n e [v] = some y → R v)
    (hv : Value.okWide P w r b0 t v) (h : DataW.Trod enc P w base spare held t v d p) :
    ∃ A n c xs, v = .slice A n c ∧ n = xs.length ∧ n ≤ maxLen ∧ Vals w w.heap.size A xs ∧ ∀ x ∈ xs, R x := by
  obtain ⟨A, n, c, rfl⟩ := okWide_slice ht hv
  obtain ⟨fuel, hf⟩ := h
  rcases open_slice ht hf with ⟨hcs, _⟩ | ⟨a, n', c', m, k, D, Pl, hcs, hb, hl, hm, hmm, hx, hi⟩
  · simp [Value.cells] at hcs
    obtain ⟨rfl, rfl, rfl⟩ := hcs
    exact ⟨none, 0, 0, [], rfl, rfl, Nat.zero_le _, fun h => absurd h (by simp), fun _ h => by cases h⟩
  · simp [Value.cells] at hcs
    obtain ⟨rfl, rfl, rfl⟩ := hcs
    have hnm : n ≤ m := by rw [hmm]; split <;> omega
    have cellAt : ∀ i, i < n → ∃ v y, w.cell? (a.add i) = some v ∧ DataW.trod enc P w base spare held k e [v] = some y := by
      intro i hin
      obtain ⟨cs', hc, ht'⟩ := hi i (by omega)
      rw [hC] at hc
      obtain ⟨_, hcl, hat⟩ := World.cells?_some hc
      match cs', hcl with
      | [v], _ =>
        have := hat 0 (by omega)
        rw [Go.Deep.add_add] at this
        exact ⟨v, _, by simpa using this, ht'⟩
    let f := fun i : Nat => (w.cell? (a.add i)).getD undef
    obtain ⟨b, off, spot⟩ := a
    refine ⟨some ⟨b, off, spot⟩, n, c, (List.range n).map f, rfl, by simp, by omega, fun hp => ?_, ?_⟩
    · have hn0 : 0 < n := by simpa using hp
      obtain ⟨v0, y0, hv0, _⟩ := cellAt 0 hn0
      have hspot : spot = none := by simpa [Addr.add] using World.cell?_spot hv0
      subst hspot
      refine ⟨b, off, rfl, ?_, fun j v hj => ?_⟩
      · have := block_lt_of_cell hv0
        simpa [Addr.add] using this
      · have hjn : j < n := by
          rcases Nat.lt_or_ge j n with h | h
          · exact h
          · rw [List.getElem?_eq_none (by simpa using h)] at hj; cases hj
        obtain ⟨v', y', hv', _⟩ := cellAt j hjn
        simp only [f, List.getElem?_map, List.getElem?_range hjn, Option.map_some] at hj
        injection hj with hj
        rw [hv', Option.getD_some] at hj
        subst hj
        rw [Addr.add_lit] at hv'
        exact hv'
    · intro x hx
      obtain ⟨i, hi', rfl⟩ := List.mem_map.1 hx
      obtain ⟨v, y, hv, hy⟩ := cellAt i (by simpa using hi')
      simp only [f, hv, Option.getD_some]
      exact hR v k y hy
def U64 (v : Value) : Prop := ∃ x : Nat, v = .int .u64 (x : Int) ∧ x < 18446744073709551616
def I64 (v : Value) : Prop := ∃ x : Int, v = .int .i64 x ∧ -9223372036854775808 ≤ x ∧ x ≤ 9223372036854775807
def IsBool (v : Value) : Prop := ∃ b : Bool, v = .bool b
theorem u64s_open {t e : TypeId} {v : Value} {d : DataW H} {p : List MemPlace} {r : Reach} {b0 : Nat} (ht : P.underlying t = some (.slice e)) (hC : P.cellsOf e = 1) (he : P.underlying e = some (.int .u64))
    (hv : Value.okWide P w r b0 t v) (h : DataW.Trod enc P w base spare held t v d p) : ∃ A n c xs, v = .slice A n c ∧ n = xs.length ∧ n ≤ maxLen ∧ Vals w w.heap.size A xs ∧ ∀ x ∈ xs, U64 x :=
  vals_open U64 ht hC (fun v n y hy => by
    obtain ⟨z, e1, _, wf⟩ := DataW.trod_int he hy
    simp only [List.cons.injEq, and_true] at e1
    subst e1
    have ⟨b1, b2⟩ := bounds_u64 wf
    exact ⟨z.toNat, by congr 1; omega, by omega⟩) hv h
theorem i64s_open {t e : TypeId} {v : Value} {d : DataW H} {p : List MemPlace} {r : Reach} {b0 : Nat} (ht : P.underlying t = some (.slice e)) (hC : P.cellsOf e = 1) (he : P.underlying e = some (.int .i64))
    (hv : Value.okWide P w r b0 t v) (h : DataW.Trod enc P w base spare held t v d p) : ∃ A n c xs, v = .slice A n c ∧ n = xs.length ∧ n ≤ maxLen ∧ Vals w w.heap.size A xs ∧ ∀ x ∈ xs, I64 x :=
  vals_open I64 ht hC (fun v n y hy => by
    obtain ⟨z, e1, _, wf⟩ := DataW.trod_int he hy
    simp only [List.cons.injEq, and_true] at e1
    subst e1
    have ⟨b1, b2⟩ := bounds_i64 wf
    exact ⟨z, rfl, by omega, by omega⟩) hv h
theorem bools_open {t e : TypeId} {v : Value} {d : DataW H} {p : List MemPlace} {r : Reach} {b0 : Nat} (ht : P.underlying t = some (.slice e)) (hC : P.cellsOf e = 1) (he : P.underlying e = some .bool)
    (hv : Value.okWide P w r b0 t v) (h : DataW.Trod enc P w base spare held t v d p) : ∃ A n c xs, v = .slice A n c ∧ n = xs.length ∧ n ≤ maxLen ∧ Vals w w.heap.size A xs ∧ ∀ x ∈ xs, IsBool x :=
  vals_open IsBool ht hC (fun v n y hy => by
    obtain ⟨z, e1, _⟩ := DataW.trod_bool he hy
    simp only [List.cons.injEq, and_true] at e1
    subst e1
    exact ⟨z, rfl⟩) hv h
end
end Kin
namespace Kin
open Go Go.RowKit Go.ChangeShapes Go.WideShapes Go.ChangeAt

theorem bytc_trod {H : Type} {enc : TypeId × Value → H} {P : Program} {W : World} {base : Nat} {spare : Nat → Bool} {held : Bool} {t e : TypeId} {v : Value} {fuel : Nat} {x : DataW H × List MemPlace}
    (ht : IsBytes P t e) (hc : P.cellsOf e = 1) (hf : DataW.trod enc P W base spare held fuel t [v] = some x) :
    ∃ A n c l, v = .slice A n c ∧ n = l.length ∧ n ≤ maxLen ∧ n ≤ c ∧ Byt W W.heap.size A l := by
  rcases open_ints ht.1 ht.2.1 hc hf with ⟨hcs, _⟩ | ⟨y, n, c, zs, hcs, _, hl, hm, hz, _, hcell, hwz⟩
  · simp at hcs
    subst hcs
    exact ⟨none, 0, 0, [], rfl, rfl, Nat.zero_le _, Nat.le_refl _, Byt.nil⟩
  · simp at hcs
    subst hcs
    have hlen : n ≤ zs.length := by rw [hz]; split <;> omega
    refine ⟨some y, n, c, (zs.take n).map fun z => UInt8.ofNat z.toNat, rfl, by simp; omega, by omega, hl, fun hpos => ?_⟩
    simp at hpos
    obtain ⟨b, off, spot⟩ := y
    have hc0 := hcell 0 (by omega)
    have hspot : spot = none := by simpa [Addr.add] using World.cell?_spot hc0
    subst hspot
    refine ⟨b, off, rfl, ?_, fun j x hx => ?_⟩
    · have := block_lt_of_cell hc0
      simpa [Addr.add] using this
    · rw [List.getElem?_map] at hx
      rcases hj : (zs.take n)[j]? with _ | z
      · rw [hj] at hx; cases hx
      · rw [hj] at hx
        injection hx with hx
        have hjn : j < n := by
          have := (List.getElem?_eq_some_iff.1 hj).1
          simp at this; omega
        rw [List.getElem?_take_of_lt hjn] at hj
        have hjz := (List.getElem?_eq_some_iff.1 hj).1
        have hcj := hcell j hjz
        rw [Addr.add_lit] at hcj
        have hg : zs.getD j 0 = z := by simp [List.getD, hj]
        rw [hcj, hg, ← hx, u8_of_wf (hwz z (List.mem_of_getElem? hj))]
theorem bytc_open {H : Type} {enc : TypeId × Value → H} {P : Program} {W : World} {base : Nat} {spare : Nat → Bool} {held : Bool} {t e : TypeId} {v : Value} {d : DataW H} {p : List MemPlace} {r : Reach} {b0 : Nat}
    (ht : IsBytes P t e) (hc : P.cellsOf e = 1) (hv : Value.okWide P W r b0 t v) (h : DataW.Trod enc P W base spare held t v d p) :
    ∃ A n c l, v = .slice A n c ∧ n = l.length ∧ n ≤ maxLen ∧ n ≤ c ∧ Byt W W.heap.size A l := by
  obtain ⟨A, n, c, rfl⟩ := okWide_slice ht.1 hv
  obtain ⟨fuel, hf⟩ := h
  exact bytc_trod ht hc hf
end Kin
