/- Plain: long division bit by bit (the document's sums) and the register's way agree. No program here; no conditions. -/
import Derived.Test.YtijcollcncjdoaaCrcPlain2
namespace Kin.Crc

/-- the remainder's bit i -/
def bit (r i : Nat) : Nat := r / 2 ^ i % 2
theorem bit_le (r i : Nat) : bit r i ≤ 1 := by unfold bit; omega
theorem bit_testBit (r i : Nat) : bit r i = if r.testBit i then 1 else 0 := by
  unfold bit
  rw [Nat.testBit, Nat.shiftRight_eq_div_pow, Nat.one_and_eq_mod_two]
  rcases Nat.mod_two_eq_zero_or_one (r / 2 ^ i) with h | h <;> simp [h]
theorem bit_xor (a b i : Nat) : bit (a ^^^ b) i = if bit a i = bit b i then 0 else 1 := by
  rw [bit_testBit, bit_testBit, bit_testBit, Nat.testBit_xor]
  cases a.testBit i <;> cases b.testBit i <;> simp
theorem bit_pow (j i : Nat) : bit (2 ^ j) i = if i = j then 1 else 0 := by
  rw [bit_testBit, Nat.testBit_two_pow]
  by_cases h : j = i
  · simp [h]
  · simp [h, Ne.symm h]
theorem bit_flip (x j i : Nat) : bit (x ^^^ 2 ^ j) i = if i = j then 1 - bit x i else bit x i := by
  rw [bit_xor, bit_pow]
  have := bit_le x i
  by_cases h : i = j
  · rw [if_pos h, if_pos h]
    split <;> omega
  · rw [if_neg h, if_neg h]
    split <;> omega
theorem bit_div (r i : Nat) : bit (r / 2) i = bit r (i + 1) := by
  unfold bit
  rw [Nat.div_div_eq_div_mul, Nat.pow_succ, Nat.mul_comm]
theorem bit_not {r i : Nat} (h : r < 4294967296) (hi : i < 32) : bit (4294967295 - r) i = 1 - bit r i := by
  rw [flip_xor r h, bit_xor]
  have h1 : bit 4294967295 i = 1 := by
    rw [bit_testBit, show (4294967295 : Nat) = 2 ^ 32 - 1 from rfl, Nat.testBit_two_pow_sub_one]
    simp [hi]
  rw [h1]
  have := bit_le r i
  split <;> omega

/-- one step of the division: a factor more -/
def dstep (r b : Nat) : Nat := if r % 2 = 1 then (r / 2 + b * 2147483648) ^^^ 3988292384 else r / 2 + b * 2147483648
def divide (l : List UInt8) : Nat := l.foldl (fun r b => dstep r b.toNat) 0
theorem dshift_lt {r b : Nat} (hr : r < 4294967296) (hb : b ≤ 1) : r / 2 + b * 2147483648 < 4294967296 := by omega
theorem dstep_lt {r b : Nat} (hr : r < 4294967296) (hb : b ≤ 1) : dstep r b < 4294967296 := by
  unfold dstep
  split
  · exact Nat.xor_lt_two_pow (n := 32) (dshift_lt hr hb) (by omega)
  · exact dshift_lt hr hb
theorem dshift_bit {r b i : Nat} (hr : r < 4294967296) (hb : b ≤ 1) (hi : i < 32) : bit (r / 2 + b * 2147483648) i = if i < 31 then bit r (i + 1) else b := by
  by_cases h : i < 31
  · rw [if_pos h, ← bit_div]
    unfold bit
    rw [show b * 2147483648 = 2 ^ i * (b * 2 ^ (31 - i)) from by
      rw [show (2147483648 : Nat) = 2 ^ 31 from rfl, show (31 : Nat) = i + (31 - i) from by omega, Nat.pow_add]
      rw [show i + (31 - i) - i = 31 - i from by omega]
      rw [Nat.mul_left_comm]]
    rw [Nat.add_mul_div_left _ _ (Nat.two_pow_pos i)]
    rw [show 31 - i = (30 - i) + 1 from by omega, Nat.pow_succ, ← Nat.mul_assoc]
    omega
  · rw [if_neg h]
    obtain rfl : i = 31 := by omega
    unfold bit
    show (r / 2 + b * 2147483648) / 2147483648 % 2 = b
    omega
theorem divide_snoc (l : List UInt8) (b : UInt8) : divide (l ++ [b]) = dstep (divide l) b.toNat := by simp [divide]
def Bits01 (l : List UInt8) : Prop := ∀ b ∈ l, b.toNat ≤ 1
theorem fold_dstep_lt {l : List UInt8} (h : Bits01 l) {r : Nat} (hr : r < 4294967296) : l.foldl (fun r b => dstep r b.toNat) r < 4294967296 := by
  induction l generalizing r with
  | nil => exact hr
  | cons b l ih => exact ih (fun x hx => h x (by simp [hx])) (dstep_lt hr (h b (by simp)))
theorem divide_lt {l : List UInt8} (h : Bits01 l) : divide l < 4294967296 := fold_dstep_lt h (by omega)

/- division against the register -/

theorem add_top {q b : Nat} (hq : q < 2147483648) (hb : b ≤ 1) : q + b * 2147483648 = q ^^^ (b * 2147483648) := by
  have h1 : b = 0 ∨ b = 1 := by omega
  rcases h1 with rfl | rfl
  · simp
  · have h : q < 2 ^ 31 := hq
    have e := Nat.two_pow_add_eq_or_of_lt h 1
    rw [Nat.mul_one] at e
    show q + 1 * 2 ^ 31 = q ^^^ (1 * 2 ^ 31)
    rw [Nat.one_mul, Nat.add_comm, e]
    apply Nat.eq_of_testBit_eq
    intro i
    rw [Nat.testBit_or, Nat.testBit_xor, Nat.testBit_two_pow]
    by_cases hi : 31 = i
    · subst hi
      rw [Nat.testBit_lt_two_pow h]; rfl
    · simp [hi]
theorem dstep_eq {r b : Nat} (hr : r < 4294967296) (hb : b ≤ 1) : dstep r b = stp r ^^^ (b * 2147483648) := by
  unfold dstep stp
  rw [add_top (by omega) hb]
  split
  · rw [Nat.xor_assoc, Nat.xor_assoc, Nat.xor_comm (b * 2147483648)]
  · rfl
/-- thirty-two steps with no factor -/
theorem top_in {b : Nat} (hb : b ≤ 1) : stpN 32 (b * 2147483648) = stp b := by
  have h1 : b = 0 ∨ b = 1 := by omega
  rcases h1 with rfl | rfl
  · rw [Nat.zero_mul, stpN_zero]; rfl
  · rw [Nat.one_mul, show (2147483648 : Nat) = 2 ^ 31 from by decide, stpN_pow_le (by omega)]
    rfl
/-- the register takes a bit -/
def sstep (s b : Nat) : Nat := stp (s ^^^ b)
theorem stpN_comm (n r : Nat) : stpN n (stp r) = stp (stpN n r) := by rw [← stpN_succ]; rfl
theorem delay {r b : Nat} (hr : r < 4294967296) (hb : b ≤ 1) : stpN 32 (dstep r b) = sstep (stpN 32 r) b := by
  rw [dstep_eq hr hb, stpN_xor, stpN_comm, top_in hb, sstep, stp_xor]
theorem delay_fold {l : List UInt8} (h : Bits01 l) {r : Nat} (hr : r < 4294967296) :
    stpN 32 (l.foldl (fun r b => dstep r b.toNat) r) = l.foldl (fun s b => sstep s b.toNat) (stpN 32 r) := by
  induction l generalizing r with
  | nil => simp only [List.foldl_nil]
  | cons b l ih =>
    have hb := h b (by simp)
    simp only [List.foldl_cons]
    rw [ih (fun x hx => h x (by simp [hx])) (dstep_lt hr hb), delay hr hb]
theorem fold_zeros_dstep (n r : Nat) (hr : r < 4294967296) : (List.replicate n (0 : UInt8)).foldl (fun r b => dstep r b.toNat) r = stpN n r := by
  induction n generalizing r with
  | zero => rfl
  | succ n ih =>
    rw [List.replicate_succ, List.foldl_cons]
    show List.foldl _ (dstep r 0) _ = stpN n (stp r)
    rw [dstep_eq hr (by omega), Nat.zero_mul, Nat.xor_zero]
    exact ih _ (stp_lt hr)
/-- with thirty-two noughts behind, the division is the register's way -/
theorem divide_zeros {l : List UInt8} (h : Bits01 l) : divide (l ++ List.replicate 32 0) = l.foldl (fun s b => sstep s b.toNat) 0 := by
  unfold divide
  rw [List.foldl_append, fold_zeros_dstep _ _ (fold_dstep_lt h (by omega)), delay_fold h (by omega), stpN_zero]

/- the bits of bytes -/

def bitsOf (l : List UInt8) : List UInt8 := l.flatMap fun b => (List.range 8).map fun k => UInt8.ofNat (b.toNat / 2 ^ k % 2)
theorem length_bitsOf (l : List UInt8) : (bitsOf l).length = 8 * l.length := by
  induction l with
  | nil => rfl
  | cons b l ih =>
    have : (bitsOf (b :: l)).length = 8 + (bitsOf l).length := by simp [bitsOf]
    rw [this, ih, List.length_cons]; omega
theorem bitsOf_snoc (l : List UInt8) (b : UInt8) : bitsOf (l ++ [b]) = bitsOf l ++ (List.range 8).map fun k => UInt8.ofNat (b.toNat / 2 ^ k % 2) := by simp [bitsOf]
theorem bits01_bitsOf (l : List UInt8) : Bits01 (bitsOf l) := by
  intro x hx
  unfold bitsOf at hx
  rw [List.mem_flatMap] at hx
  obtain ⟨b, _, hx⟩ := hx
  rw [List.mem_map] at hx
  obtain ⟨k, _, rfl⟩ := hx
  rw [UInt8.toNat_ofNat_of_lt' (by show _ < 256; omega)]
  omega
theorem sstep8 (s b : Nat) (hb : b < 256) :
    sstep (sstep (sstep (sstep (sstep (sstep (sstep (sstep s (b / 2 ^ 0 % 2)) (b / 2 ^ 1 % 2)) (b / 2 ^ 2 % 2)) (b / 2 ^ 3 % 2)) (b / 2 ^ 4 % 2)) (b / 2 ^ 5 % 2)) (b / 2 ^ 6 % 2)) (b / 2 ^ 7 % 2) = upd s b := by
  have key : ∀ (j x : Nat) (s : Nat), sstep (s ^^^ (2 * x)) (j % 2) = sstep s (j % 2) ^^^ x := fun j x s => by
    unfold sstep
    rw [Nat.xor_assoc, Nat.xor_comm (2 * x), ← Nat.xor_assoc, stp_xor, stp_double]
  have two : ∀ x : Nat, x = (x % 2) ^^^ (2 * (x / 2)) := fun x => by
    apply Nat.eq_of_testBit_eq
    intro i
    rw [Nat.testBit_xor]
    cases i with
    | zero =>
      rw [show (2 : Nat) * (x / 2) = 2 ^ 1 * (x / 2) from rfl, Nat.testBit_two_pow_mul]
      simp
    | succ i =>
      rw [show (2 : Nat) * (x / 2) = 2 ^ 1 * (x / 2) from rfl, Nat.testBit_two_pow_mul, show x % 2 = x % 2 ^ 1 from rfl, Nat.testBit_mod_two_pow]
      simp [Nat.testBit_div_two]
  have one : ∀ s x : Nat, stp (s ^^^ x) = sstep s (x % 2) ^^^ (x / 2) := fun s x => by
    conv => lhs; rw [two x]
    rw [← Nat.xor_assoc, stp_xor, stp_double]; rfl
  rw [upd_eq]
  show _ = stp (stp (stp (stp (stp (stp (stp (stp (s ^^^ b))))))))
  rw [one, one, one, one, one, one, one, one]
  simp only [Nat.div_div_eq_div_mul]
  rw [show b / (2 * 2 * 2 * 2 * 2 * 2 * 2 * 2) = 0 from by omega, Nat.xor_zero]
  simp only [show (2 : Nat) ^ 0 = 1 from rfl, show (2 : Nat) ^ 1 = 2 from rfl, show (2 : Nat) ^ 2 = 2 * 2 from rfl, show (2 : Nat) ^ 3 = 2 * 2 * 2 from rfl, show (2 : Nat) ^ 4 = 2 * 2 * 2 * 2 from rfl, show (2 : Nat) ^ 5 = 2 * 2 * 2 * 2 * 2 from rfl, show (2 : Nat) ^ 6 = 2 * 2 * 2 * 2 * 2 * 2 from rfl, show (2 : Nat) ^ 7 = 2 * 2 * 2 * 2 * 2 * 2 * 2 from rfl, Nat.div_one]
theorem sfold_bits (l : List UInt8) (s : Nat) : (bitsOf l).foldl (fun s b => sstep s b.toNat) s = fold s l := by
  induction l generalizing s with
  | nil => rfl
  | cons b l ih =>
    have e : bitsOf (b :: l) = ((List.range 8).map fun k => UInt8.ofNat (b.toNat / 2 ^ k % 2)) ++ bitsOf l := by simp [bitsOf]
    rw [e, List.foldl_append, ih]
    show fold _ l = fold (upd s b.toNat) l
    congr 1
    rw [← sstep8 s b.toNat b.toNat_lt]
    have h2 : ∀ x : Nat, (UInt8.ofNat (x % 2)).toNat = x % 2 := fun x => UInt8.toNat_ofNat_of_lt' (by show _ < 256; omega)
    simp only [show List.range 8 = [0, 1, 2, 3, 4, 5, 6, 7] from rfl, List.map_cons, List.map_nil, List.foldl_cons, List.foldl_nil, h2]

/- the division is linear -/

theorem dstep_xor {r s b c : Nat} (hr : r < 4294967296) (hs : s < 4294967296) (hb : b ≤ 1) (hc : c ≤ 1) : dstep (r ^^^ s) ((b + c) % 2) = dstep r b ^^^ dstep s c := by
  rw [dstep_eq hr hb, dstep_eq hs hc, dstep_eq (Nat.xor_lt_two_pow (n := 32) hr hs) (by omega), stp_xor, xor4]
  congr 1
  have h1 : b = 0 ∨ b = 1 := by omega
  have h2 : c = 0 ∨ c = 1 := by omega
  rcases h1 with rfl | rfl <;> rcases h2 with rfl | rfl <;> decide
theorem dfold_xor {c : List UInt8} (h : Bits01 c) {y z : Nat} (hy : y < 4294967296) (hz : z < 4294967296) :
    c.foldl (fun r b => dstep r b.toNat) (y ^^^ z) = c.foldl (fun r b => dstep r b.toNat) y ^^^ stpN c.length z := by
  induction c generalizing y z with
  | nil => simp only [List.foldl_nil, List.length_nil, stpN]
  | cons b c ih =>
    have hb := h b (by simp)
    have hc : Bits01 c := fun x hx => h x (by simp [hx])
    simp only [List.foldl_cons, List.length_cons]
    have e : dstep (y ^^^ z) b.toNat = dstep y b.toNat ^^^ stp z := by
      rw [dstep_eq (Nat.xor_lt_two_pow (n := 32) hy hz) hb, dstep_eq hy hb, stp_xor, Nat.xor_assoc, Nat.xor_assoc, Nat.xor_comm (stp z)]
    rw [e, ih hc (dstep_lt hy hb) (stp_lt hz)]
    rfl
/-- m is L but for the first j factors, turned by the bits of x -/
def Turned (L m : List UInt8) (x j : Nat) : Prop := m.length = L.length ∧ Bits01 m ∧ divide m = divide L ^^^ stpN (L.length - 32) (x % 2 ^ j)
theorem Turned.zero {L : List UInt8} (h : Bits01 L) (x : Nat) : Turned L L x 0 := ⟨rfl, h, by rw [Nat.pow_zero, Nat.mod_one, stpN_zero, Nat.xor_zero]⟩
theorem bits01_set {m : List UInt8} (h : Bits01 m) (j : Nat) {b : UInt8} (hb : b.toNat ≤ 1) : Bits01 (m.set j b) := by
  intro x hx
  rcases List.mem_or_eq_of_mem_set hx with h1 | h1
  · exact h x h1
  · rw [h1]; exact hb
theorem Turned.step {L m : List UInt8} {x j : Nat} (h : Turned L m x j) (hj : j < 32) (hL : 32 ≤ L.length) {b b' : UInt8} (hb : m[j]? = some b) (hb' : b'.toNat = (b.toNat + bit x j) % 2) : Turned L (m.set j b') x (j + 1) := by
  obtain ⟨h1, h2, h3⟩ := h
  have hjm : j < m.length := by rw [h1]; omega
  have hbj : m[j] = b := (List.getElem?_eq_some_iff.1 hb).2
  have hb1 : b.toNat ≤ 1 := h2 b (List.mem_of_getElem? hb)
  refine ⟨by simp [h1], bits01_set h2 j (by rw [hb']; omega), ?_⟩
  rw [mod_pow_succ]
  by_cases hx : x / 2 ^ j % 2 = 1
  · rw [if_pos hx, stpN_xor, ← Nat.xor_assoc, ← h3]
    have hm : m = m.take j ++ (b :: m.drop (j + 1)) := by rw [← hbj, ← List.drop_eq_getElem_cons hjm, List.take_append_drop]
    have hs : m.set j b' = m.take j ++ (b' :: m.drop (j + 1)) := by rw [List.set_eq_take_append_cons_drop, if_pos hjm]
    have hc : Bits01 (m.drop (j + 1)) := fun y hy => h2 y (List.mem_of_mem_drop hy)
    have ha : Bits01 (m.take j) := fun y hy => h2 y (List.mem_of_mem_take hy)
    have hr := fold_dstep_lt ha (r := 0) (by omega)
    rw [hs]
    conv => rhs; rw [hm]
    unfold divide
    rw [List.foldl_append, List.foldl_append, List.foldl_cons, List.foldl_cons]
    generalize (m.take j).foldl (fun r b => dstep r b.toNat) 0 = r at *
    have e : dstep r b'.toNat = dstep r b.toNat ^^^ 2147483648 := by
      rw [dstep_eq hr (by rw [hb']; omega), dstep_eq hr hb1, Nat.xor_assoc]
      congr 1
      have hbx : bit x j = 1 := hx
      rw [hb', hbx]
      have : b.toNat = 0 ∨ b.toNat = 1 := by omega
      rcases this with h | h <;> rw [h] <;> decide
    rw [e, dfold_xor hc (dstep_lt hr hb1) (by omega)]
    congr 1
    rw [List.length_drop, h1]
    have e2 : stpN (31 - j) 2147483648 = 2 ^ j := by
      have hp : (2147483648 : Nat) = 2 ^ (31 - j) * 2 ^ j := by rw [← Nat.pow_add, show 31 - j + j = 31 from by omega]
      rw [hp]
      generalize 2 ^ j = q
      generalize 31 - j = k
      induction k generalizing q with
      | zero => simp [stpN]
      | succ k ih =>
        show stpN k (stp (2 ^ (k + 1) * q)) = q
        rw [Nat.pow_succ, Nat.mul_comm (2 ^ k) 2, Nat.mul_assoc, stp_double]
        exact ih q
    rw [show L.length - (j + 1) = (31 - j) + (L.length - 32) from by omega, stpN_add, e2]
  · rw [if_neg hx, ← h3]
    have hbx : bit x j = 0 := by unfold bit; omega
    have : b' = b := by
      apply UInt8.toNat_inj.1
      rw [hb', hbx]; omega
    rw [this, ← hbj, List.set_getElem_self]
theorem Turned.sum {l m : List UInt8} {x : Nat} (hx : x < 4294967296) (h : Turned (bitsOf l ++ List.replicate 32 0) m x 32) : divide m = fold x l := by
  rw [h.2.2, divide_zeros (bits01_bitsOf l), sfold_bits, Nat.mod_eq_of_lt (show x < 2 ^ 32 from hx), List.length_append, List.length_replicate, length_bitsOf, Nat.add_sub_cancel]
  have := fold_shift l 0 x
  rw [Nat.zero_xor] at this
  exact this.symm
theorem bits01_L (l : List UInt8) : Bits01 (bitsOf l ++ List.replicate 32 0) := by
  intro x hx
  rcases List.mem_append.1 hx with h | h
  · exact bits01_bitsOf l x h
  · rw [List.eq_of_mem_replicate h]; decide
theorem entry_eq (b : UInt8) : divide (bitsOf [b] ++ List.replicate 32 0) = tab b.toNat := by
  rw [divide_zeros (bits01_bitsOf _), sfold_bits]
  show upd 0 b.toNat = tab b.toNat
  rw [upd_zero]; rfl
end Kin.Crc
