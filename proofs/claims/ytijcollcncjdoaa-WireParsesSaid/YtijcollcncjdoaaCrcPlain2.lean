/- Plain laws on the 32-bit sums: a bit that is turned turns the sum by a known amount; sums are joined; two turned bits are told; bits together. No program here; the two bits' law is for at most 2400 bits. -/
import Derived.Test.YtijcollcncjdoaaCrcPlain
namespace Kin.Crc

theorem upd_shift (x y b : Nat) : upd (x ^^^ y) b = upd x b ^^^ stpN 8 y := by
  rw [upd_eq, upd_eq, ← stpN_xor, Nat.xor_assoc, Nat.xor_comm y b, ← Nat.xor_assoc]
theorem fold_shift (l : List UInt8) (x y : Nat) : fold (x ^^^ y) l = fold x l ^^^ stpN (8 * l.length) y := by
  induction l generalizing x y with
  | nil => rfl
  | cons b l ih =>
    show fold (upd (x ^^^ y) b.toNat) l = fold (upd x b.toNat) l ^^^ _
    rw [upd_shift, ih, ← stpN_add, List.length_cons, show 8 + 8 * l.length = 8 * (l.length + 1) from by omega]
theorem stpN_pow (j : Nat) : stpN j (2 ^ j) = 1 := by
  induction j with
  | zero => rfl
  | succ j ih =>
    show stpN j (stp (2 ^ (j + 1))) = 1
    rw [Nat.pow_succ, Nat.mul_comm, stp_double, ih]
theorem stpN_pow_le {m j : Nat} (h : j ≤ m) : stpN m (2 ^ j) = stpN (m - j) 1 := by
  conv => lhs; rw [show m = j + (m - j) from by omega]
  rw [stpN_add, stpN_pow]
theorem upd_zero (m : Nat) : upd 0 m = stpN 8 m := by rw [upd_eq, Nat.zero_xor]

/-- bit p of bytes turned -/
def flip (l : List UInt8) (p : Nat) : List UInt8 := l.set (p / 8) (l.getD (p / 8) 0 ^^^ UInt8.ofNat (2 ^ (p % 8)))
theorem length_flip (l : List UInt8) (p : Nat) : (flip l p).length = l.length := by simp [flip]
theorem fold_flip (l : List UInt8) (p r : Nat) (h : p < 8 * l.length) : fold r (flip l p) = fold r l ^^^ stpN (8 * l.length - p) 1 := by
  have hk : p / 8 < l.length := by omega
  have hl : l = l.take (p / 8) ++ (l[p / 8] :: l.drop (p / 8 + 1)) := by
    rw [← List.drop_eq_getElem_cons hk, List.take_append_drop]
  have hs : flip l p = l.take (p / 8) ++ ((l[p / 8] ^^^ UInt8.ofNat (2 ^ (p % 8))) :: l.drop (p / 8 + 1)) := by
    unfold flip
    rw [List.set_eq_take_append_cons_drop, if_pos hk]
    simp [List.getD, hk]
  rw [hs, fold_append]
  conv => rhs; rw [hl, fold_append]
  generalize fold r (l.take (p / 8)) = s
  show fold (upd s (l[p / 8] ^^^ UInt8.ofNat (2 ^ (p % 8))).toNat) _ = fold (upd s l[p / 8].toNat) _ ^^^ _
  have hp : p % 8 < 8 := Nat.mod_lt _ (by omega)
  have h2 : (UInt8.ofNat (2 ^ (p % 8))).toNat = 2 ^ (p % 8) := by
    rw [UInt8.toNat_ofNat_of_lt']
    exact Nat.pow_lt_pow_right (by omega) hp
  rw [UInt8.toNat_xor, h2]
  have e : upd s (l[p / 8].toNat ^^^ 2 ^ (p % 8)) = upd s l[p / 8].toNat ^^^ stpN (8 - p % 8) 1 := by
    rw [← stpN_pow_le (by omega), ← upd_zero, ← upd_xor, Nat.xor_zero]
  rw [e, fold_shift, ← stpN_add]
  congr 2
  simp only [List.length_append, List.length_take, List.length_cons, List.length_drop]
  omega

/-- sums are alike just if the registers are -/
theorem sum_eq (l m : List UInt8) : (sum l = sum m) ↔ fold 4294967295 l = fold 4294967295 m := by
  have h1 := fold_lt (l := l) (r := 4294967295) (by omega)
  have h2 := fold_lt (l := m) (r := 4294967295) (by omega)
  unfold sum more
  constructor
  · intro h; simp only [Nat.sub_zero] at h; omega
  · intro h; simp only [Nat.sub_zero, h]
theorem xor_eq_self (a b : Nat) : (a ^^^ b = a) ↔ b = 0 := by
  constructor
  · intro h
    have : a ^^^ (a ^^^ b) = a ^^^ a := by rw [h]
    rwa [← Nat.xor_assoc, Nat.xor_self, Nat.zero_xor] at this
  · rintro rfl; exact Nat.xor_zero _
theorem stpN_one_ne (n : Nat) : stpN n 1 ≠ 0 := fun h => by
  have := stpN_eq_zero (n := n) (r := 1) (by omega) h
  omega
theorem sum_flip (l : List UInt8) (p : Nat) (h : p < 8 * l.length) : sum (flip l p) ≠ sum l := by
  intro e
  rw [sum_eq, fold_flip l p _ h, xor_eq_self] at e
  exact stpN_one_ne _ e

/- the register's way back to 1 is long -/

def notOne : Nat → Nat → Bool
  | 0, _ => true
  | n + 1, r => (stp r != 1) && notOne n (stp r)
theorem notOne_sound (n r : Nat) (h : notOne n r = true) (d : Nat) (h0 : 0 < d) (hd : d ≤ n) : stpN d r ≠ 1 := by
  induction n generalizing r d with
  | zero => omega
  | succ n ih =>
    simp only [notOne, Bool.and_eq_true, bne_iff_ne] at h
    cases d with
    | zero => omega
    | succ d =>
      show stpN d (stp r) ≠ 1
      by_cases hd0 : d = 0
      · subst hd0; exact h.1
      · exact ih _ h.2 d (by omega) (by omega)
set_option maxRecDepth 100000 in
theorem notOne_2400 : notOne 2400 1 = true := by decide +kernel

theorem stpN_inj_lt {a b : Nat} (hab : a < b) (hd : b ≤ a + 2400) : stpN a 1 ≠ stpN b 1 := by
  intro e
  have h1 : stpN b 1 = stpN a (stpN (b - a) 1) := by rw [← stpN_add]; congr 1; omega
  rw [h1] at e
  have h2 : stpN a (1 ^^^ stpN (b - a) 1) = 0 := by rw [stpN_xor, ← e, Nat.xor_self]
  have h3 := stpN_eq_zero (Nat.xor_lt_two_pow (n := 32) (by omega) (stpN_lt (by omega))) h2
  have h4 : stpN (b - a) 1 = 1 := by
    have : 1 ^^^ (1 ^^^ stpN (b - a) 1) = 1 := by rw [h3, Nat.xor_zero]
    rwa [← Nat.xor_assoc, Nat.xor_self, Nat.zero_xor] at this
  exact notOne_sound 2400 1 notOne_2400 (b - a) (by omega) (by omega) h4
theorem sum_flip2 (l : List UInt8) (p q : Nat) (hl : l.length ≤ 300) (hp : p < 8 * l.length) (hq : q < 8 * l.length) (hne : p ≠ q) : sum (flip (flip l p) q) ≠ sum l := by
  intro e
  rw [sum_eq, fold_flip _ q _ (by rw [length_flip]; exact hq), fold_flip l p _ hp, length_flip, Nat.xor_assoc, xor_eq_self] at e
  have e2 : stpN (8 * l.length - p) 1 = stpN (8 * l.length - q) 1 := by
    have h := congrArg (stpN (8 * l.length - p) 1 ^^^ ·) e
    simp only [← Nat.xor_assoc, Nat.xor_self, Nat.zero_xor, Nat.xor_zero] at h
    exact h.symm
  rcases Nat.lt_or_gt_of_ne hne with h | h
  · exact stpN_inj_lt (a := 8 * l.length - q) (b := 8 * l.length - p) (by omega) (by omega) e2.symm
  · exact stpN_inj_lt (a := 8 * l.length - p) (b := 8 * l.length - q) (by omega) (by omega) e2

/- a burst of bits -/

theorem mod_pow_succ (x j : Nat) : x % 2 ^ (j + 1) = if x / 2 ^ j % 2 = 1 then (x % 2 ^ j) ^^^ 2 ^ j else x % 2 ^ j := by
  apply Nat.eq_of_testBit_eq
  intro i
  have hb : x.testBit j = decide (x / 2 ^ j % 2 = 1) := by rw [Nat.testBit, Nat.shiftRight_eq_div_pow, Nat.one_and_eq_mod_two]; rcases Nat.mod_two_eq_zero_or_one (x / 2 ^ j) with h | h <;> simp [h]
  rw [Nat.testBit_mod_two_pow]
  split
  · rename_i h
    rw [Nat.testBit_xor, Nat.testBit_mod_two_pow, Nat.testBit_two_pow]
    by_cases e : i = j
    · subst e; simp [hb, h]
    · by_cases hi : i < j
      · simp [hi, show i < j + 1 from by omega, Ne.symm e]
      · simp [hi, show ¬ i < j + 1 from by omega, Ne.symm e]
  · rename_i h
    rw [Nat.testBit_mod_two_pow]
    by_cases e : i = j
    · subst e; simp [hb, h]
    · by_cases hi : i < j
      · simp [hi, show i < j + 1 from by omega]
      · simp [hi, show ¬ i < j + 1 from by omega]
/-- the bytes m are l but for bits whose sum is that of the low j bits of x, laid from the bit 'at' on -/
def Burst (l m : List UInt8) (p x j : Nat) : Prop := m.length = l.length ∧ fold 4294967295 m = fold 4294967295 l ^^^ stpN (8 * l.length - p) (x % 2 ^ j)
theorem Burst.zero (l : List UInt8) (p x : Nat) : Burst l l p x 0 := ⟨rfl, by rw [Nat.pow_zero, Nat.mod_one, stpN_zero, Nat.xor_zero]⟩
theorem Burst.no {l m : List UInt8} {p x j : Nat} (h : Burst l m p x j) (hb : ¬ x / 2 ^ j % 2 = 1) : Burst l m p x (j + 1) := ⟨h.1, by rw [h.2, mod_pow_succ, if_neg hb]⟩
theorem Burst.yes {l m : List UInt8} {p x j : Nat} (h : Burst l m p x j) (hb : x / 2 ^ j % 2 = 1) (hp : p + j < 8 * l.length) : Burst l (flip m (p + j)) p x (j + 1) := by
  refine ⟨by rw [length_flip, h.1], ?_⟩
  rw [fold_flip _ _ _ (by rw [h.1]; exact hp), h.2, h.1, mod_pow_succ, if_pos hb, stpN_xor, Nat.xor_assoc, stpN_pow_le (m := 8 * l.length - p) (j := j) (by omega), show 8 * l.length - (p + j) = 8 * l.length - p - j from by omega]
theorem Burst.told {l m : List UInt8} {p x : Nat} (hx : x < 4294967296) (h : Burst l m p x 32) : (sum m = sum l) ↔ x = 0 := by
  rw [sum_eq, h.2, xor_eq_self, Nat.mod_eq_of_lt (show x < 2 ^ 32 from hx)]
  constructor
  · intro e; exact stpN_eq_zero hx e
  · rintro rfl; exact stpN_zero _

/- sums and noughts, joined -/

def zeros (s n : Nat) : Nat := 4294967295 - stpN (8 * n) (4294967295 - s)
theorem zeros_more (s n : Nat) : zeros s n = more s (List.replicate n 0) := by unfold zeros more; rw [fold_zeros]
theorem more_more (s : Nat) (hs : s < 4294967296) (l m : List UInt8) : more (more s l) m = more s (l ++ m) := by
  unfold more
  have h := fold_lt (l := l) (r := 4294967295 - s) (by omega)
  rw [show 4294967295 - (4294967295 - fold (4294967295 - s) l) = fold (4294967295 - s) l from by omega, fold_append]
theorem sum_append (l m : List UInt8) : more (sum l) m = sum (l ++ m) := more_more 0 (by omega) l m
theorem sum_zeros (l : List UInt8) (n : Nat) : zeros (sum l) n = sum (l ++ List.replicate n 0) := by rw [zeros_more, sum_append]
theorem more_lt' (s : Nat) (l : List UInt8) : more s l < 4294967296 := more_lt s l
theorem sum_lt (l : List UInt8) : sum l < 4294967296 := more_lt 0 l
theorem zeros_lt (s n : Nat) : zeros s n < 4294967296 := by unfold zeros; omega
theorem flip2 (a : Nat) (h : a < 4294967296) : (4294967295 - a) ^^^ 4294967295 = a := by rw [flip_xor a h, Nat.xor_assoc, Nat.xor_self, Nat.xor_zero]
/-- what Join adds -/
def join (a b n : Nat) : Nat := zeros a n ^^^ zeros 0 n ^^^ b
theorem sum_join (l m : List UInt8) : join (sum l) (sum m) m.length = sum (l ++ m) := by
  have hl := fold_lt (l := l) (r := 4294967295) (by omega)
  have hm := fold_lt (l := m) (r := 4294967295) (by omega)
  unfold join zeros sum more
  simp only [Nat.sub_zero]
  rw [show 4294967295 - (4294967295 - fold 4294967295 l) = fold 4294967295 l from by omega, fold_append]
  generalize fold 4294967295 l = x at *
  have e : fold x m = fold 4294967295 m ^^^ stpN (8 * m.length) (x ^^^ 4294967295) := by
    have h := fold_shift m 4294967295 (x ^^^ 4294967295)
    rwa [Nat.xor_comm x, ← Nat.xor_assoc, Nat.xor_self, Nat.zero_xor, Nat.xor_comm 4294967295 x] at h
  have hfx := fold_lt (l := m) hl
  have h1 := stpN_lt (n := 8 * m.length) hl
  have h2 := stpN_lt (n := 8 * m.length) (r := 4294967295) (by omega)
  rw [flip_xor _ hfx, e, stpN_xor]
  generalize fold 4294967295 m = c at *
  generalize stpN (8 * m.length) x = a at *
  generalize stpN (8 * m.length) 4294967295 = b at *
  rw [flip_xor a h1, flip_xor b h2, flip_xor c hm]
  rw [xor4 a 4294967295 b 4294967295, Nat.xor_self, Nat.xor_zero, Nat.xor_comm (a ^^^ b), Nat.xor_assoc c, Nat.xor_comm 4294967295, Nat.xor_assoc c]

/- bits together -/

theorem sum_three {a b c : List UInt8} (hb : b.length = a.length) (hc : c.length = a.length) : sum (xors (xors a b) c) = sum a ^^^ sum b ^^^ sum c := by
  have h : fold 4294967295 (xors (xors a b) c) = fold 4294967295 a ^^^ fold 4294967295 b ^^^ fold 4294967295 c := by
    have e : (4294967295 : Nat) = (4294967295 ^^^ 4294967295) ^^^ 4294967295 := by decide
    conv => lhs; rw [e]
    rw [fold_xor (by rw [length_xors hb.symm, hc]), fold_xor hb.symm]
  have h0 : ∀ l : List UInt8, sum l = fold 4294967295 l ^^^ 4294967295 := fun l => by
    unfold sum more
    simp only [Nat.sub_zero]
    exact flip_xor _ (fold_lt (by omega))
  rw [h0, h0, h0, h0, h]
  generalize fold 4294967295 a = x
  generalize fold 4294967295 b = y
  generalize fold 4294967295 c = z
  rw [xor4 x 4294967295 y 4294967295, Nat.xor_self, Nat.xor_zero, Nat.xor_assoc (x ^^^ y)]
theorem sum_pairs {a b c : List UInt8} (hb : b.length = a.length) (hc : c.length = a.length) : sum a ^^^ sum (xors a c) = sum b ^^^ sum (xors b c) := by
  have h0 : ∀ l : List UInt8, sum l = fold 4294967295 l ^^^ 4294967295 := fun l => by
    unfold sum more
    simp only [Nat.sub_zero]
    exact flip_xor _ (fold_lt (by omega))
  have key : ∀ l : List UInt8, c.length = l.length → sum l ^^^ sum (xors l c) = fold 0 c := fun l hl => by
    have h : fold 4294967295 (xors l c) = fold 4294967295 l ^^^ fold 0 c := by
      have := fold_xor hl.symm 4294967295 0
      rwa [Nat.xor_zero] at this
    rw [h0, h0, h, xor4, Nat.xor_self, Nat.xor_zero, ← Nat.xor_assoc, Nat.xor_self, Nat.zero_xor]
  rw [key a hc, key b (by rw [hc, hb])]
end Kin.Crc
