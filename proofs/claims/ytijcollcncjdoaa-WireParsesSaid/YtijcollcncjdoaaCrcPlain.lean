/- Plain facts on the 32-bit sums: the register's step is linear and one-to-one; the table's way is eight steps. No program here; no conditions. -/
namespace Kin.Crc

def poly : Nat := 3988292384
/-- one step of the register -/
def stp (r : Nat) : Nat := if r % 2 = 1 then (r / 2) ^^^ 3988292384 else r / 2
def stpN : Nat → Nat → Nat
  | 0, r => r
  | n + 1, r => stpN n (stp r)
def tab (i : Nat) : Nat := stpN 8 i
def upd (r b : Nat) : Nat := tab ((r % 256) ^^^ b) ^^^ (r / 256)
def fold (r : Nat) (l : List UInt8) : Nat := l.foldl (fun r b => upd r b.toNat) r
def more (s : Nat) (l : List UInt8) : Nat := 4294967295 - fold (4294967295 - s) l
def sum (l : List UInt8) : Nat := more 0 l

theorem stpN_add (a b r : Nat) : stpN (a + b) r = stpN b (stpN a r) := by
  induction a generalizing r with
  | zero => simp [stpN]
  | succ a ih => rw [Nat.succ_add]; exact ih _
theorem stpN_succ (n r : Nat) : stpN (n + 1) r = stp (stpN n r) := stpN_add n 1 r

theorem stp_lt {r : Nat} (h : r < 4294967296) : stp r < 4294967296 := by
  unfold stp
  split
  · exact Nat.xor_lt_two_pow (n := 32) (by omega) (by omega)
  · omega
theorem stpN_lt {n r : Nat} (h : r < 4294967296) : stpN n r < 4294967296 := by
  induction n generalizing r with
  | zero => exact h
  | succ n ih => exact ih (stp_lt h)
theorem tab_lt {i : Nat} (h : i < 4294967296) : tab i < 4294967296 := stpN_lt h
theorem upd_lt {r b : Nat} (hr : r < 4294967296) (hb : b < 256) : upd r b < 4294967296 := by
  unfold upd
  have h1 : r % 256 ^^^ b < 2 ^ 8 := Nat.xor_lt_two_pow (by omega) (by omega)
  exact Nat.xor_lt_two_pow (n := 32) (tab_lt (by omega)) (by omega)
theorem fold_lt {l : List UInt8} {r : Nat} (hr : r < 4294967296) : fold r l < 4294967296 := by
  unfold fold
  induction l generalizing r with
  | nil => exact hr
  | cons b l ih => exact ih (upd_lt hr b.toNat_lt)
theorem fold_snoc (r : Nat) (l : List UInt8) (b : UInt8) : fold r (l ++ [b]) = upd (fold r l) b.toNat := by simp [fold]
theorem fold_append (r : Nat) (l m : List UInt8) : fold r (l ++ m) = fold (fold r l) m := by simp [fold]
theorem more_lt (s : Nat) (l : List UInt8) : more s l < 4294967296 := by unfold more; omega

/- linear -/

theorem mod2_xor (a b : Nat) : (a ^^^ b) % 2 = (a % 2 + b % 2) % 2 := by
  have h := Nat.testBit_xor a b 0
  simp only [Nat.testBit_zero] at h
  rcases Nat.mod_two_eq_zero_or_one a with ha | ha <;> rcases Nat.mod_two_eq_zero_or_one b with hb | hb <;>
    rcases Nat.mod_two_eq_zero_or_one (a ^^^ b) with hc | hc <;> simp [ha, hb, hc] at h ⊢
theorem div2_xor (a b : Nat) : (a ^^^ b) / 2 = (a / 2) ^^^ (b / 2) := by
  apply Nat.eq_of_testBit_eq
  intro i
  simp [Nat.testBit_xor, Nat.testBit_div_two]
theorem stp_xor (a b : Nat) : stp (a ^^^ b) = stp a ^^^ stp b := by
  unfold stp
  rw [mod2_xor, div2_xor]
  rcases Nat.mod_two_eq_zero_or_one a with ha | ha <;> rcases Nat.mod_two_eq_zero_or_one b with hb | hb <;> simp only [ha, hb]
  · rfl
  · show a / 2 ^^^ b / 2 ^^^ 3988292384 = a / 2 ^^^ (b / 2 ^^^ 3988292384)
    rw [Nat.xor_assoc]
  · show a / 2 ^^^ b / 2 ^^^ 3988292384 = (a / 2 ^^^ 3988292384) ^^^ b / 2
    rw [Nat.xor_assoc, Nat.xor_assoc, Nat.xor_comm (b / 2)]
  · show a / 2 ^^^ b / 2 = (a / 2 ^^^ 3988292384) ^^^ (b / 2 ^^^ 3988292384)
    rw [Nat.xor_assoc, ← Nat.xor_assoc 3988292384, Nat.xor_comm 3988292384 (b / 2), Nat.xor_assoc (b / 2), Nat.xor_self, Nat.xor_zero]
theorem stpN_xor (n a b : Nat) : stpN n (a ^^^ b) = stpN n a ^^^ stpN n b := by
  induction n generalizing a b with
  | zero => rfl
  | succ n ih => show stpN n (stp (a ^^^ b)) = _; rw [stp_xor, ih]; rfl
theorem stpN_zero (n : Nat) : stpN n 0 = 0 := by
  induction n with
  | zero => rfl
  | succ n ih => exact ih

/- one-to-one -/

theorem stp_eq_zero {r : Nat} (h : r < 4294967296) (h0 : stp r = 0) : r = 0 := by
  unfold stp at h0
  split at h0
  · have h1 : Nat.testBit (r / 2 ^^^ 3988292384) 31 = true := by
      rw [Nat.testBit_xor, Nat.testBit_lt_two_pow (x := r / 2) (by omega)]
      decide
    rw [h0] at h1
    simp at h1
  · omega
theorem stpN_eq_zero {n r : Nat} (h : r < 4294967296) (h0 : stpN n r = 0) : r = 0 := by
  induction n generalizing r with
  | zero => exact h0
  | succ n ih => exact stp_eq_zero h (ih (stp_lt h) h0)

/- eight steps are one of the table's -/

theorem stp_double (q : Nat) : stp (2 * q) = q := by unfold stp; rw [if_neg (by omega)]; omega
theorem stpN8_shift (q : Nat) : stpN 8 (256 * q) = q := by
  show stp (stp (stp (stp (stp (stp (stp (stp (256 * q)))))))) = q
  rw [show 256 * q = 2 * (2 * (2 * (2 * (2 * (2 * (2 * (2 * q))))))) from by omega]
  simp only [stp_double]
theorem split8 (r : Nat) : r = (r % 256) ^^^ (256 * (r / 256)) := by
  apply Nat.eq_of_testBit_eq
  intro i
  rw [Nat.testBit_xor, show (256 : Nat) = 2 ^ 8 from rfl, Nat.testBit_mod_two_pow, Nat.testBit_two_pow_mul, Nat.testBit_div_two_pow]
  by_cases h : i < 8
  · simp [h, show ¬ 8 ≤ i from by omega]
  · simp [h, show 8 ≤ i from by omega]
theorem upd_eq (r b : Nat) : upd r b = stpN 8 (r ^^^ b) := by
  have e : r ^^^ b = (r % 256 ^^^ b) ^^^ (256 * (r / 256)) := by
    conv => lhs; rw [split8 r]
    rw [Nat.xor_assoc, Nat.xor_comm (256 * (r / 256)) b, Nat.xor_assoc]
  rw [e, stpN_xor, stpN8_shift]; rfl

/- the fold, linear -/

def xors : List UInt8 → List UInt8 → List UInt8
  | a :: l, b :: m => (a ^^^ b) :: xors l m
  | _, _ => []
theorem length_xors {l m : List UInt8} (h : l.length = m.length) : (xors l m).length = l.length := by
  induction l generalizing m with
  | nil => cases m <;> rfl
  | cons a l ih =>
    cases m with
    | nil => simp at h
    | cons b m => simp only [xors, List.length_cons]; rw [ih (by simpa using h)]
theorem getElem?_xors (l m : List UInt8) (i : Nat) : (xors l m)[i]? = (match l[i]?, m[i]? with | some a, some b => some (a ^^^ b) | _, _ => none) := by
  induction l generalizing m i with
  | nil => cases m <;> simp [xors]
  | cons a l ih =>
    cases m with
    | nil => simp only [xors, List.getElem?_nil]; split <;> simp_all
    | cons b m =>
      cases i with
      | zero => simp [xors]
      | succ i => simp only [xors, List.getElem?_cons_succ]; exact ih m i
theorem xor4 (a b c d : Nat) : (a ^^^ b) ^^^ (c ^^^ d) = (a ^^^ c) ^^^ (b ^^^ d) := by
  rw [Nat.xor_assoc, Nat.xor_assoc, ← Nat.xor_assoc b c d, Nat.xor_comm b c, Nat.xor_assoc c b d]
theorem upd_xor (r s a b : Nat) : upd (r ^^^ s) (a ^^^ b) = upd r a ^^^ upd s b := by
  rw [upd_eq, upd_eq, upd_eq, ← stpN_xor, xor4]
theorem fold_xor {l m : List UInt8} (h : l.length = m.length) (r s : Nat) : fold (r ^^^ s) (xors l m) = fold r l ^^^ fold s m := by
  induction l generalizing m r s with
  | nil =>
    cases m with
    | nil => rfl
    | cons b m => simp at h
  | cons a l ih =>
    cases m with
    | nil => simp at h
    | cons b m =>
      show fold (upd (r ^^^ s) (a ^^^ b).toNat) (xors l m) = fold (upd r a.toNat) l ^^^ fold (upd s b.toNat) m
      rw [UInt8.toNat_xor, upd_xor, ih (by simpa using h)]
theorem fold_zeros (n r : Nat) : fold r (List.replicate n 0) = stpN (8 * n) r := by
  induction n generalizing r with
  | zero => rfl
  | succ n ih =>
    show fold (upd r 0) (List.replicate n 0) = _
    rw [ih, upd_eq, Nat.xor_zero, ← stpN_add, show 8 + 8 * n = 8 * (n + 1) from by omega]

/- the turned number -/

theorem flip_xor (a : Nat) (h : a < 4294967296) : 4294967295 - a = a ^^^ 4294967295 := by
  have h2 : 4294967295 - a = 2 ^ 32 - (a + 1) := by omega
  rw [h2]
  apply Nat.eq_of_testBit_eq
  intro i
  rw [Nat.testBit_two_pow_sub_succ (by omega), Nat.testBit_xor, show (4294967295 : Nat) = 2 ^ 32 - 1 from rfl, Nat.testBit_two_pow_sub_one]
  by_cases hi : i < 32
  · simp [hi]
  · have : a.testBit i = false := Nat.testBit_lt_two_pow (Nat.lt_of_lt_of_le (show a < 2 ^ 32 from h) (Nat.pow_le_pow_right (by omega) (by omega)))
    simp [hi, this]

end Kin.Crc
