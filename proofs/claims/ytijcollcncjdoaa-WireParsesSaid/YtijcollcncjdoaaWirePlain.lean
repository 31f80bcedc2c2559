/- Requests and responses in plain words: which are right, and their bytes. No program here; no conditions. -/
import Derived.Test.YtijcollcncjdoaaConv
import Derived.Test.YtijcollcncjdoaaGolPlain
import Derived.Test.YtijcollcncjdoaaBitsPlain
import Derived.Test.YtijcollcncjdoaaCrcPlain
namespace Wi
open Kin

def okp (c : UInt8) : Bool := decide ((97 ≤ c.toNat ∧ c.toNat ≤ 122) ∨ (48 ≤ c.toNat ∧ c.toNat ≤ 57) ∨ c.toNat = 46 ∨ c.toNat = 47)
def upto (t : ByteArray) (k : Nat) : Bool := (t.data.toList.take k).all okp
def path (t : ByteArray) : Bool := decide (1 ≤ t.size ∧ t.size ≤ 60) && t.data.toList.all okp
def win (n a b : Int) : Bool := decide (a ≤ n ∧ n ≤ b)
def rq (id : Int) (p : ByteArray) (fr to : Int) : Bool := win id 0 1048575 && path p && win fr 0 1048576 && win to (-1) 1048576
def rr (id st fr sz : Int) (n : Nat) : Bool := win id 0 1048575 && win st 1 4 && win fr 0 1048576 && win sz 0 1048576 && decide (n ≤ 1048576)
def four (n : Nat) : List UInt8 := [UInt8.ofNat (n / 16777216), UInt8.ofNat (n / 65536), UInt8.ofNat (n / 256), UInt8.ofNat n]
def codes (vs : List Nat) : List Bool := vs.flatMap Gol.codeB
/-- what is ahead of the sum -/
def body (vs : List Nat) (t : List UInt8) : List UInt8 := Bit.pack (codes vs) ++ t
def wire (vs : List Nat) (t : List UInt8) : List UInt8 := body vs t ++ four (Crc.sum (body vs t))
theorem upto_succ (t : ByteArray) (k : Nat) (h : k < t.size) : upto t (k + 1) = (upto t k && okp t[k]) := by
  unfold upto
  rw [List.take_add_one, List.all_append]
  have : t.data.toList[k]? = some t[k] := by
    rw [List.getElem?_eq_getElem (by simpa using h)]
    rfl
  rw [this]
  simp
theorem upto_all (t : ByteArray) (k : Nat) (h : t.size ≤ k) : upto t k = t.data.toList.all okp := by
  unfold upto
  rw [List.take_of_length_le (by simpa using h)]
theorem upto_more {t : ByteArray} {k : Nat} (h : upto t k = false) : t.data.toList.all okp = false := by
  unfold upto at h
  cases e : t.data.toList.all okp
  · rfl
  · rw [List.all_eq_true] at e
    have : (t.data.toList.take k).all okp = true := by
      rw [List.all_eq_true]; intro x hx; exact e x (List.mem_of_mem_take hx)
    rw [this] at h; cases h
theorem okp_yes {c : UInt8} {v : Nat} (h : c.toNat = v) (k : (97 ≤ v ∧ v ≤ 122) ∨ (48 ≤ v ∧ v ≤ 57) ∨ v = 46 ∨ v = 47) : okp c = true := by
  unfold okp; rw [h]; exact decide_eq_true k
theorem okp_no {c : UInt8} {v : Nat} (h : c.toNat = v) (k : ¬ ((97 ≤ v ∧ v ≤ 122) ∨ (48 ≤ v ∧ v ≤ 57) ∨ v = 46 ∨ v = 47)) : okp c = false := by
  unfold okp; rw [h]; exact decide_eq_false k
theorem length_four (n : Nat) : (four n).length = 4 := rfl
theorem codes_snoc (vs : List Nat) (v : Nat) : codes (vs ++ [v]) = codes vs ++ Gol.codeB v := by simp [codes]
theorem u8m (n : Nat) : (UInt8.ofNat n).toNat = n % 256 := by simp
end Wi
