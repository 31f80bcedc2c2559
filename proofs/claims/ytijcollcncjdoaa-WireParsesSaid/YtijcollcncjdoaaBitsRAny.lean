/- Readers, the program's and the document's: get and align, of any width, by one contract each. Conditions: the objects are as the calls leave them; at most 2^40 bytes. -/
import Derived.Test.YtijcollcncjdoaaRef01Reader
namespace Go.Proofs.Ytijcollcncjdoaa
open Go.RowKit Kin

theorem row_drop (l : List UInt8) (f : Nat) : (Bit.row l).drop (8 * f) = Bit.row (l.drop f) := by
  apply List.ext_getElem?
  intro i
  rw [List.getElem?_drop]
  by_cases h : 8 * f + i < 8 * l.length
  · rw [Bit.row_at l h, Bit.row_at _ (by rw [List.length_drop]; omega)]
    congr 1
    unfold Bit.rbit
    rw [List.getD, List.getD, List.getElem?_drop, show (8 * f + i) / 8 = f + i / 8 from by omega, show (8 * f + i) % 8 = i % 8 from by omega]
  · rw [List.getElem?_eq_none (by rw [Bit.length_row]; omega), List.getElem?_eq_none (by rw [Bit.length_row, List.length_drop]; omega)]
theorem pack_drop (l : List UInt8) (f : Nat) : Bit.pack ((Bit.row l).drop (8 * f)) = l.drop f := by rw [row_drop, Bit.pack_row]
theorem get_row (l : List UInt8) (k n : Nat) (h : k + n ≤ 8 * l.length) : Bit.num (((Bit.row l).drop k).take n) = Bit.get l k n := by
  have := Bit.get_pack (Bit.row l) k n (by rw [Bit.length_row]; exact h)
  rw [Bit.pack_row] at this
  exact this.symm
theorem byte_tail : ∀ x : Fin 256, ∀ q : Fin 8, (x.val * 2 ^ q.val % 256 == 0) = ((List.range (8 - q.val)).all fun j => ! x.val.testBit (7 - (q.val + j))) := by decide +kernel
theorem restZero_row (l : List UInt8) (k : Nat) (hk : ¬ k % 8 = 0) (hl : k ≤ 8 * l.length) : restZero l k = Bit.restB (Bit.row l) k := by
  have hx : k / 8 < l.length := by omega
  have h := byte_tail ⟨(l[k / 8]).toNat, (l[k / 8]).toNat_lt⟩ ⟨k % 8, Nat.mod_lt _ (by omega)⟩
  unfold restZero Bit.restB
  rw [List.getD, List.getElem?_eq_getElem hx, Option.getD_some]
  simp only at h
  rw [h]
  have e : ((Bit.row l).drop k).take (8 * ((k + 7) / 8) - k) = (List.range (8 - k % 8)).map fun j => (l[k / 8]).toNat.testBit (7 - (k % 8 + j)) := by
    apply List.ext_getElem?
    intro i
    by_cases hi : i < 8 - k % 8
    · rw [List.getElem?_take_of_lt (by omega), List.getElem?_drop, Bit.row_at l (by omega), List.getElem?_map, List.getElem?_range hi, Option.map_some]
      congr 1
      unfold Bit.rbit
      rw [List.getD, show (k + i) / 8 = k / 8 from by omega, List.getElem?_eq_getElem hx, Option.getD_some, show (k + i) % 8 = k % 8 + i from by omega]
    · rw [List.getElem?_eq_none (by rw [List.length_take]; omega), List.getElem?_eq_none (by simp; omega)]
  rw [e, List.all_map]
  rfl
theorem restB_whole (B : List Bool) (k : Nat) (hk : k % 8 = 0) : Bit.restB B k = true := by
  unfold Bit.restB
  rw [show 8 * ((k + 7) / 8) - k = 0 from by omega]; rfl

/-- what a get of n bits, of L bits at k, answers -/
def getE (L k : Nat) (n : Int) : Int := if n < 0 ∨ 64 < n then 1 else if L < k + n.toNat then 11 else 0
def getV (l : List UInt8) (k : Nat) (n : Int) : Nat := if getE (8 * l.length) k n = 0 then Bit.get l k n.toNat else 0
def getK (L k : Nat) (n : Int) : Nat := if getE L k n = 0 then k + n.toNat else k
theorem getE_bad {L k : Nat} {n : Int} (h : n < 0 ∨ 64 < n) : getE L k n = 1 := if_pos h
theorem getE_short {L k n : Nat} (h : n ≤ 64) (hs : L < k + n) : getE L k n = 11 := by unfold getE; rw [if_neg (by omega), if_pos (by simpa using hs)]
theorem getE_ok {L k n : Nat} (h : n ≤ 64) (hs : k + n ≤ L) : getE L k n = 0 := by unfold getE; rw [if_neg (by omega), if_neg (by simp; omega)]
theorem getV_zero {l : List UInt8} {k : Nat} {n : Int} (h : getE (8 * l.length) k n ≠ 0) : getV l k n = 0 := if_neg h
theorem getK_zero {L k : Nat} {n : Int} (h : getE L k n ≠ 0) : getK L k n = k := if_neg h

theorem get_any (g r : Nat) (l : List UInt8) (k : Nat) (n : Int) (w : World) (h : ReaderIs w g r l k) :
    Calls Try.prog 57 #[.pointer (some ⟨g, 0, none⟩), .int .i64 n] w
      fun e w' => e = .returned (.tuple #[.int .u64 (getV l k n : Int), .int .i64 (getE (8 * l.length) k n)]) ∧ ReaderIs w' g r l (getK (8 * l.length) k n) ∧ Chg (One g) w w' := by
  by_cases hn : n < 0 ∨ 64 < n
  · have e := getE_bad (L := 8 * l.length) (k := k) hn
    rw [getV_zero (by rw [e]; omega), getK_zero (by rw [e]; omega), e]
    refine (get_bad g n w hn).mono ?_
    rintro e w' ⟨rfl, rfl⟩
    exact ⟨rfl, h, Chg.refl _ _⟩
  · obtain ⟨n, rfl⟩ : ∃ m : Nat, n = m := ⟨n.toNat, by omega⟩
    by_cases hs : 8 * l.length < k + n
    · have e := getE_short (show n ≤ 64 by omega) hs
      rw [getV_zero (by rw [e]; omega), getK_zero (by rw [e]; omega), e]
      refine (get_short g r l k n w h (by omega) hs).mono ?_
      rintro e w' ⟨rfl, hb⟩
      exact ⟨rfl, h.below hb, Chg.of_below hb⟩
    · have e := getE_ok (show n ≤ 64 by omega) (show k + n ≤ 8 * l.length by omega)
      refine (get_calls g r l k n w h (by omega) (by omega)).mono ?_
      rintro e' w' ⟨rfl, hr, hc⟩
      unfold getV getK
      rw [if_pos e, if_pos e, e, Int.toNat_natCast]
      exact ⟨rfl, hr, hc⟩
theorem ralign_any (g r : Nat) (l : List UInt8) (k : Nat) (w : World) (h : ReaderIs w g r l k) :
    Calls Try.prog 42 #[.pointer (some ⟨g, 0, none⟩)] w
      fun e w' => e = .returned (.int .i64 (alE (Bit.restB (Bit.row l) k))) ∧ ReaderIs w' g r l (alK (Bit.restB (Bit.row l) k) k) ∧ Chg (One g) w w' := by
  have hk8 := h.2.2.1
  by_cases hk : k % 8 = 0
  · rw [restB_whole _ _ hk, show alK true k = k from by unfold alK; rw [if_pos rfl]; omega]
    refine (ralign_whole g r l k w h hk).mono ?_
    rintro e w' ⟨rfl, rfl⟩
    exact ⟨rfl, h, Chg.refl _ _⟩
  · rw [← restZero_row l k hk hk8]
    cases hz : restZero l k
    · refine (ralign_no g r l k w h hk hz).mono ?_
      rintro e w' ⟨rfl, hb⟩
      exact ⟨rfl, h.below hb, Chg.of_below hb⟩
    · exact ralign_yes g r l k w h hk hz
end Go.Proofs.Ytijcollcncjdoaa
