/- The boxes' small functions, each by its contract: which box is right, four bytes of a number and back, a copy of bytes. Conditions: a slice's length is a Go length. -/
import Derived.Test.YtjofojjinoipaaaRows
import Derived.Test.YtjofojjinoipaaaBoxMem
import Derived.Test.YtjofojjinoipaaaCut
import Derived.WalkKit
import Derived.WalkSpells
import Derived.WalkLawsBesides
import Derived.Laws.BitsAllLaws
import Derived.Laws.Shifts
import Derived.BigRegion
import Derived.BigQuiet
import Derived.Deep.QuietTactic
import Derived.Deep.WholeRow
import Derived.Outline
namespace Go.Proofs.Ytjofojjinoipaaa
open Go.RowKit Kin

theorem bytesT : IsBytes Try.prog 23 5 := isBytes_of Try.underlying23 Try.underlying5 (by kernel_rfl)
theorem boxesT : IsRows Try.prog 22 36 2 40 := isRows_of (z := .agg #[.string ⟨#[]⟩, .slice none 0 0]) Try.underlying22 (by decide) (by kernel_rfl) rfl

/-- a box as a value -/
abbrev boxV (t : ByteArray) (A : Option Addr) (n c : Nat) : Value := .agg #[.string t, .slice A n c]
/-- a test's answer -/
def RetBool (w : World) (b : Bool) : Ending → World → Prop := fun e w' => e = .returned (.bool b) ∧ Below w.heap.size w w'
/-- bytes of the call's own -/
def RetBytes (w : World) (l : List UInt8) : Ending → World → Prop := fun e w' => ∃ A n c, e = .returned (.slice A n c) ∧ Own8 w' 5 A n c l ∧ (∀ g, blkOf A = some g → w.heap.size ≤ g) ∧ Below w.heap.size w w'
def upto (t : ByteArray) (k : Nat) : Bool := (t.data.toList.take k).all Bx.okc
theorem upto_succ (t : ByteArray) (k : Nat) (h : k < t.size) : upto t (k + 1) = (upto t k && Bx.okc t[k]) := by
  unfold upto
  rw [List.take_add_one, List.all_append]
  have : t.data.toList[k]? = some t[k] := by
    rw [List.getElem?_eq_getElem (by simpa using h)]
    rfl
  rw [this]
  simp
theorem upto_all (t : ByteArray) (k : Nat) (h : t.size ≤ k) : upto t k = t.data.toList.all Bx.okc := by
  unfold upto
  rw [List.take_of_length_le (by simpa using h)]
theorem upto_more {t : ByteArray} {k : Nat} (h : upto t k = false) : t.data.toList.all Bx.okc = false := by
  unfold upto at h
  cases e : t.data.toList.all Bx.okc
  · rfl
  · rw [List.all_eq_true] at e
    have : (t.data.toList.take k).all Bx.okc = true := by
      rw [List.all_eq_true]; intro x hx; exact e x (List.mem_of_mem_take hx)
    rw [this] at h; cases h
theorem okc_yes {c : UInt8} {v : Nat} (h : c.toNat = v) (k : (97 ≤ v ∧ v ≤ 122) ∨ (48 ≤ v ∧ v ≤ 57)) : Bx.okc c = true := by
  unfold Bx.okc
  rw [h]
  simp
  omega
theorem okc_no {c : UInt8} {v : Nat} (h : c.toNat = v) (k : ¬ ((97 ≤ v ∧ v ≤ 122) ∨ (48 ≤ v ∧ v ≤ 57))) : Bx.okc c = false := by
  unfold Bx.okc
  rw [h]
  simp
  omega

set_option maxRecDepth 100000 in
set_option maxHeartbeats 1000000 in
theorem right_calls (t : ByteArray) (A : Option Addr) (n c : Nat) (w : World) (hm : n ≤ 9223372036854775807) :
    Calls Try.prog 17 #[boxV t A n c] w (RetBool w (Bx.right t n)) := by
  have b0 : Below w.heap.size w (w.alloc (.cells #[.string t, .slice A n c] 36)) := (Below.refl _ _).alloc (Nat.le_refl _) _
  have bk := Blk.new w 36 #[.string t, .slice A n c]
  by_cases h4 : t.size = 4 ∧ n ≤ 1048576
  · obtain ⟨h4, hn⟩ := h4
    have hR : Bx.right t n = t.data.toList.all Bx.okc := by simp [Bx.right, h4, hn]
    have HR := hide hR
    have HU := hide (upto_all t 4 (by omega))
    have hs4 : (t.size : Int) = 4 := by omega
    clear hR
    have HRN : Hid (∀ k, upto t (k + 1) = false → Bx.right t n = false) := by
      intro k hk
      rw [HR.out, upto_more hk]
    have c0 : (w.alloc (.cells #[.string t, .slice A n c] 36)).cell? ⟨w.heap.size, 0, none⟩ = some (.string t) := bk.cell 0
    go_enter Try.func17, Try.ntmps17
    go_wp2
    go_loopw [18] (fun iv wr => ∃ k : Nat, k ≤ 4 ∧ iv = .int .i64 (k : Int) ∧ upto t k = true ∧ wr = w.alloc (.cells #[.string t, .slice A n c] 36)) (fun iv _ => 4 - (intOf iv).toNat)
    case atStart => exact ⟨0, by omega, rfl, rfl, rfl⟩
    case round =>
      obtain ⟨k, hk, rfl, hu, rfl⟩ := hrel
      by_cases hlt : k < 4
      · have hkt : k < t.size := by omega
        have HS := hide (upto_succ t k hkt)
        rw [hu, Bool.true_and] at HS
        have HUk := hide hu
        clear hu
        have hi : (0 : Int) ≤ (k : Int) ∧ (k : Int) < (t.size : Int) := by omega
        have hx := (t[k]).toNat_lt
        obtain ⟨v, hv⟩ : ∃ v, (t[k]).toNat = v := ⟨_, rfl⟩
        have HV := hide hv
        rw [hv] at hx
        go_wp2
        all_goals (try clear hv)
        all_goals first
          | (go_ret; refine ⟨?_, b0⟩; rw [HRN.out k (by rw [HS.out]; exact okc_no HV.out (by omega))]; rfl)
          | (go_roundw; (case rel => exact ⟨k + 1, by omega, by go_num, by rw [HS.out]; exact okc_yes HV.out (by omega), trivial⟩); (case measure => simp [intOf]; omega))
      · obtain rfl : k = 4 := by omega
        have HT := hide (HR.out.trans (HU.out.symm.trans hu))
        clear hu hlt
        go_wp2
        go_ret
        exact ⟨by rw [HT.out]; rfl, b0⟩
  · have HR : Hid (Bx.right t n = false) := by
      unfold Bx.right
      by_cases h : t.size = 4
      · have : ¬ n ≤ 1048576 := fun k => h4 ⟨h, k⟩
        simp [this, Hid]
      · simp [h, Hid]
    have c0 : (w.alloc (.cells #[.string t, .slice A n c] 36)).cell? ⟨w.heap.size, 0, none⟩ = some (.string t) := bk.cell 0
    by_cases h : t.size = 4
    · have hn : ¬ n ≤ 1048576 := fun k => h4 ⟨h, k⟩
      have hs4 : (t.size : Int) = 4 := by omega
      have hn' : (1048576 : Int) < (n : Int) := by omega
      go_enter Try.func17, Try.ntmps17
      go_wp2
      go_ret
      exact ⟨by rw [HR.out]; rfl, b0⟩
    · have hs4 : ¬ (t.size : Int) = 4 := by omega
      go_enter Try.func17, Try.ntmps17
      go_wp2
      go_ret
      exact ⟨by rw [HR.out]; rfl, b0⟩

set_option maxRecDepth 100000 in
set_option maxHeartbeats 1000000 in
theorem refright_calls (t : ByteArray) (A : Option Addr) (n c : Nat) (w : World) (hm : n ≤ 9223372036854775807) (ht : t.size ≤ 9223372036854775807) :
    Calls Try.prog 18 #[boxV t A n c] w (RetBool w (Bx.right t n)) := by
  have b0 : Below w.heap.size w (w.alloc (.cells #[.string t, .slice A n c] 36)) := (Below.refl _ _).alloc (Nat.le_refl _) _
  have bk := Blk.new w 36 #[.string t, .slice A n c]
  have HU := hide (upto_all t t.size (Nat.le_refl _))
  have HRN : Hid (∀ k, upto t (k + 1) = false → Bx.right t n = false) := by
    intro k hk
    unfold Bx.right
    rw [upto_more hk, Bool.and_false]
  have c0 : (w.alloc (.cells #[.string t, .slice A n c] 36)).cell? ⟨w.heap.size, 0, none⟩ = some (.string t) := bk.cell 0
  go_enter Try.func18, Try.ntmps18
  go_wp2
  go_loopw [3] (fun iv wr => ∃ k : Nat, k ≤ t.size ∧ iv = .int .i64 (k : Int) ∧ upto t k = true ∧ wr = w.alloc (.cells #[.string t, .slice A n c] 36)) (fun iv _ => t.size - (intOf iv).toNat)
  case atStart => exact ⟨0, by omega, rfl, rfl, rfl⟩
  case round =>
      obtain ⟨k, hk, rfl, hu, rfl⟩ := hrel
      by_cases hlt : k < t.size
      · have hkt : k < t.size := by omega
        have HS := hide (upto_succ t k hkt)
        rw [hu, Bool.true_and] at HS
        have HUk := hide hu
        clear hu
        have hi : (0 : Int) ≤ (k : Int) ∧ (k : Int) < (t.size : Int) := by omega
        have hx := (t[k]).toNat_lt
        obtain ⟨v, hv⟩ : ∃ v, (t[k]).toNat = v := ⟨_, rfl⟩
        have HV := hide hv
        rw [hv] at hx
        go_wp2
        all_goals (try clear hv)
        all_goals first
          | (go_ret; refine ⟨?_, b0⟩; rw [HRN.out k (by rw [HS.out]; exact okc_no HV.out (by omega))]; rfl)
          | (go_roundw; (case rel => exact ⟨k + 1, by omega, by go_num, by rw [HS.out]; exact okc_yes HV.out (by omega), trivial⟩); (case measure => simp [intOf]; omega))
      · obtain rfl : k = t.size := by omega
        have HT : Hid (Bx.right t n = (decide (t.size = 4) && decide (n ≤ 1048576))) := by
          unfold Bx.right
          rw [← HU.out, hu, Bool.and_true]
          exact rfl
        clear hu hlt
        by_cases h4 : t.size = 4
        · have h4' : decide ((t.size : Int) = 4) = true := by simp; omega
          have hs : (t.size : Int) = 4 := by omega
          have hd : decide ((n : Int) ≤ 1048576) = decide (n ≤ 1048576) := by
            apply Bool.eq_iff_iff.2
            rw [decide_eq_true_iff, decide_eq_true_iff]
            omega
          have HD := hide hd
          rw [h4] at HT
          clear hd
          go_wp2
          go_ret
          refine ⟨?_, b0⟩
          rw [HT.out, ← HD.out]
          rfl
        · have h4' : decide ((t.size : Int) = 4) = false := by simp; omega
          have HT2 : Hid (Bx.right t n = false) := by rw [HT.out]; simp [h4, Hid]
          go_wp2
          go_ret
          exact ⟨by rw [HT2.out]; rfl, b0⟩
end Go.Proofs.Ytjofojjinoipaaa
