/- The statement CrcTurned, walked: it returns true and changes nothing that was there. Conditions: the slice reads as bytes. -/
import Derived.Test.YtohpbkkaboebdaaCrcTwoWalk
import Derived.OpenShut
namespace Go.Proofs.Ytohpbkkaboebdaa
open Go.RowKit Kin

theorem bit_yes {x j : Nat} (h : (((x : Int) / 2 ^ j).tmod 2 == 1) = true) : x / 2 ^ j % 2 = 1 := by
  have e : (x : Int) / 2 ^ j = ((x / 2 ^ j : Nat) : Int) := by simp
  rw [e] at h
  generalize x / 2 ^ j = y at *
  simp only [beq_iff_eq] at h
  rw [Int.tmod_eq_emod_of_nonneg (by omega)] at h
  omega
theorem bit_no {x j : Nat} (h : (((x : Int) / 2 ^ j).tmod 2 == 1) = false) : ¬ x / 2 ^ j % 2 = 1 := by
  have e : (x : Int) / 2 ^ j = ((x / 2 ^ j : Nat) : Int) := by simp
  rw [e] at h
  generalize x / 2 ^ j = y at *
  simp only [beq_eq_false_iff_ne, ne_eq] at h
  rw [Int.tmod_eq_emod_of_nonneg (by omega)] at h
  omega

set_option maxRecDepth 100000 in
set_option maxHeartbeats 1000000 in
theorem crcTurned_bad (A : Option Addr) (n c : Nat) (i : Int) (x : Int) (w : World) (hm : n ≤ 9223372036854775807) (h : 300 < n ∨ i < 0 ∨ 8 * (n : Int) - 32 < i) :
    Calls Try.prog 5 #[.slice A n c, .int .i64 i, .int .u32 x] w fun e w' => e = .returned (.bool true) ∧ Below w.heap.size w w' := by
  by_cases h1 : 300 < n
  · clear h
    go_enter Try.func5, Try.ntmps5
    go_wp2_with (go_at_call 9; refine (alive_calls _).mono ?_; rintro e w1 ⟨rfl, hb⟩)
    go_ret
    exact ⟨rfl, hb⟩
  · by_cases h2 : i < 0
    · clear h
      go_enter Try.func5, Try.ntmps5
      go_wp2_with (go_at_call 9; refine (alive_calls _).mono ?_; rintro e w1 ⟨rfl, hb⟩)
      go_ret
      exact ⟨rfl, hb⟩
    · have h3 : 8 * (n : Int) - 32 < i := by omega
      clear h
      go_enter Try.func5, Try.ntmps5
      go_wp2_with (go_at_call 9; refine (alive_calls _).mono ?_; rintro e w1 ⟨rfl, hb⟩)
      go_ret
      exact ⟨rfl, hb⟩

set_option maxRecDepth 100000 in
set_option maxHeartbeats 1000000 in
theorem crcTurned_good (A : Option Addr) (n c : Nat) (l : List UInt8) (p x : Nat) (w : World) (hn : n = l.length) (h1 : n ≤ 300) (h2 : p + 32 ≤ 8 * n) (hx : x < 4294967296) (hA : Byt w w.heap.size A l) :
    Calls Try.prog 5 #[.slice A n c, .int .i64 (p : Int), .int .u32 (x : Int)] w fun e w' => e = .returned (.bool true) ∧ Below w.heap.size w w' := by
  have HN := hide hn
  clear hn
  have d1 : decide ((300 : Int) < (n : Int)) = false := by simp; omega
  have d2 : decide ((p : Int) < 0) = false := by simp
  have d3 : decide (8 * (n : Int) - 32 < (p : Int)) = false := by simp; omega
  go_enter Try.func5, Try.ntmps5
  go_wp2_with (at_builtin; refine wpList_append8 (by rfl) (.tmp 26) (.tmp 27) 22 5 (by rfl) bytesT _ _ _ [] (by rfl) (Own8.new w #[] 5 0 [] rfl rfl (by decide)) _ _ _ _ l (by rfl) (hA.below ((Below.refl _ _).alloc (Nat.le_refl _) _)) HN.out (by omega) ?_; intro A1 c1 w1 hown1 hgrow1 hat1; simp only [Nat.zero_add, List.nil_append] at hown1)
  have z0 : w.heap.size ≤ w1.heap.size := by have := hgrow1.size; simp at this; omega
  have HB1 : Below w.heap.size w w1 := Below.grown ((Below.refl _ _).alloc (Nat.le_refl _) _) hgrow1 (by simp) (by simp [blkOf])
  have hg : ∀ g, blkOf A1 = some g → w.heap.size ≤ g := fun g hg => by
    rcases hat1 with h | h
    · rw [hg] at h; simp [blkOf] at h; omega
    · rw [hg] at h; simp at h; omega
  have HG := hide hg
  clear hg hgrow1 hat1
  go_loopw [8] (fun i wr => ∃ (j : Nat) (m : List UInt8), j ≤ 32 ∧ i = .int .i64 j ∧ Own8 wr 5 A1 n c1 m ∧ Crc.Burst l m p x j ∧ Below w.heap.size w wr) (fun i _ => 32 - (intOf i).toNat)
  case atStart => exact ⟨0, l, by omega, rfl, hown1, Crc.Burst.zero _ _ _, HB1⟩
  case round =>
    obtain ⟨j, m, hj, rfl, hown, hbu, hbel⟩ := hrel
    clear hown1 HB1
    by_cases hlt : j < 32
    · obtain ⟨g1, b1, rfl, hb1, hc1, hf1⟩ := hown.at_ (k := (p + j) / 8) (by omega)
      have HB1 := hide hb1
      clear hb1
      obtain ⟨x1, hx1, HX1⟩ := u8_flip' b1 (p + j)
      have hl : l.length = n := HN.out.symm
      have HL := hide hl
      clear hl
      go_wp2
      · go_roundw
        case rel => exact ⟨j + 1, _, by omega, by go_num, hown.set rfl x1, by rw [flip_eq HB1.out HX1.out]; exact hbu.yes (bit_yes ‹_›) (by rw [HL.out]; omega), hbel.setCell (HG.out g1 rfl) _⟩
        case measure => simp [intOf]; omega
      · go_roundw
        case rel => exact ⟨j + 1, m, by omega, by go_num, hown, hbu.no (bit_no ‹_›), hbel⟩
        case measure => simp [intOf]; omega
    · obtain rfl : j = 32 := by omega
      have ht := hbu.told hx
      have hX := hown.byt
      have hA' := hA.below hbel
      have hM : Hid (n = m.length) := hown.1
      have hml : m.length ≤ 300 := by rw [← hM.out]; exact h1
      have hll : l.length ≤ 300 := by rw [← HN.out]; exact h1
      clear hbu hown hA HG
      by_cases hx0 : x = 0
      · have q1 : (((Crc.sum m : Nat) : Int) == ((Crc.sum l : Nat) : Int)) = true := by simp [ht.2 hx0]
        subst hx0
        clear ht hx
        go_wp2_with fail
        refine (alive_calls _).mono ?_
        rintro e u1 ⟨rfl, b1⟩
        go_wp2_with fail
        refine (sum_calls _ _ m _ _ hM.out (by omega) (hX.below b1)).mono ?_
        rintro e u2 ⟨rfl, b2⟩
        have c2 := bnext b1 b2
        go_wp2_with fail
        refine (sum_calls _ _ l _ _ HN.out (by omega) (hA'.below (c2.mono hbel.size))).mono ?_
        rintro e u3 ⟨rfl, b3⟩
        have c3 := bnext c2 b3
        go_wp2_with fail
        go_ret
        exact ⟨rfl, bnext hbel c3⟩
      · have q1 : (((Crc.sum m : Nat) : Int) == ((Crc.sum l : Nat) : Int)) = false := by
          have : ¬ Crc.sum m = Crc.sum l := fun e => hx0 (ht.1 e)
          simp; omega
        have q2 : ((x : Int) == 0) = false := by simp; omega
        clear ht hx0
        go_wp2_with fail
        refine (alive_calls _).mono ?_
        rintro e u1 ⟨rfl, b1⟩
        go_wp2_with fail
        refine (sum_calls _ _ m _ _ hM.out (by omega) (hX.below b1)).mono ?_
        rintro e u2 ⟨rfl, b2⟩
        have c2 := bnext b1 b2
        go_wp2_with fail
        refine (sum_calls _ _ l _ _ HN.out (by omega) (hA'.below (c2.mono hbel.size))).mono ?_
        rintro e u3 ⟨rfl, b3⟩
        have c3 := bnext c2 b3
        go_wp2_with fail
        go_ret
        exact ⟨rfl, bnext hbel c3⟩

theorem crcTurned_walk (A : Option Addr) (n c : Nat) (l : List UInt8) (i x : Int) (w : World) (hn : n = l.length) (hm : n ≤ maxLen) (hA : Byt w w.heap.size A l) (_hi : (Lit.int .i64 i).wf = true) (hx : (Lit.int .u32 x).wf = true) :
    Calls Try.prog 5 #[.slice A n c, .int .i64 i, .int .u32 x] w fun e w' => e = .returned (.bool true) ∧ Below w.heap.size w w' := by
  unfold maxLen at hm
  have hb := bounds_u32 hx
  by_cases h : 300 < n ∨ i < 0 ∨ 8 * (n : Int) - 32 < i
  · exact crcTurned_bad A n c i x w (by omega) h
  · obtain ⟨i, rfl⟩ := Int.eq_ofNat_of_zero_le (show 0 ≤ i by omega)
    obtain ⟨x, rfl⟩ := Int.eq_ofNat_of_zero_le (show 0 ≤ x by omega)
    exact crcTurned_good A n c l i x w hn (by omega) (by omega) (by omega) hA
end Go.Proofs.Ytohpbkkaboebdaa
