/- The statement CrcJoins, walked: it returns true and changes nothing that was there. Conditions: the slices read as bytes. -/
import Derived.Test.YtohpbkkaboebdaaCrcZeros
import Derived.OpenShut
namespace Go.Proofs.Ytohpbkkaboebdaa
open Go.RowKit Kin

set_option maxRecDepth 100000 in
set_option maxHeartbeats 1000000 in
theorem crcJoins_bad (A0 : Option Addr) (n0 c0 : Nat) (A1 : Option Addr) (n1 c1 : Nat) (s : Int) (w : World) (_h0 : n0 ≤ 9223372036854775807) (h : 300 < n0 ∨ 300 < n1 ∨ s < 0 ∨ 300 < s) :
    Calls Try.prog 8 #[.slice A0 n0 c0, .slice A1 n1 c1, .int .i64 s] w fun e w' => e = .returned (.bool true) ∧ Below w.heap.size w w' := by
  by_cases h1 : 300 < n0
  · clear h
    go_enter Try.func8, Try.ntmps8
    go_wp2_with (go_at_call 9; refine (alive_calls _).mono ?_; rintro e w1 ⟨rfl, hb⟩)
    go_ret
    exact ⟨rfl, hb⟩
  · by_cases h2 : 300 < n1
    · clear h
      go_enter Try.func8, Try.ntmps8
      go_wp2_with (go_at_call 9; refine (alive_calls _).mono ?_; rintro e w1 ⟨rfl, hb⟩)
      go_ret
      exact ⟨rfl, hb⟩
    · by_cases h3 : s < 0
      · clear h
        go_enter Try.func8, Try.ntmps8
        go_wp2_with (go_at_call 9; refine (alive_calls _).mono ?_; rintro e w1 ⟨rfl, hb⟩)
        go_ret
        exact ⟨rfl, hb⟩
      · have h4 : 300 < s := by omega
        clear h
        go_enter Try.func8, Try.ntmps8
        go_wp2_with (go_at_call 9; refine (alive_calls _).mono ?_; rintro e w1 ⟨rfl, hb⟩)
        go_ret
        exact ⟨rfl, hb⟩

set_option maxRecDepth 100000 in
set_option maxHeartbeats 1000000 in
theorem crcJoins_good (A0 : Option Addr) (n0 c0 : Nat) (l0 : List UInt8) (A1 : Option Addr) (n1 c1 : Nat) (l1 : List UInt8) (s : Nat) (w : World) (h0 : n0 = l0.length) (h1 : n1 = l1.length) (m0 : n0 ≤ 300) (m1 : n1 ≤ 300) (hs : s ≤ 300)
    (b0 : Byt w w.heap.size A0 l0) (b1 : Byt w w.heap.size A1 l1) :
    Calls Try.prog 8 #[.slice A0 n0 c0, .slice A1 n1 c1, .int .i64 (s : Int)] w fun e w' => e = .returned (.bool true) ∧ Below w.heap.size w w' := by
  have H0 := hide h0
  have H1 := hide h1
  have k0 : l0.length ≤ 300 := by omega
  have k1 : l1.length ≤ 300 := by omega
  have HJ : Hid (Crc.join (Crc.sum l0) (Crc.sum l1) n1 = Crc.sum (l0 ++ l1)) := by rw [h1]; exact Crc.sum_join l0 l1
  have HM := hide (Crc.sum_append l0 l1)
  have HZ := hide (Crc.sum_zeros l0 s)
  clear h0 h1
  have d0 : decide ((300 : Int) < (n0 : Int)) = false := by simp; omega
  have d1 : decide ((300 : Int) < (n1 : Int)) = false := by simp; omega
  have d2 : decide ((s : Int) < 0) = false := by simp
  have d3 : decide ((300 : Int) < (s : Int)) = false := by simp; omega
  go_enter Try.func8, Try.ntmps8
  go_wp2_with (first
    | (at_builtin; refine wpList_append8 (by rfl) (.tmp 26) (.tmp 27) 22 5 (by rfl) bytesT _ _ _ [] (by rfl) (Own8.new w #[] 5 0 [] rfl rfl (by decide)) _ _ _ _ l0 (by rfl) (b0.below ((Below.refl _ _).alloc (Nat.le_refl _) _)) H0.out (by omega) ?_; intro A2 e2 w2 own2 grow2 at2; simp only [Nat.zero_add, List.nil_append] at own2; have bel2 : Below w.heap.size w w2 := Below.grown ((Below.refl _ _).alloc (Nat.le_refl _) _) grow2 (by simp) (by simp [blkOf]))
    | (at_builtin; refine wpList_append8 (by rfl) (.tmp 28) (.tmp 29) 22 5 (by rfl) bytesT _ _ _ _ (by rfl) own2 _ _ _ _ l1 (by rfl) (b1.below bel2) H1.out (by omega) ?_; intro A3 e3 w3 own3 grow3 at3; have bel3 : Below w.heap.size w w3 := Below.grown bel2 grow3 bel2.size (fun g hg => by rcases at2 with h | h <;> (rw [hg] at h; simp [blkOf] at h; omega)))
    | (at_builtin; refine wpList_append8 (by rfl) (.tmp 31) (.tmp 32) 22 5 (by rfl) bytesT _ _ _ [] (by rfl) (Own8.newAt w3 #[] 5 0 [] _ rfl rfl rfl (by decide)) _ _ _ _ l0 (by rfl) (b0.below (bel3.alloc bel3.size _)) H0.out (by omega) ?_; intro A4 e4 w4 own4 grow4 at4; simp only [Nat.zero_add, List.nil_append] at own4)
    | (at_builtin; refine wpList_append8z (by rfl) (.tmp 33) (.tmp 34) 22 5 3 (by rfl) bytesT _ Try.underlying3 _ _ _ _ (by rfl) own4 _ _ s (by rfl) (by rfl) (by omega) ?_; intro A5 e5 w5 own5 grow5 at5))
  have z3 := bel3.size
  have z34 : w3.heap.size < w4.heap.size := by have := grow4.size; simp at this; omega
  have g4 : ∀ g, blkOf A4 = some g → w3.heap.size ≤ g := fun g hg => by
    rcases at4 with h | h <;> (rw [hg] at h; simp [blkOf] at h; omega)
  have b34 : Below w3.heap.size w3 w4 := Below.grown ((Below.refl _ _).alloc (Nat.le_refl _) _) grow4 (by simp) (by simp [blkOf])
  have b35 : Below w3.heap.size w3 w5 := Below.grown b34 grow5 b34.size g4
  have B3 := own3.byt.below b35
  have bel5 : Below w.heap.size w w5 := bnext bel3 b35
  have B5 := own5.byt
  have N3 := hide own3.1
  have N5 := hide own5.1
  clear own2 own3 own4 own5 grow2 grow3 grow4 grow5 at2 at3 at4 at5 g4 b34 bel2
  have b0' := b0.below bel5
  have b1' := b1.below bel5
  have hz5 := bel5.size
  have hz35 := b35.size
  clear b0 b1 b35 bel3 d0 d1 d2 d3
  generalize l0 ++ l1 = L at *
  generalize l0 ++ List.replicate s 0 = Z at *
  refine (alive_calls _).mono ?_
  rintro e t1 ⟨rfl, c1⟩
  go_wp2_with fail
  refine (sum_calls _ _ l0 _ _ H0.out (by omega) (b0'.below (c1.mono hz5))).mono ?_
  rintro e t2 ⟨rfl, c2⟩
  have c2 := bnext c1 c2
  go_wp2_with fail
  refine (sum_calls _ _ l1 _ _ H1.out (by omega) (b1'.below (c2.mono hz5))).mono ?_
  rintro e t3 ⟨rfl, c3⟩
  have c3 := bnext c2 c3
  go_wp2_with fail
  refine (join_calls (Crc.sum l0) (Crc.sum l1) n1 _ (Crc.sum_lt _) (Crc.sum_lt _) (by omega)).mono ?_
  rintro e t4 ⟨rfl, c4⟩
  have c4 := bnext c3 c4
  rw [HJ.out]
  go_wp2_with fail
  refine (sum_calls _ _ L _ _ N3.out (by rw [← N3.out]; omega) (B3.below (c4.mono hz35))).mono ?_
  rintro e t5 ⟨rfl, c5⟩
  have c5 := bnext c4 c5
  go_wp2_with fail
  refine (sum_calls _ _ l0 _ _ H0.out (by omega) (b0'.below (c5.mono hz5))).mono ?_
  rintro e t6 ⟨rfl, c6⟩
  have c6 := bnext c5 c6
  go_wp2_with fail
  refine (more_calls (Crc.sum l0) _ _ l1 _ _ (Crc.sum_lt _) H1.out (by omega) (b1'.below (c6.mono hz5))).mono ?_
  rintro e t7 ⟨rfl, c7⟩
  have c7 := bnext c6 c7
  rw [HM.out]
  go_wp2_with fail
  refine (sum_calls _ _ L _ _ N3.out (by rw [← N3.out]; omega) (B3.below (c7.mono hz35))).mono ?_
  rintro e t8 ⟨rfl, c8⟩
  have c8 := bnext c7 c8
  go_wp2_with fail
  refine (sum_calls _ _ l0 _ _ H0.out (by omega) (b0'.below (c8.mono hz5))).mono ?_
  rintro e t9 ⟨rfl, c9⟩
  have c9 := bnext c8 c9
  go_wp2_with fail
  refine (zeros_calls (Crc.sum l0) s _ (Crc.sum_lt _) (by omega)).mono ?_
  rintro e t10 ⟨rfl, c10⟩
  have c10 := bnext c9 c10
  rw [HZ.out]
  go_wp2_with fail
  refine (sum_calls _ _ Z _ _ N5.out (by rw [← N5.out]; omega) (B5.below c10)).mono ?_
  rintro e t11 ⟨rfl, c11⟩
  go_wp2_with fail
  go_ret
  exact ⟨rfl, bnext (bnext bel5 c10) c11⟩

theorem crcJoins_walk (A0 : Option Addr) (n0 c0 : Nat) (l0 : List UInt8) (A1 : Option Addr) (n1 c1 : Nat) (l1 : List UInt8) (s : Int) (w : World)
    (h0 : n0 = l0.length) (m0 : n0 ≤ maxLen) (b0 : Byt w w.heap.size A0 l0) (h1 : n1 = l1.length) (_m1 : n1 ≤ maxLen) (b1 : Byt w w.heap.size A1 l1) (_hs : (Lit.int .i64 s).wf = true) :
    Calls Try.prog 8 #[.slice A0 n0 c0, .slice A1 n1 c1, .int .i64 s] w fun e w' => e = .returned (.bool true) ∧ Below w.heap.size w w' := by
  unfold maxLen at m0
  by_cases h : 300 < n0 ∨ 300 < n1 ∨ s < 0 ∨ 300 < s
  · exact crcJoins_bad A0 n0 c0 A1 n1 c1 s w (by omega) h
  · obtain ⟨s, rfl⟩ := Int.eq_ofNat_of_zero_le (show 0 ≤ s by omega)
    exact crcJoins_good A0 n0 c0 l0 A1 n1 c1 l1 s w h0 h1 (by omega) (by omega) (by omega) b0 b1
end Go.Proofs.Ytohpbkkaboebdaa
