/- The statement CrcSums, walked: it returns true and changes nothing that was there. Conditions: the slices read as bytes. -/
import Derived.Test.YtohpbkkaboebdaaRef03Walks
import Derived.OpenShut
namespace Go.Proofs.Ytohpbkkaboebdaa
open Go.RowKit Kin

set_option maxRecDepth 100000 in
set_option maxHeartbeats 1000000 in
theorem crcSums_bad (A0 : Option Addr) (n0 c0 : Nat) (A1 : Option Addr) (n1 c1 : Nat) (s : Int) (w : World) (_h0 : n0 ≤ 9223372036854775807) (h : 300 < n0 ∨ 300 < n1) :
    Calls Try.prog 3 #[.slice A0 n0 c0, .slice A1 n1 c1, .int .u32 s] w fun e w' => e = .returned (.bool true) ∧ Below w.heap.size w w' := by
  by_cases h1 : 300 < n0
  · clear h
    go_enter Try.func3, Try.ntmps3
    go_wp2_with (go_at_call 9; refine (alive_calls _).mono ?_; rintro e w1 ⟨rfl, hb⟩)
    go_ret
    exact ⟨rfl, hb⟩
  · have h2 : 300 < n1 := by omega
    clear h
    go_enter Try.func3, Try.ntmps3
    go_wp2_with (go_at_call 9; refine (alive_calls _).mono ?_; rintro e w1 ⟨rfl, hb⟩)
    go_ret
    exact ⟨rfl, hb⟩

set_option maxRecDepth 100000 in
set_option maxHeartbeats 1000000 in
theorem crcSums_good (A0 : Option Addr) (n0 c0 : Nat) (l0 : List UInt8) (A1 : Option Addr) (n1 c1 : Nat) (l1 : List UInt8) (s : Nat) (w : World) (h0 : n0 = l0.length) (h1 : n1 = l1.length) (m0 : n0 ≤ 300) (m1 : n1 ≤ 300) (hs : s < 4294967296)
    (b0 : Byt w w.heap.size A0 l0) (b1 : Byt w w.heap.size A1 l1) :
    Calls Try.prog 3 #[.slice A0 n0 c0, .slice A1 n1 c1, .int .u32 (s : Int)] w fun e w' => e = .returned (.bool true) ∧ Below w.heap.size w w' := by
  have H0 := hide h0
  have H1 := hide h1
  have k0 : l0.length ≤ 300 := by omega
  have k1 : l1.length ≤ 300 := by omega
  clear h0 h1
  have d0 : decide ((300 : Int) < (n0 : Int)) = false := by simp; omega
  have d1 : decide ((300 : Int) < (n1 : Int)) = false := by simp; omega
  go_enter Try.func3, Try.ntmps3
  go_wp2_with fail
  refine (alive_calls _).mono ?_
  rintro e t1 ⟨rfl, c1⟩
  go_wp2_with fail
  refine (sum_calls _ _ l0 _ _ H0.out (by omega) (b0.below c1)).mono ?_
  rintro e t2 ⟨rfl, c2⟩
  have c2 := bnext c1 c2
  go_wp2_with fail
  refine (refSum_calls _ _ _ l0 _ H0.out (by omega) (b0.below c2)).mono ?_
  rintro e t3 ⟨rfl, c3⟩
  have c3 := bnext c2 c3
  go_wp2_with fail
  refine (more_calls s _ _ l1 _ _ hs H1.out (by omega) (b1.below c3)).mono ?_
  rintro e t4 ⟨rfl, c4⟩
  have c4 := bnext c3 c4
  go_wp2_with fail
  refine (refMore_calls s _ _ _ l1 _ hs H1.out (by omega) (b1.below c4)).mono ?_
  rintro e t5 ⟨rfl, c5⟩
  have c5 := bnext c4 c5
  go_wp2_with fail
  refine (sum_calls _ _ l0 _ _ H0.out (by omega) (b0.below c5)).mono ?_
  rintro e t6 ⟨rfl, c6⟩
  have c6 := bnext c5 c6
  go_wp2_with fail
  refine (more_calls (Crc.sum l0) _ _ l1 _ _ (Crc.sum_lt _) H1.out (by omega) (b1.below c6)).mono ?_
  rintro e t7 ⟨rfl, c7⟩
  have c7 := bnext c6 c7
  clear c1 c2 c3 c4 c5 c6
  have HQ := hide (Crc.sum_append l0 l1)
  generalize Crc.more (Crc.sum l0) l1 = q at *
  go_wp2_with (first
    | (at_builtin; refine wpList_append8 (by rfl) (.tmp 38) (.tmp 39) 22 5 (by rfl) bytesT _ _ _ [] (by rfl) (Own8.new t7 #[] 5 0 [] rfl rfl (by decide)) _ _ _ _ l0 (by rfl) (b0.below (c7.alloc c7.size _)) H0.out (by omega) ?_; intro A2 e2 w2 own2 grow2 at2; simp only [Nat.zero_add, List.nil_append] at own2)
    | (at_builtin; have bel2 : Below w.heap.size w w2 := Below.grown (c7.alloc c7.size _) grow2 (by have := c7.size; simp; omega) (by have := c7.size; simp [blkOf]; omega); refine wpList_append8 (by rfl) (.tmp 40) (.tmp 41) 22 5 (by rfl) bytesT _ _ _ _ (by rfl) own2 _ _ _ _ l1 (by rfl) (b1.below bel2) H1.out (by omega) ?_; intro A3 e3 w3 own3 grow3 at3))
  have bel3 : Below w.heap.size w w3 := Below.grown bel2 grow3 bel2.size (fun g hg => by
    have hz := c7.size
    rcases at2 with h | h
    · rw [hg] at h; simp [blkOf] at h; omega
    · rw [hg] at h; simp at h; omega)
  have hby := own3.byt
  have HM := hide own3.1
  clear own2 own3 grow2 grow3 at2 at3 bel2 b0 b1
  generalize l0 ++ l1 = L at *
  refine (refSum_calls _ _ _ L _ HM.out (by omega) hby).mono ?_
  rintro e t8 ⟨rfl, c8⟩
  rw [← HQ.out]
  go_wp2_with fail
  go_ret
  exact ⟨rfl, bnext bel3 c8⟩

theorem crcSums_walk (A0 : Option Addr) (n0 c0 : Nat) (l0 : List UInt8) (A1 : Option Addr) (n1 c1 : Nat) (l1 : List UInt8) (s : Int) (w : World)
    (h0 : n0 = l0.length) (m0 : n0 ≤ maxLen) (b0 : Byt w w.heap.size A0 l0) (h1 : n1 = l1.length) (_m1 : n1 ≤ maxLen) (b1 : Byt w w.heap.size A1 l1) (hs : (Lit.int .u32 s).wf = true) :
    Calls Try.prog 3 #[.slice A0 n0 c0, .slice A1 n1 c1, .int .u32 s] w fun e w' => e = .returned (.bool true) ∧ Below w.heap.size w w' := by
  unfold maxLen at m0
  have hb := bounds_u32 hs
  by_cases h : 300 < n0 ∨ 300 < n1
  · exact crcSums_bad A0 n0 c0 A1 n1 c1 s w (by omega) h
  · obtain ⟨s, rfl⟩ := Int.eq_ofNat_of_zero_le (show 0 ≤ s by omega)
    exact crcSums_good A0 n0 c0 l0 A1 n1 c1 l1 s w h0 h1 (by omega) (by omega) (by omega) b0 b1
end Go.Proofs.Ytohpbkkaboebdaa
