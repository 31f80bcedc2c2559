/- The live question of the golomb statements is answered true. No conditions. -/
import Derived.Test.YtdelaobffbaocaaGolPuts
import Derived.Test.YtdelaobffbaocaaGolGets
namespace Go.Proofs.Ytdelaobffbaocaa
open Go.RowKit Kin

theorem al_e1 : gputE 4 = 0 := by decide +kernel
theorem al_e2 : gsE (-1) = 0 := by decide +kernel
theorem al_b : Bit.pack (gsB (gputB [] 4) (-1)) = [43] := by decide +kernel
theorem al_l : (gsB (gputB [] 4) (-1)).length = 8 := by decide +kernel
theorem al_g1 : Gol.gV (bitsOf [43] 0) = 4 ∧ Gol.gE (bitsOf [43] 0) = 0 ∧ 0 + Gol.gK (bitsOf [43] 0) = 5 := by decide +kernel
theorem al_g2 : Gol.unf (Gol.gV (bitsOf [43] 5)) = -1 ∧ Gol.gE (bitsOf [43] 5) = 0 := by decide +kernel
theorem al_gl : Gol.gl 4294967294 = 63 := by decide +kernel
set_option maxRecDepth 100000 in
set_option maxHeartbeats 1000000 in
theorem alive2_calls (w : World) : Calls Try.prog 37 #[] w fun e w' => e = .returned (.bool true) ∧ Below w.heap.size w w' := by
  have H1 := hide al_e1
  have H2 := hide al_e2
  have H3 := hide al_b
  have H4 := hide al_l
  have H5 := hide al_g1
  have H6 := hide al_g2
  have H7 := hide al_gl
  go_enter Try.func37, Try.ntmps37
  go_wp2_with fail
  refine (new_calls _).mono ?_
  rintro e w1 ⟨rfl, hw1, b1⟩
  go_wp2_with fail
  refine (gput_any w.heap.size none [] 4 _ hw1 (by simp) (by omega)).mono ?_
  rintro e w2 ⟨rfl, R2, hw2, c2, r2⟩
  rw [H1.out]
  go_wp2_with fail
  refine (gputs_any w.heap.size R2 _ (-1) _ hw2 (by have := length_gputB [] 4; simp only [List.length_nil] at this; omega) (by omega) (by omega)).mono ?_
  rintro e w3 ⟨rfl, R3, hw3, c3, r3⟩
  rw [H2.out]
  have b2 : Below w.heap.size w w2 := b1.trans (c2.below (Foot.ge (Nat.le_refl _) (by simp)) b1.size)
  have g2 : ∀ r, R2 = some r → w.heap.size ≤ r := r2.ge (by simp) b1.size
  have b3 : Below w.heap.size w w3 := b2.trans (c3.below (Foot.ge (Nat.le_refl _) g2) b2.size)
  clear c2 c3 r2 r3 g2 hw1 hw2 b1 b2
  generalize gsB (gputB [] 4) (-1) = BB at *
  go_wp2_with fail
  refine (wbytes_calls w.heap.size R3 BB _ hw3 (by rw [H4.out]; omega)).mono ?_
  rintro e w4 ⟨A4, n4, c4, rfl, o4, g4, b4⟩
  rw [H3.out] at o4
  have hw4 := hw3.below b4
  have b34 := b3.trans (b4.mono b3.size)
  go_wp2_with fail
  refine (open_calls _ _ _ [43] _ o4.1 (by rw [o4.1]; decide) o4.byt).mono ?_
  rintro e w5 ⟨rfl, hr5, b5⟩
  have hw5 := hw4.below b5
  have b35 := b34.trans (b5.mono b34.size)
  have z4 := hw4.lt
  have z4' := hw4.rlt
  clear hw3 b3 hw4 o4 g4 b4
  go_wp2_with fail
  refine (gget_any _ _ [43] 0 _ hr5).mono ?_
  rintro e w6 ⟨rfl, hr6, c6⟩
  rw [H5.out.1, H5.out.2.1]
  rw [H5.out.2.2] at hr6
  go_wp2_with fail
  refine (ggets_any _ _ [43] 5 _ hr6).mono ?_
  rintro e w7 ⟨rfl, hr7, c7⟩
  rw [H6.out.1, H6.out.2]
  have c57 := c6.same c7
  have hw7 := hw5.keep c57 (by
    rintro k (rfl | e) hk
    · have hk : w.heap.size = w4.heap.size + 1 := hk
      omega
    · have hk : k = w4.heap.size + 1 := hk
      have := z4' k e
      omega)
  have b7 : Below w.heap.size w w7 := b35.trans (c57.below (by intro i hi; have hi : i = w4.heap.size + 1 := hi; omega) b35.size)
  clear hr5 hr6 c6 c7 c57 hr7 hw5 b35 b34 b5
  go_wp2_with fail
  refine (len_calls _ _ _ _ hw7).mono ?_
  rintro e w8 ⟨rfl, rfl⟩
  rw [H4.out]
  go_wp2_with fail
  refine (glen_calls 4294967294 _ (by omega)).mono ?_
  rintro e w8 ⟨rfl, rfl⟩
  rw [H7.out]
  go_wp2_with fail
  go_ret
  exact ⟨rfl, b7⟩
end Go.Proofs.Ytdelaobffbaocaa
