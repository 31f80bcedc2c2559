/- The live question of the bits' statements is answered true. No conditions. -/
import Derived.Test.YtdelaobffbaocaaBitsReads
namespace Go.Proofs.Ytdelaobffbaocaa
open Go.RowKit Kin

theorem pk : Bit.pack (([] ++ Bit.digits 5 3) ++ Bit.digits 33 6) = [176, 128] := by decide +kernel
theorem gt : Bit.get [18, 52] 4 8 = 35 := by decide +kernel
set_option maxRecDepth 100000 in
set_option maxHeartbeats 1000000 in
theorem alive_calls (w : World) : Calls Try.prog 15 #[] w fun e w' => e = .returned (.bool true) ∧ Below w.heap.size w w' := by
  go_enter Try.func15, Try.ntmps15
  go_wp2_with fail
  refine (new_calls _).mono ?_
  rintro e w1 ⟨rfl, hw1, b1⟩
  go_wp2_with fail
  refine (put_calls w.heap.size none [] 5 3 _ hw1 (by simp) (by omega) (by omega)).mono ?_
  rintro e w2 ⟨rfl, R2, hw2, c2, r2⟩
  go_wp2_with fail
  refine (put_calls w.heap.size R2 _ 33 6 _ hw2 (by simp [Bit.length_digits]) (by omega) (by omega)).mono ?_
  rintro e w3 ⟨rfl, R3, hw3, c3, r3⟩
  have b2 : Below w.heap.size w w2 := b1.trans (c2.below (Foot.ge (Nat.le_refl _) (by simp)) b1.size)
  have g2 : ∀ r, R2 = some r → w.heap.size ≤ r := r2.ge (by simp) b1.size
  have b3 : Below w.heap.size w w3 := b2.trans (c3.below (Foot.ge (Nat.le_refl _) g2) b2.size)
  clear c2 c3 r2 r3 g2 hw1 hw2 b1 b2
  have hln : (([] ++ Bit.digits 5 3) ++ Bit.digits 33 6).length = 9 := by simp [Bit.length_digits]
  have HLN := hide hln
  have HPK := hide pk
  clear hln
  generalize ([] ++ Bit.digits 5 3) ++ Bit.digits 33 6 = BB at *
  go_wp2_with fail
  refine (wbytes_calls w.heap.size R3 BB _ hw3 (by rw [HLN.out]; omega)).mono ?_
  rintro e w4 ⟨A4, n4, c4, rfl, o4, g4, b4⟩
  rw [HPK.out] at o4
  have hn4 : n4 = 2 := o4.1
  subst hn4
  have hw4 := hw3.below b4
  go_wp2_with fail
  refine (open_calls _ _ _ [18, 52] _ (by rfl) (by omega) (Byt.new _ _ _ _ _ (by rfl))).mono ?_
  rintro e w5 ⟨rfl, hr5, b5⟩
  have b45 : Below w4.heap.size w4 w5 := ((Below.refl _ _).alloc (Nat.le_refl _) _).trans (b5.mono (by simp))
  have hw5 := hw4.below b45
  have o5 := o4.below b45 (fun g hg => o4.lt g hg)
  have z4 := b4.size
  have hgl4 := hw4.lt
  simp only [World.size_alloc] at hr5
  go_wp2_with fail
  refine (get_calls _ _ [18, 52] 0 4 _ hr5 (by omega) (by simp)).mono ?_
  rintro e w6 ⟨rfl, hr6, c6⟩
  go_wp2_with fail
  refine (get_calls _ _ [18, 52] 4 8 _ (by simpa using hr6) (by omega) (by simp)).mono ?_
  rintro e w7 ⟨rfl, hr7, c7⟩
  rw [gt]
  have c57 := c6.same c7
  have hw7 := hw5.keep c57 (by
    rintro k (rfl | e) hk
    · have hk : w.heap.size = w4.heap.size + 1 + 1 := hk
      omega
    · have hk : k = w4.heap.size + 1 + 1 := hk
      have := hw4.rlt k e
      omega)
  have o7 := c57.own o5 (by
    intro g hg hk
    have hk : g = w4.heap.size + 1 + 1 := hk
    have := o4.lt g hg
    omega)
  have b7 : Below w.heap.size w w7 := ((b3.trans (b4.mono b3.size)).trans (b45.mono (by have := b3.size; omega))).trans (c57.below (by intro i hi; have hi : i = w4.heap.size + 1 + 1 := hi; have := b3.size; omega) (by have := b3.size; have := b45.size; omega))
  go_wp2_with fail
  refine (len_calls _ _ _ _ hw7).mono ?_
  rintro e w8 ⟨rfl, rfl⟩
  rw [HLN.out]
  obtain ⟨q, k0, hA, e0, q0, _⟩ := o7.at_ (k := 0) (by omega)
  obtain ⟨q', k1, hA', e1, q1, _⟩ := o7.at_ (k := 1) (by omega)
  subst hA
  injection hA' with hA'
  injection hA' with hA'
  subst hA'
  simp at e0 e1
  subst e0 e1
  rw [show ((176 : UInt8).toNat : Int) = 176 from rfl] at q0
  rw [show ((128 : UInt8).toNat : Int) = 128 from rfl] at q1
  go_wp2_with fail
  refine (left_calls _ _ _ _ _ hr7).mono ?_
  rintro e w9 ⟨rfl, rfl⟩
  go_wp2_with fail
  go_ret
  exact ⟨rfl, b7.drew⟩
end Go.Proofs.Ytdelaobffbaocaa
