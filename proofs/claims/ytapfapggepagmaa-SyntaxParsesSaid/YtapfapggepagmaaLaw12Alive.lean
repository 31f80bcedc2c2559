/- The live question of the twelfth layer's statements is answered true. No conditions. -/
import Derived.Test.YtapfapggepagmaaSynWrites
namespace Go.Proofs.Ytapfapggepagmaa
open Go.RowKit Kin

theorem al12_a : Syn.seqL 32 16 1 = [75, 73, 88] := by decide +kernel
theorem al12_b : Syn.seqE 32 16 1 = 0 := by decide +kernel
theorem al12_c : Syn.headL true 0 31 16 16 8 = [254] := by decide +kernel
theorem al12_d : Syn.headE true 0 31 16 16 8 = 0 := by decide +kernel
set_option maxRecDepth 100000 in
set_option maxHeartbeats 1000000 in
theorem alive12_calls (w : World) : Calls Try.prog 12 #[] w fun e w' => e = .returned (.bool true) ∧ Below w.heap.size w w' := by
  have H1 := hide (seq_calls 32 16 1)
  have H2 := hide (head_calls true 0 31 16 16 8)
  rw [al12_a, al12_b] at H1
  rw [al12_c, al12_d] at H2
  go_enter Try.func12, Try.ntmps12
  go_wp2_with fail
  refine (H1.out _).mono ?_
  rintro e w1 ⟨A1, n1, c1, rfl, o1, g1, b1⟩
  obtain rfl : n1 = 3 := o1.1
  go_wp2_with fail
  refine (H2.out _).mono ?_
  rintro e w2 ⟨A2, n2, c2, rfl, o2, g2, b2⟩
  obtain rfl : n2 = 1 := o2.1
  have o1' := o1.below b2 o1.lt
  obtain ⟨q, k0, hA, e0, q0, _⟩ := o1'.at_ (k := 0) (by omega)
  obtain ⟨q', k1, hA', e1, q1, _⟩ := o1'.at_ (k := 2) (by omega)
  obtain ⟨p, j0, hB, f0, p0, _⟩ := o2.at_ (k := 0) (by omega)
  subst hA hB
  injection hA' with hA'
  injection hA' with hA'
  subst hA'
  simp at e0 e1 f0
  subst e0 e1 f0
  rw [show ((75 : UInt8).toNat : Int) = 75 from rfl] at q0
  rw [show ((88 : UInt8).toNat : Int) = 88 from rfl] at q1
  rw [show ((254 : UInt8).toNat : Int) = 254 from rfl] at p0
  go_wp2
  go_ret
  exact ⟨rfl, bnext b1 b2⟩
end Go.Proofs.Ytapfapggepagmaa
