/- The statement GolombTells, walked: it returns true and changes nothing that was there. No conditions. -/
import Derived.Test.YtdelaobffbaocaaLaw02Alive
import Derived.OpenShut
namespace Go.Proofs.Ytdelaobffbaocaa
open Go.RowKit Kin

set_option maxRecDepth 100000 in
set_option maxHeartbeats 2000000 in
theorem golombTells_walk (v x : Int) (w : World) (wv : (Lit.int .u64 v).wf = true) (wx : (Lit.int .i64 x).wf = true) :
    Calls Try.prog 9 #[.int .u64 v, .int .i64 x] w fun e w' => e = .returned (.bool true) ∧ Below w.heap.size w w' := by
  have ⟨v1, v2⟩ := bounds_u64 wv
  have ⟨x1, x2⟩ := bounds_i64 wx
  obtain ⟨v, rfl⟩ : ∃ k : Nat, v = k := ⟨v.toNat, by omega⟩
  clear wv wx
  have HFO := hide (fold_calls x)
  have HRF := hide (reffold_calls x)
  have qv : ((Gol.foldV x) == (Gol.foldV x)) = true := by simp
  have qo : ((Gol.foldOk x) == (Gol.foldOk x)) = true := by simp
  generalize Gol.foldV x = FV at *
  generalize Gol.foldOk x = FO at *
  have HU := hide (unfold_calls v)
  have HRU := hide (refunfold_calls v)
  have qu : (Gol.unf v == Gol.unf v) = true := by simp
  generalize Gol.unf v = U at *
  have hv64 : v < 18446744073709551616 := by omega
  have hcase : v ≤ 4294967294 ∨ 4294967294 < v := by omega
  rcases hcase with h | h
  case' inl =>
    have d : decide ((v : Int) ≤ 4294967294) = true := by simp; omega
    have HLC := hide (Gol.length_codeB h)
    go_enter Try.func9, Try.ntmps9
    go_wp2_with fail
    refine (code_calls v _ h).mono ?_
    rintro e w1 ⟨A1, n1, c1, rfl, o1, g1, b1⟩
    have hn1 : n1 = Gol.gl v := by rw [o1.1, Bit.length_zo, HLC.out]
    subst hn1
    clear o1 g1 HLC
  case' inr =>
    have d : decide ((v : Int) ≤ 4294967294) = false := by simp; omega
    have HLC := hide (Gol.gl_big h)
    go_enter Try.func9, Try.ntmps9
    have b1 : Below w.heap.size w w := Below.refl _ _
    obtain ⟨w1, hw1⟩ : ∃ x, x = w := ⟨_, rfl⟩
    rw [← hw1]
    rw [← hw1] at b1
    clear hw1
  all_goals
    go_wp2_with fail
    refine (HFO.out _ (by omega) (by omega)).mono ?_
    rintro e w2 ⟨rfl, rfl⟩
    go_wp2_with fail
    refine (HRF.out _ (by omega) (by omega)).mono ?_
    rintro e w2 ⟨rfl, rfl⟩
    go_wp2_with fail
    refine (alive2_calls _).mono ?_
    rintro e w3 ⟨rfl, b3⟩
    go_wp2_with fail
    refine (glen_calls v _ hv64).mono ?_
    rintro e w4 ⟨rfl, rfl⟩
    try rw [HLC.out]
    go_wp2_with fail
    refine (HU.out _ hv64).mono ?_
    rintro e w4 ⟨rfl, rfl⟩
    go_wp2_with fail
    refine (HRU.out _ hv64).mono ?_
    rintro e w4 ⟨rfl, rfl⟩
    go_wp2
    go_ret
    exact ⟨rfl, bnext b1 b3⟩
end Go.Proofs.Ytdelaobffbaocaa
