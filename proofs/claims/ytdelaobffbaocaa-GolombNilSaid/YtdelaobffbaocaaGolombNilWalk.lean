/- The statement GolombNil, walked: it returns true and changes nothing that was there. No conditions. -/
import Derived.Test.YtdelaobffbaocaaLaw02Alive
import Derived.OpenShut
namespace Go.Proofs.Ytdelaobffbaocaa
open Go.RowKit Kin

set_option maxRecDepth 100000 in
set_option maxHeartbeats 2000000 in
theorem golombNil_walk (v x : Int) (w : World) (_wv : (Lit.int .u64 v).wf = true) (wx : (Lit.int .i64 x).wf = true) :
    Calls Try.prog 12 #[.int .u64 v, .int .i64 x] w fun e w' => e = .returned (.bool true) ∧ Below w.heap.size w w' := by
  have ⟨x1, x2⟩ := bounds_i64 wx
  clear _wv wx
  go_enter Try.func12, Try.ntmps12
  go_wp2_with fail
  refine (gget_nil _).mono ?_
  rintro e w2 ⟨rfl, rfl⟩
  go_wp2_with fail
  refine (ggets_nil _).mono ?_
  rintro e w2 ⟨rfl, rfl⟩
  go_wp2_with fail
  refine (alive2_calls _).mono ?_
  rintro e w3 ⟨rfl, b3⟩
  go_wp2_with fail
  refine (gput_nil _ _).mono ?_
  rintro e w4 ⟨rfl, rfl⟩
  go_wp2_with fail
  refine (gputs_nil _ _ x1 (by omega)).mono ?_
  rintro e w4 ⟨rfl, rfl⟩
  go_wp2
  go_ret
  exact ⟨rfl, b3⟩
end Go.Proofs.Ytdelaobffbaocaa
