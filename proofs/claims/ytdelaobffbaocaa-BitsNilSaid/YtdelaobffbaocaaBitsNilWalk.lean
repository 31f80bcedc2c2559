/- The statement BitsNil, walked: it returns true and changes nothing that was there. No conditions. -/
import Derived.Test.YtdelaobffbaocaaLaw01Alive
namespace Go.Proofs.Ytdelaobffbaocaa
open Go.RowKit Kin

set_option maxRecDepth 100000 in
set_option maxHeartbeats 1000000 in
theorem bitsNil_walk (k n v : Int) (w : World) (_hk : (Lit.int .i64 k).wf = true) (_hn : (Lit.int .i64 n).wf = true) (_hv : (Lit.int .u64 v).wf = true) :
    Calls Try.prog 8 #[.agg #[.int .i64 k, .int .i64 n, .int .u64 v]] w fun e w' => e = .returned (.bool true) ∧ Below w.heap.size w w' := by
  go_enter Try.func8, Try.ntmps8
  go_wp2_with fail
  refine (get_nil _ _).mono ?_
  rintro e w1 ⟨rfl, rfl⟩
  go_wp2_with fail
  refine (alive_calls _).mono ?_
  rintro e w2 ⟨rfl, b2⟩
  have hb : Blk w2 w.heap.size 43 #[.int .i64 k, .int .i64 n, .int .u64 v] := (Blk.new w _ _).below b2 (by simp)
  have c1 : w2.cell? ⟨w.heap.size, 1, none⟩ = some (.int .i64 n) := hb.cell 1
  have c2 : w2.cell? ⟨w.heap.size, 2, none⟩ = some (.int .u64 v) := hb.cell 2
  go_wp2_with fail
  refine (put_nil _ _ _).mono ?_
  rintro e w3 ⟨rfl, rfl⟩
  go_wp2_with fail
  refine (walign_nil _).mono ?_
  rintro e w3 ⟨rfl, rfl⟩
  go_wp2_with fail
  refine (len_nil _).mono ?_
  rintro e w3 ⟨rfl, rfl⟩
  go_wp2_with fail
  refine (wbytes_nil _).mono ?_
  rintro e w3 ⟨rfl, rfl⟩
  go_wp2_with fail
  refine (ralign_nil _).mono ?_
  rintro e w3 ⟨rfl, rfl⟩
  go_wp2_with fail
  refine (at_nil _).mono ?_
  rintro e w3 ⟨rfl, rfl⟩
  go_wp2_with fail
  refine (left_nil _).mono ?_
  rintro e w3 ⟨rfl, rfl⟩
  go_wp2_with fail
  refine (rest_nil _).mono ?_
  rintro e w3 ⟨rfl, rfl⟩
  go_wp2_with fail
  go_ret
  exact ⟨rfl, ((Below.refl _ w).alloc (Nat.le_refl _) _).trans (b2.mono (by simp))⟩
end Go.Proofs.Ytdelaobffbaocaa
