/- The statement SegmentTurned is proved where what it reads is of bulk at most 1048576: the call returns true and each argument reads as before. -/
import Derived.Test.YtakglalebjkpeaaHSegmentTurnedWalk
import Derived.Test.YtakglalebjkpeaaHLift2
import Derived.Lib.SmallJoins
import Derived.JoinedCond
import Derived.Test.YtakglalebjkpeaaHSegLift
namespace Go.Proofs.Ytakglalebjkpeaa.segmentTurned
open Go.ChangeShapes Go.WideShapes Go.ChangeAt Go.RowKit Kin Go.Proofs.Ytakglalebjkpeaa.C17
open Go.ChangeMaps (open_string shut_string)

theorem own : ownKnob Try.prog.godebug = none := by kernel_rfl
theorem laidOut : laidOutB Try.prog = true := by kernel_rfl

set_option maxRecDepth 100000 in
theorem lifted (os : Os) (started : os.Started) (H : Type) (enc : TypeId × Value → H) (F0 : Stop.Interp) :
    ReturnsInHanded {} Try.checked os 4 .any ((Rows.OpenSpec.upto Rows.segmentTurnedSpec).pre6 enc Try.prog Try.f4 Rows.segmentTurnedUptoRow.domain false) (((Rows.OpenSpec.upto Rows.segmentTurnedSpec).at F0).post enc Try.prog Try.f4 false true false false) := by
  refine returnsInHanded_of_cond (C := Try.checked) (s := Rows.OpenSpec.upto Rows.segmentTurnedSpec) (k := Rows.uptoSmall) rfl own started (by kernel_rfl) Try.func4
    (OpenSpec.witness (enc := enc) (C := Try.checked) (s := Rows.OpenSpec.upto Rows.segmentTurnedSpec) (k := Rows.uptoSmall) rfl false ⟨#[], #[.agg #[.int .i64 0, .int .i64 0, .slice none 0 0], .agg #[.int .i64 0, .int .i64 0], .int .u32 0], []⟩ 8 (by kernel_rfl) (by kernel_rfl) (by kernel_rfl)
      (x := ([.agg [.lit (.int .i64 0), .lit (.int .i64 0), .nil], .agg [.lit (.int .i64 0), .lit (.int .i64 0)], .lit (.int .u32 0)], [], [])) (by kernel_rfl) (by kernel_rfl) (by kernel_rfl)) ?_
  intro W base args ds gs before hval0 hW hcnd hk _
  have hval : ∀ (j : Nat) t v, Try.f4.params[j]? = some t → args[j]? = some v → Value.okWide Try.prog W .any base t v := hval0
  have hW' := hW
  obtain ⟨p, q, hA0, hV, rfl, hfz, hnd⟩ := hW
  have hA : DataW.TrodAll enc Try.prog W 0 (fun _ => true) true Try.f4.params.toList args.toList ds p := hA0
  rw [Try.params4] at hA hval
  obtain ⟨v0, vs0, d0, ds0, p0, q0, hargs, rfl, rfl, h0, r0⟩ := trodAll_cons hA
  obtain ⟨v1, vs1, d1, ds1, p1, q1, rfl, rfl, rfl, h1, r1⟩ := trodAll_cons r0
  obtain ⟨v2, vs2, d2, ds2, p2, q2, rfl, rfl, rfl, h2, r2⟩ := trodAll_cons r1
  obtain ⟨rfl, rfl, rfl⟩ := trodAll_nil r2
  obtain rfl : args = #[v0, v1, v2] := by cases args; simp_all
  obtain ⟨rfl, rfl⟩ := trodVars_none hV
  have hbk0 : Rows.uptoBulk d0 ≤ 1048576 := Nat.le_trans (C17.bulk_mem _ 0 d0 rfl) (of_decide_eq_true hk)
  have k0 := h0
  have lt0 : ∀ x ∈ p0, x.block < W.heap.size := by obtain ⟨m, hm⟩ := k0; exact DataW.trod_lt m _ _ _ hm
  obtain ⟨z0_0, z0_1, z0_2, z0_3, z0_4, z0_5, rfl, g0_0, g0_1, g0_2, g0_3⟩ := C17.med_upto (hval 0 28 v0 rfl rfl) h0
  have k1 := h1
  have lt1 : ∀ x ∈ p1, x.block < W.heap.size := by obtain ⟨m, hm⟩ := k1; exact DataW.trod_lt m _ _ _ hm
  obtain ⟨zs1, zl1, rfl, zw1⟩ := open_intarr Try.underlying38 Try.underlying3 (by kernel_rfl) (by kernel_rfl) (hval 1 38 v1 rfl rfl) h1
  obtain ⟨z1_0, z1_1, rfl⟩ := list_two zl1
  obtain ⟨a2, rfl, rfl, rfl, w2⟩ := open_int Try.underlying39 (hval 2 39 v2 rfl rfl) h2
  clear hA0 hval0
  refine (segmentTurned_walk z0_0 z0_1 z0_2 z0_3 z0_4 z0_5 z1_0 z1_1 a2 W g0_0 g0_1 g0_2 (by have := hbk0; omega) (zw1 z1_0 (by simp)) (zw1 z1_1 (by simp)) w2).mono fun e W' ⟨he, bel⟩ => ?_
  subst he
  exact ⟨_, rfl, _, _, _, [], _, [], hW', trodAll_mk1 (shut_bool Try.underlying4 _), (trodAll_cons_mk (Below.trod laidOut (by kernel_rfl) (of_decide_eq_true (by kernel_rfl)) k0 bel lt0) (trodAll_cons_mk (Below.trod laidOut (by kernel_rfl) (of_decide_eq_true (by kernel_rfl)) k1 bel lt1) (trodAll_cons_mk (shut_int Try.underlying39 w2) trodAll_mk0))), rfl, bel.frame _, fun h => by cases h⟩

theorem over : Rows.segmentTurnedUptoRow.holds Try.pinned (Rows.OpenSpec.upto Rows.segmentTurnedSpec) :=
  OpenClaim.holds_of_cond 4 Try.f4 rfl rfl rfl rfl rfl rfl rfl ⟨rfl, rfl, rfl, rfl, rfl⟩ rfl rfl rfl rfl rfl (by kernel_rfl) Try.func4 (by kernel_rfl)
    (of_decide_eq_true (by kernel_rfl)) (by unfold Func.isWrapper; first | (rw [if_pos (by decide +kernel)]; kernel_rfl) | (rw [if_neg (by decide +kernel)]; exact ⟨rfl, rfl⟩))
    (fun os started H enc _ F0 => lifted os started H enc F0)

/-- the statement -/
theorem proved : Rows.SegmentTurnedUptoSaid := over
#print axioms proved
end Go.Proofs.Ytakglalebjkpeaa.segmentTurned
