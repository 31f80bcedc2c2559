/- The statement SyntaxParses is proved: for every input the call returns true and each argument reads as before. No conditions. -/
import Derived.Test.YtapfapggepagmaaSyntaxParsesWalk
import Derived.Test.YtapfapggepagmaaLift
import Derived.Lib.SmallJoins
import Derived.Test.YtapfapggepagmaaBytC
namespace Go.Proofs.Ytapfapggepagmaa.syntaxParses
open Go.ChangeShapes Go.WideShapes Go.ChangeAt Go.RowKit Kin
open Go.ChangeMaps (open_string shut_string)

theorem own : ownKnob Try.prog.godebug = none := by kernel_rfl
theorem laidOut : laidOutB Try.prog = true := by kernel_rfl

set_option maxRecDepth 100000 in
theorem lifted (os : Os) (started : os.Started) (H : Type) (enc : TypeId × Value → H) :
    ReturnsInHanded {} Try.checked os 7 .any (Rows.syntaxParsesSpec.pre6 enc Try.prog Try.f7 Rows.syntaxParsesRow.domain false) (Rows.syntaxParsesSpec.post enc Try.prog Try.f7 false true false false) := by
  refine returnsInHanded_of_change (C := Try.checked) own started (by kernel_rfl) Try.func7
    (ChangeSpec.witness6 (enc := enc) (C := Try.checked) false ⟨#[], #[.slice none 0 0, .slice none 0 0, .agg #[.int .i64 0, .int .i64 0, .int .i64 0]], []⟩ 8 (by kernel_rfl) (by kernel_rfl) (by kernel_rfl) (by kernel_rfl)) ?_
  intro W base args ds gs before hval0 hW hcnd _
  have hval : ∀ (j : Nat) t v, Try.f7.params[j]? = some t → args[j]? = some v → Value.okWide Try.prog W .any base t v := hval0
  have hW' := hW
  obtain ⟨p, q, hA0, hV, rfl, hfz, hnd⟩ := hW
  have hA : DataW.TrodAll enc Try.prog W 0 (fun _ => true) true Try.f7.params.toList args.toList ds p := hA0
  rw [Try.params7] at hA hval
  obtain ⟨v0, vs0, d0, ds0, p0, q0, hargs, rfl, rfl, h0, r0⟩ := trodAll_cons hA
  obtain ⟨v1, vs1, d1, ds1, p1, q1, rfl, rfl, rfl, h1, r1⟩ := trodAll_cons r0
  obtain ⟨v2, vs2, d2, ds2, p2, q2, rfl, rfl, rfl, h2, r2⟩ := trodAll_cons r1
  obtain ⟨rfl, rfl, rfl⟩ := trodAll_nil r2
  obtain rfl : args = #[v0, v1, v2] := by cases args; simp_all
  obtain ⟨rfl, rfl⟩ := trodVars_none hV
  have k0 := h0
  have lt0 : ∀ x ∈ p0, x.block < W.heap.size := by obtain ⟨m, hm⟩ := k0; exact DataW.trod_lt m _ _ _ hm
  obtain ⟨A0, n0, c0, l0, rfl, hn0, hm0, hc0, hb0⟩ := bytc_open bytesT (by kernel_rfl) (hval 0 26 v0 rfl rfl) h0
  have k1 := h1
  have lt1 : ∀ x ∈ p1, x.block < W.heap.size := by obtain ⟨m, hm⟩ := k1; exact DataW.trod_lt m _ _ _ hm
  obtain ⟨A1, n1, c1, l1, rfl, hn1, hm1, hc1, hb1⟩ := bytc_open bytesT (by kernel_rfl) (hval 1 26 v1 rfl rfl) h1
  have k2 := h2
  have lt2 : ∀ x ∈ p2, x.block < W.heap.size := by obtain ⟨m, hm⟩ := k2; exact DataW.trod_lt m _ _ _ hm
  obtain ⟨x2_0, x2_1, x2_2, y2_0, y2_1, y2_2, m2, rfl, rfl, rfl, hy2_0, hy2_1, hy2_2⟩ := Joins.open_agg3 Try.underlying23 (by kernel_rfl) (by kernel_rfl) (hval 2 23 v2 rfl rfl) h2
  obtain ⟨a2_0, e2_0, _, _⟩ := DataW.trod_int Try.underlying3 hy2_0
  simp only [List.cons.injEq, and_true] at e2_0
  subst e2_0
  obtain ⟨a2_1, e2_1, _, _⟩ := DataW.trod_int Try.underlying3 hy2_1
  simp only [List.cons.injEq, and_true] at e2_1
  subst e2_1
  obtain ⟨a2_2, e2_2, _, _⟩ := DataW.trod_int Try.underlying3 hy2_2
  simp only [List.cons.injEq, and_true] at e2_2
  subst e2_2
  clear hA0 hval0
  refine (syntaxParses_walk A0 n0 c0 l0 A1 n1 c1 l1 a2_0 a2_1 a2_2 W hn0 hm0 hc0 hb0 hn1 hm1 hc1 hb1).mono fun e W' ⟨he, bel⟩ => ?_
  subst he
  exact ⟨_, rfl, _, _, _, [], _, [], hW', trodAll_mk1 (shut_bool Try.underlying4 _), (trodAll_cons_mk (Below.trod laidOut (by kernel_rfl) (of_decide_eq_true (by kernel_rfl)) k0 bel lt0) (trodAll_cons_mk (Below.trod laidOut (by kernel_rfl) (of_decide_eq_true (by kernel_rfl)) k1 bel lt1) (trodAll_cons_mk (Below.trod laidOut (by kernel_rfl) (of_decide_eq_true (by kernel_rfl)) k2 bel lt2) trodAll_mk0))), rfl, bel.frame _, fun h => by cases h⟩

theorem over : Rows.syntaxParsesRow.holds Try.pinned (OpenSpec.ofChange Rows.syntaxParsesSpec) :=
  OpenClaim.holds_of_wide 7 Try.f7 rfl rfl rfl rfl rfl rfl rfl ⟨rfl, rfl, rfl, rfl, rfl⟩ rfl rfl rfl rfl rfl (by kernel_rfl) Try.func7 (by kernel_rfl)
    (of_decide_eq_true (by kernel_rfl)) (by unfold Func.isWrapper; first | (rw [if_pos (by decide +kernel)]; kernel_rfl) | (rw [if_neg (by decide +kernel)]; exact ⟨rfl, rfl⟩))
    (fun os started H enc _ => lifted os started H enc)

/-- the statement -/
theorem proved : Rows.SyntaxParsesSaid := over
#print axioms proved
end Go.Proofs.Ytapfapggepagmaa.syntaxParses
