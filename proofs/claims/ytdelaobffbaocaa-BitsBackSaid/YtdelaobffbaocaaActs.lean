/- A slice of acts that came in reads as rows of three integers. No conditions. -/
import Derived.Test.YtdelaobffbaocaaRecs
import Derived.Test.YtdelaobffbaocaaBitsWalks
import Derived.Test.YtdelaobffbaocaaLift
namespace Go.Proofs.Ytdelaobffbaocaa
open Go.RowKit Kin Go.ChangeShapes Go.WideShapes Go.ChangeAt

/-- an act's cells -/
def ActRow (row : List Value) : Prop := ∃ (k n v : Int), row = [.int .i64 k, .int .i64 n, .int .u64 v] ∧ 0 ≤ v ∧ v < 18446744073709551616

theorem acts_open {H : Type} {enc : TypeId × Value → H} {w : World} {base : Nat} {spare : Nat → Bool} {held : Bool} {v : Value} {d : DataW H} {p : List MemPlace} {r : Reach} {b0 : Nat}
    (hv : Value.okWide Try.prog w r b0 38 v) (h : DataW.Trod enc Try.prog w base spare held 38 v d p) :
    ∃ A n c xs, v = .slice A n c ∧ n = xs.length ∧ n ≤ maxLen ∧ Recs w w.heap.size 3 A xs ∧ ∀ row ∈ xs, ActRow row := by
  refine recs_open ActRow Try.underlying38 Try.underlying43 (by kernel_rfl) (by kernel_rfl) (by decide) ?_ hv h
  intro row hl ⟨n, hf⟩
  match row, hl with
  | [x, y, z], _ =>
    obtain ⟨v0, y0, h0, t0⟩ := hf 0 _ rfl
    obtain ⟨v1, y1, h1, t1⟩ := hf 1 _ rfl
    obtain ⟨v2, y2, h2, t2⟩ := hf 2 _ rfl
    injection h0 with h0
    injection h1 with h1
    injection h2 with h2
    subst h0 h1 h2
    obtain ⟨a0, e0, _, _⟩ := DataW.trod_int Try.underlying3 t0
    obtain ⟨a1, e1, _, _⟩ := DataW.trod_int Try.underlying3 t1
    obtain ⟨a2, e2, _, wf⟩ := DataW.trod_int Try.underlying27 t2
    simp only [List.cons.injEq, and_true] at e0 e1 e2
    subst e0 e1 e2
    have ⟨b1, b2⟩ := bounds_u64 wf
    exact ⟨a0, a1, a2, rfl, by omega, by omega⟩
end Go.Proofs.Ytdelaobffbaocaa
