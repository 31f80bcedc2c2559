/- Two writers of the same bits, the program's and the document's, apart. No conditions. -/
import Derived.Test.YtdelaobffbaocaaBitsAny
namespace Go.Proofs.Ytdelaobffbaocaa
open Go.RowKit Kin

theorem refWriter_zero : (Try.prog.info? 41).map (fun i => (i.zero, i.size)) = some (some (.agg #[.slice none 0 0]), 1) := by kernel_rfl

/-- two writers of the same bits, apart -/
def Two (w wr : World) (gw gm : Nat) (B : List Bool) : Prop :=
  ∃ Rw Rm, WriterIs wr gw Rw B ∧ RefWIs wr gm Rm B ∧ Disj gw Rw gm Rm ∧ (∀ r, Rw = some r → w.heap.size ≤ r) ∧ (∀ r, Rm = some r → w.heap.size ≤ r) ∧ w.heap.size ≤ gw ∧ w.heap.size ≤ gm ∧ Below w.heap.size w wr
end Go.Proofs.Ytdelaobffbaocaa
