/- Sequences and headers compared, as values. No conditions. -/
import Derived.Test.YtapfapggepagmaaSynWalks
import Derived.Laws.StructEq
namespace Go.Proofs.Ytapfapggepagmaa
open Go.RowKit Kin

theorem seq_eq (a b c a' b' c' : Int) (w : World) : (binOp .eql 23 (seqV a b c) (seqV a' b' c')).run Try.prog w = .ok (.bool (a == a' && b == b' && c == c')) w := by
  have u3 := Try.underlying3
  have a3 := Try.isAgg3
  have z3 := Try.sizeOf3
  have hS : Try.prog.underlying 23 = some (.struct (Try.prog.fieldsOf 23)) := by kernel_rfl
  rw [run_eql_struct, show (10000 : Nat) = 9999 + 1 from rfl, run_equalIn_agg w 9999 23 _ _ hS (by kernel_rfl)]
  simp only [Program.fieldsOf, Try.underlying23]
  go_simp
  by_cases h1 : a = a' <;> by_cases h2 : b = b' <;> by_cases h3 : c = c' <;> simp [h1, h2, h3]
theorem head_eq (a : Bool) (b c : Int) (a' : Bool) (b' c' : Int) (w : World) : (binOp .eql 25 (headV a b c) (headV a' b' c')).run Try.prog w = .ok (.bool (a == a' && b == b' && c == c')) w := by
  have u3 := Try.underlying3
  have a3 := Try.isAgg3
  have z3 := Try.sizeOf3
  have u4 := Try.underlying4
  have a4 := Try.isAgg4
  have z4 := Try.sizeOf4
  have hS : Try.prog.underlying 25 = some (.struct (Try.prog.fieldsOf 25)) := by kernel_rfl
  rw [run_eql_struct, show (10000 : Nat) = 9999 + 1 from rfl, run_equalIn_agg w 9999 25 _ _ hS (by kernel_rfl)]
  simp only [Program.fieldsOf, Try.underlying25]
  go_simp
  cases a <;> cases a' <;> by_cases h2 : b = b' <;> by_cases h3 : c = c' <;> simp [h2, h3]
end Go.Proofs.Ytapfapggepagmaa
