/-
  No cell of these rows narrows 'for every input' (looked for: loops, veiled, ifaces, maps, wideKeys, modest, calm, conditions, laid).
  DERIVED. THE GIVEN ROWS OF THIS SEAT. 5 by the template 'for every input the law returns true; each argument reads behind the call as it read before'; 0 by the template 'total and deterministic' (their statements: YtapfapggepagmaaTotals.lean).
  GIVEN WITH THE SEED: the statements are not yours to turn. If you find one false, say at which input.
  Laid BY PROGRAM, IN A SANDBOX (cutbox-rows.mjs): the forced cells as the released guide's own fill.sh prints them over the translation 7d66756892d7d8e0… (all of the seat's roots in one cut). By AI agents, Wed Nov 11 2026. No macro, syntax, notation, axiom, sorry.
-/
import Derived.Test.YtapfapggepagmaaChecked
import GoSem.Claim
import GoSem.ClaimJoined
import GoSem.ClaimMapViews
import Derived.JoinedTies
import Derived.KernelRfl
namespace Go.Proofs.Ytapfapggepagmaa
/- THE CELL 'sum', in the pinned program and in every row, IS THE sha256 OF THE DUMP (.gsa) THAT YtapfapggepagmaaProg.lean LOADS. Nothing in Lean hashes anything: it is a label: what it is worth is what the hold of that sum in a sandbox is worth. -/
noncomputable def Try.pinned : Pinned := { name := "ytapfapggepagmaa", sum := "7d66756892d7d8e0e9a7b4eac3a01c317b4033f3b2d51257dcfa645998e82c31", checked := Try.checked }
namespace Rows
def none {H : Type} : Left H := { results := [], args := [] }

/-- 'kinoralaw12.SyntaxTells': WHATEVER THE INPUT: true; the input reads as it did. -/
def syntaxTellsSpec : ChangeSpec := { name := "syntaxTells", fn := fun _ => fun
  | [d1, d2] => { results := [.lit (.bool true)], args := [d1, d2] }
  | _ => none }
def syntaxTellsRow : OpenClaim := { program := "ytapfapggepagmaa", sum := "7d66756892d7d8e0e9a7b4eac3a01c317b4033f3b2d51257dcfa645998e82c31", func := "kinora/kinoralaw12.SyntaxTells", spec := "syntaxTells", apart := false }
def SyntaxTellsSaid : Prop := syntaxTellsRow.holds Try.pinned (OpenSpec.ofChange syntaxTellsSpec)

/-- ITS FALSE NEIGHBOUR: 'it returns false'. Refute it at one input. -/
def syntaxTellsWrong : ChangeSpec := { name := "syntaxTells", fn := fun _ => fun
  | [d1, d2] => { results := [.lit (.bool false)], args := [d1, d2] }
  | _ => none }
def SyntaxTellsWrongFalsely : Prop := syntaxTellsRow.holds Try.pinned (OpenSpec.ofChange syntaxTellsWrong)

/-- 'kinoralaw12.SyntaxApart': WHATEVER THE INPUT: true; the input reads as it did. -/
def syntaxApartSpec : ChangeSpec := { name := "syntaxApart", fn := fun _ => fun
  | [d1, d2, d3] => { results := [.lit (.bool true)], args := [d1, d2, d3] }
  | _ => none }
def syntaxApartRow : OpenClaim := { program := "ytapfapggepagmaa", sum := "7d66756892d7d8e0e9a7b4eac3a01c317b4033f3b2d51257dcfa645998e82c31", func := "kinora/kinoralaw12.SyntaxApart", spec := "syntaxApart", apart := false }
def SyntaxApartSaid : Prop := syntaxApartRow.holds Try.pinned (OpenSpec.ofChange syntaxApartSpec)

/-- ITS FALSE NEIGHBOUR: 'it returns false'. Refute it at one input. -/
def syntaxApartWrong : ChangeSpec := { name := "syntaxApart", fn := fun _ => fun
  | [d1, d2, d3] => { results := [.lit (.bool false)], args := [d1, d2, d3] }
  | _ => none }
def SyntaxApartWrongFalsely : Prop := syntaxApartRow.holds Try.pinned (OpenSpec.ofChange syntaxApartWrong)

/-- 'kinoralaw12.SyntaxBack': WHATEVER THE INPUT: true; the input reads as it did. -/
def syntaxBackSpec : ChangeSpec := { name := "syntaxBack", fn := fun _ => fun
  | [d1, d2] => { results := [.lit (.bool true)], args := [d1, d2] }
  | _ => none }
def syntaxBackRow : OpenClaim := { program := "ytapfapggepagmaa", sum := "7d66756892d7d8e0e9a7b4eac3a01c317b4033f3b2d51257dcfa645998e82c31", func := "kinora/kinoralaw12.SyntaxBack", spec := "syntaxBack", unfollowed := true, recurses := true, apart := false }
def SyntaxBackSaid : Prop := syntaxBackRow.holds Try.pinned (OpenSpec.ofChange syntaxBackSpec)

/-- ITS FALSE NEIGHBOUR: 'it returns false'. Refute it at one input. -/
def syntaxBackWrong : ChangeSpec := { name := "syntaxBack", fn := fun _ => fun
  | [d1, d2] => { results := [.lit (.bool false)], args := [d1, d2] }
  | _ => none }
def SyntaxBackWrongFalsely : Prop := syntaxBackRow.holds Try.pinned (OpenSpec.ofChange syntaxBackWrong)

/-- 'kinoralaw12.SyntaxHeads': WHATEVER THE INPUT: true; the input reads as it did. -/
def syntaxHeadsSpec : ChangeSpec := { name := "syntaxHeads", fn := fun _ => fun
  | [d1, d2, d3] => { results := [.lit (.bool true)], args := [d1, d2, d3] }
  | _ => none }
def syntaxHeadsRow : OpenClaim := { program := "ytapfapggepagmaa", sum := "7d66756892d7d8e0e9a7b4eac3a01c317b4033f3b2d51257dcfa645998e82c31", func := "kinora/kinoralaw12.SyntaxHeads", spec := "syntaxHeads", unfollowed := true, recurses := true, apart := false }
def SyntaxHeadsSaid : Prop := syntaxHeadsRow.holds Try.pinned (OpenSpec.ofChange syntaxHeadsSpec)

/-- ITS FALSE NEIGHBOUR: 'it returns false'. Refute it at one input. -/
def syntaxHeadsWrong : ChangeSpec := { name := "syntaxHeads", fn := fun _ => fun
  | [d1, d2, d3] => { results := [.lit (.bool false)], args := [d1, d2, d3] }
  | _ => none }
def SyntaxHeadsWrongFalsely : Prop := syntaxHeadsRow.holds Try.pinned (OpenSpec.ofChange syntaxHeadsWrong)

/-- 'kinoralaw12.SyntaxParses': WHATEVER THE INPUT: true; the input reads as it did. -/
def syntaxParsesSpec : ChangeSpec := { name := "syntaxParses", fn := fun _ => fun
  | [d1, d2, d3] => { results := [.lit (.bool true)], args := [d1, d2, d3] }
  | _ => none }
def syntaxParsesRow : OpenClaim := { program := "ytapfapggepagmaa", sum := "7d66756892d7d8e0e9a7b4eac3a01c317b4033f3b2d51257dcfa645998e82c31", func := "kinora/kinoralaw12.SyntaxParses", spec := "syntaxParses", unfollowed := true, recurses := true, apart := false }
def SyntaxParsesSaid : Prop := syntaxParsesRow.holds Try.pinned (OpenSpec.ofChange syntaxParsesSpec)

/-- ITS FALSE NEIGHBOUR: 'it returns false'. Refute it at one input. -/
def syntaxParsesWrong : ChangeSpec := { name := "syntaxParses", fn := fun _ => fun
  | [d1, d2, d3] => { results := [.lit (.bool false)], args := [d1, d2, d3] }
  | _ => none }
def SyntaxParsesWrongFalsely : Prop := syntaxParsesRow.holds Try.pinned (OpenSpec.ofChange syntaxParsesWrong)

/- THE SECOND FORM. 'bulk': how many values and letters a reading holds, each counted each time it is reached (what is shared counts as often as it is met; a slice's spare places count too). A statement '..UptoSaid' is the law's where the arguments, and the package variables that the reading takes, are together of bulk at most 1048576: NARROWER than '..Said'. Prove '..Said' where nothing that the law and all that it calls make is longer than what came in: it says more and counts as full. Else prove '..UptoSaid'. A law counts once. -/
mutual
def uptoBulk {H : Type} : DataW H → Nat
  | .lit (.string bytes) => bytes.length + 1
  | .lit _ => 1
  | .nil => 1
  | .ptr d => uptoBulk d + 1
  | .slice elems spare => uptoBulkAll elems + uptoBulkAll spare + 1
  | .agg parts => uptoBulkAll parts + 1
  | .iface _ d => uptoBulk d + 1
  | .map entries => uptoBulkEntries entries + 1
  | .held _ => 1
def uptoBulkAll {H : Type} : List (DataW H) → Nat
  | [] => 0
  | d :: r => uptoBulk d + uptoBulkAll r
def uptoBulkEntries {H : Type} : List (Lit × DataW H) → Nat
  | [] => 0
  | x :: r => uptoBulkEntry x + uptoBulkEntries r
def uptoBulkEntry {H : Type} : Lit × DataW H → Nat
  | (.string bytes, d) => bytes.length + uptoBulk d + 1
  | (_, d) => uptoBulk d + 1
 end
def uptoSmall : (H : Type) → List (DataW H) → Bool := fun _ ds => decide (uptoBulkAll ds ≤ 1048576)
def OpenSpec.upto (s : _root_.Go.ChangeSpec) : _root_.Go.OpenSpec := { _root_.Go.OpenSpec.ofChange s with cond := some uptoSmall }

/-- 'kinoralaw12.SyntaxTells', WHERE WHAT IT READS IS OF BULK AT MOST 1048576: true; the input reads as it did. -/
def syntaxTellsUptoRow : OpenClaim := { program := "ytapfapggepagmaa", sum := "7d66756892d7d8e0e9a7b4eac3a01c317b4033f3b2d51257dcfa645998e82c31", func := "kinora/kinoralaw12.SyntaxTells", spec := "syntaxTells", apart := false, narrowed := true }
def SyntaxTellsUptoSaid : Prop := syntaxTellsUptoRow.holds Try.pinned (OpenSpec.upto syntaxTellsSpec)

/-- 'kinoralaw12.SyntaxApart', WHERE WHAT IT READS IS OF BULK AT MOST 1048576: true; the input reads as it did. -/
def syntaxApartUptoRow : OpenClaim := { program := "ytapfapggepagmaa", sum := "7d66756892d7d8e0e9a7b4eac3a01c317b4033f3b2d51257dcfa645998e82c31", func := "kinora/kinoralaw12.SyntaxApart", spec := "syntaxApart", apart := false, narrowed := true }
def SyntaxApartUptoSaid : Prop := syntaxApartUptoRow.holds Try.pinned (OpenSpec.upto syntaxApartSpec)

/-- 'kinoralaw12.SyntaxBack', WHERE WHAT IT READS IS OF BULK AT MOST 1048576: true; the input reads as it did. -/
def syntaxBackUptoRow : OpenClaim := { program := "ytapfapggepagmaa", sum := "7d66756892d7d8e0e9a7b4eac3a01c317b4033f3b2d51257dcfa645998e82c31", func := "kinora/kinoralaw12.SyntaxBack", spec := "syntaxBack", unfollowed := true, recurses := true, apart := false, narrowed := true }
def SyntaxBackUptoSaid : Prop := syntaxBackUptoRow.holds Try.pinned (OpenSpec.upto syntaxBackSpec)

/-- 'kinoralaw12.SyntaxHeads', WHERE WHAT IT READS IS OF BULK AT MOST 1048576: true; the input reads as it did. -/
def syntaxHeadsUptoRow : OpenClaim := { program := "ytapfapggepagmaa", sum := "7d66756892d7d8e0e9a7b4eac3a01c317b4033f3b2d51257dcfa645998e82c31", func := "kinora/kinoralaw12.SyntaxHeads", spec := "syntaxHeads", unfollowed := true, recurses := true, apart := false, narrowed := true }
def SyntaxHeadsUptoSaid : Prop := syntaxHeadsUptoRow.holds Try.pinned (OpenSpec.upto syntaxHeadsSpec)

/-- 'kinoralaw12.SyntaxParses', WHERE WHAT IT READS IS OF BULK AT MOST 1048576: true; the input reads as it did. -/
def syntaxParsesUptoRow : OpenClaim := { program := "ytapfapggepagmaa", sum := "7d66756892d7d8e0e9a7b4eac3a01c317b4033f3b2d51257dcfa645998e82c31", func := "kinora/kinoralaw12.SyntaxParses", spec := "syntaxParses", unfollowed := true, recurses := true, apart := false, narrowed := true }
def SyntaxParsesUptoSaid : Prop := syntaxParsesUptoRow.holds Try.pinned (OpenSpec.upto syntaxParsesSpec)

end Rows
end Go.Proofs.Ytapfapggepagmaa
