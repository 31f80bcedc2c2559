/-
  No cell of these rows narrows 'for every input' (looked for: loops, veiled, ifaces, maps, wideKeys, modest, calm, conditions, laid).
  DERIVED. THE GIVEN ROWS OF THIS SEAT. 12 by the template 'for every input the law returns true; each argument reads behind the call as it read before'; 0 by the template 'total and deterministic' (their statements: YtdelaobffbaocaaTotals.lean).
  GIVEN WITH THE SEED: the statements are not yours to turn. If you find one false, say at which input.
  Laid BY PROGRAM, IN A SANDBOX (cutbox-rows.mjs): the forced cells as the released guide's own fill.sh prints them over the translation e856e64dbf49fbf7… (all of the seat's roots in one cut). By AI agents, Wed Nov 11 2026. No macro, syntax, notation, axiom, sorry.
-/
import Derived.Test.YtdelaobffbaocaaChecked
import GoSem.Claim
import GoSem.ClaimJoined
import GoSem.ClaimMapViews
import Derived.JoinedTies
import Derived.KernelRfl
namespace Go.Proofs.Ytdelaobffbaocaa
/- THE CELL 'sum', in the pinned program and in every row, IS THE sha256 OF THE DUMP (.gsa) THAT YtdelaobffbaocaaProg.lean LOADS. Nothing in Lean hashes anything: it is a label: what it is worth is what the hold of that sum in a sandbox is worth. -/
noncomputable def Try.pinned : Pinned := { name := "ytdelaobffbaocaa", sum := "e856e64dbf49fbf7b22c2c8592f314a45c1b684ffcbde1f0ad2818c83bcce26b", checked := Try.checked }
namespace Rows
def none {H : Type} : Left H := { results := [], args := [] }

/-- 'kinoralaw01.BitsPieces': WHATEVER THE INPUT: true; the input reads as it did. -/
def bitsPiecesSpec : ChangeSpec := { name := "bitsPieces", fn := fun _ => fun
  | [d1, d2, d3] => { results := [.lit (.bool true)], args := [d1, d2, d3] }
  | _ => none }
def bitsPiecesRow : OpenClaim := { program := "ytdelaobffbaocaa", sum := "e856e64dbf49fbf7b22c2c8592f314a45c1b684ffcbde1f0ad2818c83bcce26b", func := "kinora/kinoralaw01.BitsPieces", spec := "bitsPieces", apart := false }
def BitsPiecesSaid : Prop := bitsPiecesRow.holds Try.pinned (OpenSpec.ofChange bitsPiecesSpec)

/-- ITS FALSE NEIGHBOUR: 'it returns false'. Refute it at one input. -/
def bitsPiecesWrong : ChangeSpec := { name := "bitsPieces", fn := fun _ => fun
  | [d1, d2, d3] => { results := [.lit (.bool false)], args := [d1, d2, d3] }
  | _ => none }
def BitsPiecesWrongFalsely : Prop := bitsPiecesRow.holds Try.pinned (OpenSpec.ofChange bitsPiecesWrong)

/-- 'kinoralaw01.BitsWrites': WHATEVER THE INPUT: true; the input reads as it did. -/
def bitsWritesSpec : ChangeSpec := { name := "bitsWrites", fn := fun _ => fun
  | [d] => { results := [.lit (.bool true)], args := [d] }
  | _ => none }
def bitsWritesRow : OpenClaim := { program := "ytdelaobffbaocaa", sum := "e856e64dbf49fbf7b22c2c8592f314a45c1b684ffcbde1f0ad2818c83bcce26b", func := "kinora/kinoralaw01.BitsWrites", spec := "bitsWrites", apart := false }
def BitsWritesSaid : Prop := bitsWritesRow.holds Try.pinned (OpenSpec.ofChange bitsWritesSpec)

/-- ITS FALSE NEIGHBOUR: 'it returns false'. Refute it at one input. -/
def bitsWritesWrong : ChangeSpec := { name := "bitsWrites", fn := fun _ => fun
  | [d] => { results := [.lit (.bool false)], args := [d] }
  | _ => none }
def BitsWritesWrongFalsely : Prop := bitsWritesRow.holds Try.pinned (OpenSpec.ofChange bitsWritesWrong)

/-- 'kinoralaw01.BitsOwn': WHATEVER THE INPUT: true; the input reads as it did. -/
def bitsOwnSpec : ChangeSpec := { name := "bitsOwn", fn := fun _ => fun
  | [d1, d2] => { results := [.lit (.bool true)], args := [d1, d2] }
  | _ => none }
def bitsOwnRow : OpenClaim := { program := "ytdelaobffbaocaa", sum := "e856e64dbf49fbf7b22c2c8592f314a45c1b684ffcbde1f0ad2818c83bcce26b", func := "kinora/kinoralaw01.BitsOwn", spec := "bitsOwn", apart := false }
def BitsOwnSaid : Prop := bitsOwnRow.holds Try.pinned (OpenSpec.ofChange bitsOwnSpec)

/-- ITS FALSE NEIGHBOUR: 'it returns false'. Refute it at one input. -/
def bitsOwnWrong : ChangeSpec := { name := "bitsOwn", fn := fun _ => fun
  | [d1, d2] => { results := [.lit (.bool false)], args := [d1, d2] }
  | _ => none }
def BitsOwnWrongFalsely : Prop := bitsOwnRow.holds Try.pinned (OpenSpec.ofChange bitsOwnWrong)

/-- 'kinoralaw01.BitsReads': WHATEVER THE INPUT: true; the input reads as it did. -/
def bitsReadsSpec : ChangeSpec := { name := "bitsReads", fn := fun _ => fun
  | [d1, d2] => { results := [.lit (.bool true)], args := [d1, d2] }
  | _ => none }
def bitsReadsRow : OpenClaim := { program := "ytdelaobffbaocaa", sum := "e856e64dbf49fbf7b22c2c8592f314a45c1b684ffcbde1f0ad2818c83bcce26b", func := "kinora/kinoralaw01.BitsReads", spec := "bitsReads", apart := false }
def BitsReadsSaid : Prop := bitsReadsRow.holds Try.pinned (OpenSpec.ofChange bitsReadsSpec)

/-- ITS FALSE NEIGHBOUR: 'it returns false'. Refute it at one input. -/
def bitsReadsWrong : ChangeSpec := { name := "bitsReads", fn := fun _ => fun
  | [d1, d2] => { results := [.lit (.bool false)], args := [d1, d2] }
  | _ => none }
def BitsReadsWrongFalsely : Prop := bitsReadsRow.holds Try.pinned (OpenSpec.ofChange bitsReadsWrong)

/-- 'kinoralaw01.BitsBack': WHATEVER THE INPUT: true; the input reads as it did. -/
def bitsBackSpec : ChangeSpec := { name := "bitsBack", fn := fun _ => fun
  | [d] => { results := [.lit (.bool true)], args := [d] }
  | _ => none }
def bitsBackRow : OpenClaim := { program := "ytdelaobffbaocaa", sum := "e856e64dbf49fbf7b22c2c8592f314a45c1b684ffcbde1f0ad2818c83bcce26b", func := "kinora/kinoralaw01.BitsBack", spec := "bitsBack", apart := false }
def BitsBackSaid : Prop := bitsBackRow.holds Try.pinned (OpenSpec.ofChange bitsBackSpec)

/-- ITS FALSE NEIGHBOUR: 'it returns false'. Refute it at one input. -/
def bitsBackWrong : ChangeSpec := { name := "bitsBack", fn := fun _ => fun
  | [d] => { results := [.lit (.bool false)], args := [d] }
  | _ => none }
def BitsBackWrongFalsely : Prop := bitsBackRow.holds Try.pinned (OpenSpec.ofChange bitsBackWrong)

/-- 'kinoralaw01.BitsNil': WHATEVER THE INPUT: true; the input reads as it did. -/
def bitsNilSpec : ChangeSpec := { name := "bitsNil", fn := fun _ => fun
  | [d] => { results := [.lit (.bool true)], args := [d] }
  | _ => none }
def bitsNilRow : OpenClaim := { program := "ytdelaobffbaocaa", sum := "e856e64dbf49fbf7b22c2c8592f314a45c1b684ffcbde1f0ad2818c83bcce26b", func := "kinora/kinoralaw01.BitsNil", spec := "bitsNil", apart := false }
def BitsNilSaid : Prop := bitsNilRow.holds Try.pinned (OpenSpec.ofChange bitsNilSpec)

/-- ITS FALSE NEIGHBOUR: 'it returns false'. Refute it at one input. -/
def bitsNilWrong : ChangeSpec := { name := "bitsNil", fn := fun _ => fun
  | [d] => { results := [.lit (.bool false)], args := [d] }
  | _ => none }
def BitsNilWrongFalsely : Prop := bitsNilRow.holds Try.pinned (OpenSpec.ofChange bitsNilWrong)

/-- 'kinoralaw02.GolombTells': WHATEVER THE INPUT: true; the input reads as it did. -/
def golombTellsSpec : ChangeSpec := { name := "golombTells", fn := fun _ => fun
  | [d1, d2] => { results := [.lit (.bool true)], args := [d1, d2] }
  | _ => none }
def golombTellsRow : OpenClaim := { program := "ytdelaobffbaocaa", sum := "e856e64dbf49fbf7b22c2c8592f314a45c1b684ffcbde1f0ad2818c83bcce26b", func := "kinora/kinoralaw02.GolombTells", spec := "golombTells", apart := false }
def GolombTellsSaid : Prop := golombTellsRow.holds Try.pinned (OpenSpec.ofChange golombTellsSpec)

/-- ITS FALSE NEIGHBOUR: 'it returns false'. Refute it at one input. -/
def golombTellsWrong : ChangeSpec := { name := "golombTells", fn := fun _ => fun
  | [d1, d2] => { results := [.lit (.bool false)], args := [d1, d2] }
  | _ => none }
def GolombTellsWrongFalsely : Prop := golombTellsRow.holds Try.pinned (OpenSpec.ofChange golombTellsWrong)

/-- 'kinoralaw02.GolombWrites': WHATEVER THE INPUT: true; the input reads as it did. -/
def golombWritesSpec : ChangeSpec := { name := "golombWrites", fn := fun _ => fun
  | [d1, d2] => { results := [.lit (.bool true)], args := [d1, d2] }
  | _ => none }
def golombWritesRow : OpenClaim := { program := "ytdelaobffbaocaa", sum := "e856e64dbf49fbf7b22c2c8592f314a45c1b684ffcbde1f0ad2818c83bcce26b", func := "kinora/kinoralaw02.GolombWrites", spec := "golombWrites", apart := false }
def GolombWritesSaid : Prop := golombWritesRow.holds Try.pinned (OpenSpec.ofChange golombWritesSpec)

/-- ITS FALSE NEIGHBOUR: 'it returns false'. Refute it at one input. -/
def golombWritesWrong : ChangeSpec := { name := "golombWrites", fn := fun _ => fun
  | [d1, d2] => { results := [.lit (.bool false)], args := [d1, d2] }
  | _ => none }
def GolombWritesWrongFalsely : Prop := golombWritesRow.holds Try.pinned (OpenSpec.ofChange golombWritesWrong)

/-- 'kinoralaw02.GolombPrefix': WHATEVER THE INPUT: true; the input reads as it did. -/
def golombPrefixSpec : ChangeSpec := { name := "golombPrefix", fn := fun _ => fun
  | [d1, d2] => { results := [.lit (.bool true)], args := [d1, d2] }
  | _ => none }
def golombPrefixRow : OpenClaim := { program := "ytdelaobffbaocaa", sum := "e856e64dbf49fbf7b22c2c8592f314a45c1b684ffcbde1f0ad2818c83bcce26b", func := "kinora/kinoralaw02.GolombPrefix", spec := "golombPrefix", apart := false }
def GolombPrefixSaid : Prop := golombPrefixRow.holds Try.pinned (OpenSpec.ofChange golombPrefixSpec)

/-- ITS FALSE NEIGHBOUR: 'it returns false'. Refute it at one input. -/
def golombPrefixWrong : ChangeSpec := { name := "golombPrefix", fn := fun _ => fun
  | [d1, d2] => { results := [.lit (.bool false)], args := [d1, d2] }
  | _ => none }
def GolombPrefixWrongFalsely : Prop := golombPrefixRow.holds Try.pinned (OpenSpec.ofChange golombPrefixWrong)

/-- 'kinoralaw02.GolombNil': WHATEVER THE INPUT: true; the input reads as it did. -/
def golombNilSpec : ChangeSpec := { name := "golombNil", fn := fun _ => fun
  | [d1, d2] => { results := [.lit (.bool true)], args := [d1, d2] }
  | _ => none }
def golombNilRow : OpenClaim := { program := "ytdelaobffbaocaa", sum := "e856e64dbf49fbf7b22c2c8592f314a45c1b684ffcbde1f0ad2818c83bcce26b", func := "kinora/kinoralaw02.GolombNil", spec := "golombNil", apart := false }
def GolombNilSaid : Prop := golombNilRow.holds Try.pinned (OpenSpec.ofChange golombNilSpec)

/-- ITS FALSE NEIGHBOUR: 'it returns false'. Refute it at one input. -/
def golombNilWrong : ChangeSpec := { name := "golombNil", fn := fun _ => fun
  | [d1, d2] => { results := [.lit (.bool false)], args := [d1, d2] }
  | _ => none }
def GolombNilWrongFalsely : Prop := golombNilRow.holds Try.pinned (OpenSpec.ofChange golombNilWrong)

/-- 'kinoralaw02.GolombReads': WHATEVER THE INPUT: true; the input reads as it did. -/
def golombReadsSpec : ChangeSpec := { name := "golombReads", fn := fun _ => fun
  | [d1, d2] => { results := [.lit (.bool true)], args := [d1, d2] }
  | _ => none }
def golombReadsRow : OpenClaim := { program := "ytdelaobffbaocaa", sum := "e856e64dbf49fbf7b22c2c8592f314a45c1b684ffcbde1f0ad2818c83bcce26b", func := "kinora/kinoralaw02.GolombReads", spec := "golombReads", apart := false }
def GolombReadsSaid : Prop := golombReadsRow.holds Try.pinned (OpenSpec.ofChange golombReadsSpec)

/-- ITS FALSE NEIGHBOUR: 'it returns false'. Refute it at one input. -/
def golombReadsWrong : ChangeSpec := { name := "golombReads", fn := fun _ => fun
  | [d1, d2] => { results := [.lit (.bool false)], args := [d1, d2] }
  | _ => none }
def GolombReadsWrongFalsely : Prop := golombReadsRow.holds Try.pinned (OpenSpec.ofChange golombReadsWrong)

/-- 'kinoralaw02.GolombBack': WHATEVER THE INPUT: true; the input reads as it did. -/
def golombBackSpec : ChangeSpec := { name := "golombBack", fn := fun _ => fun
  | [d1, d2] => { results := [.lit (.bool true)], args := [d1, d2] }
  | _ => none }
def golombBackRow : OpenClaim := { program := "ytdelaobffbaocaa", sum := "e856e64dbf49fbf7b22c2c8592f314a45c1b684ffcbde1f0ad2818c83bcce26b", func := "kinora/kinoralaw02.GolombBack", spec := "golombBack", apart := false }
def GolombBackSaid : Prop := golombBackRow.holds Try.pinned (OpenSpec.ofChange golombBackSpec)

/-- ITS FALSE NEIGHBOUR: 'it returns false'. Refute it at one input. -/
def golombBackWrong : ChangeSpec := { name := "golombBack", fn := fun _ => fun
  | [d1, d2] => { results := [.lit (.bool false)], args := [d1, d2] }
  | _ => none }
def GolombBackWrongFalsely : Prop := golombBackRow.holds Try.pinned (OpenSpec.ofChange golombBackWrong)

/- THE SECOND FORM. 'bulk': how many values and letters a reading holds, each counted each time it is reached (what is shared counts as often as it is met; a slice's spare places count too). A statement '..UptoSaid' is the law's where the arguments, and the package variables that the reading takes, are together of bulk at most 1048576: NARROWER than '..Said'. Prove '..Said' where nothing that the law and all that it calls make is longer than what came in: it says more and counts as full. Else prove '..UptoSaid'. A law counts once. -/
mutual
def uptoBulk {H : Type} : DataW H → Nat
  | .lit (.string bytes) => bytes.length + 1
  | .lit _ => 1
  | .nil => 1
  | .ptr d => uptoBulk d + 1
  | .slice elems spare => uptoBulkAll elems + uptoBulkAll spare + 1
  | .agg parts => uptoBulkAll parts + 1
  | .iface _ d => uptoBulk d + 1
  | .map entries => uptoBulkEntries entries + 1
  | .held _ => 1
def uptoBulkAll {H : Type} : List (DataW H) → Nat
  | [] => 0
  | d :: r => uptoBulk d + uptoBulkAll r
def uptoBulkEntries {H : Type} : List (Lit × DataW H) → Nat
  | [] => 0
  | x :: r => uptoBulkEntry x + uptoBulkEntries r
def uptoBulkEntry {H : Type} : Lit × DataW H → Nat
  | (.string bytes, d) => bytes.length + uptoBulk d + 1
  | (_, d) => uptoBulk d + 1
 end
def uptoSmall : (H : Type) → List (DataW H) → Bool := fun _ ds => decide (uptoBulkAll ds ≤ 1048576)
def OpenSpec.upto (s : _root_.Go.ChangeSpec) : _root_.Go.OpenSpec := { _root_.Go.OpenSpec.ofChange s with cond := some uptoSmall }

/-- 'kinoralaw01.BitsPieces', WHERE WHAT IT READS IS OF BULK AT MOST 1048576: true; the input reads as it did. -/
def bitsPiecesUptoRow : OpenClaim := { program := "ytdelaobffbaocaa", sum := "e856e64dbf49fbf7b22c2c8592f314a45c1b684ffcbde1f0ad2818c83bcce26b", func := "kinora/kinoralaw01.BitsPieces", spec := "bitsPieces", apart := false, narrowed := true }
def BitsPiecesUptoSaid : Prop := bitsPiecesUptoRow.holds Try.pinned (OpenSpec.upto bitsPiecesSpec)

/-- 'kinoralaw01.BitsWrites', WHERE WHAT IT READS IS OF BULK AT MOST 1048576: true; the input reads as it did. -/
def bitsWritesUptoRow : OpenClaim := { program := "ytdelaobffbaocaa", sum := "e856e64dbf49fbf7b22c2c8592f314a45c1b684ffcbde1f0ad2818c83bcce26b", func := "kinora/kinoralaw01.BitsWrites", spec := "bitsWrites", apart := false, narrowed := true }
def BitsWritesUptoSaid : Prop := bitsWritesUptoRow.holds Try.pinned (OpenSpec.upto bitsWritesSpec)

/-- 'kinoralaw01.BitsOwn', WHERE WHAT IT READS IS OF BULK AT MOST 1048576: true; the input reads as it did. -/
def bitsOwnUptoRow : OpenClaim := { program := "ytdelaobffbaocaa", sum := "e856e64dbf49fbf7b22c2c8592f314a45c1b684ffcbde1f0ad2818c83bcce26b", func := "kinora/kinoralaw01.BitsOwn", spec := "bitsOwn", apart := false, narrowed := true }
def BitsOwnUptoSaid : Prop := bitsOwnUptoRow.holds Try.pinned (OpenSpec.upto bitsOwnSpec)

/-- 'kinoralaw01.BitsReads', WHERE WHAT IT READS IS OF BULK AT MOST 1048576: true; the input reads as it did. -/
def bitsReadsUptoRow : OpenClaim := { program := "ytdelaobffbaocaa", sum := "e856e64dbf49fbf7b22c2c8592f314a45c1b684ffcbde1f0ad2818c83bcce26b", func := "kinora/kinoralaw01.BitsReads", spec := "bitsReads", apart := false, narrowed := true }
def BitsReadsUptoSaid : Prop := bitsReadsUptoRow.holds Try.pinned (OpenSpec.upto bitsReadsSpec)

/-- 'kinoralaw01.BitsBack', WHERE WHAT IT READS IS OF BULK AT MOST 1048576: true; the input reads as it did. -/
def bitsBackUptoRow : OpenClaim := { program := "ytdelaobffbaocaa", sum := "e856e64dbf49fbf7b22c2c8592f314a45c1b684ffcbde1f0ad2818c83bcce26b", func := "kinora/kinoralaw01.BitsBack", spec := "bitsBack", apart := false, narrowed := true }
def BitsBackUptoSaid : Prop := bitsBackUptoRow.holds Try.pinned (OpenSpec.upto bitsBackSpec)

/-- 'kinoralaw01.BitsNil', WHERE WHAT IT READS IS OF BULK AT MOST 1048576: true; the input reads as it did. -/
def bitsNilUptoRow : OpenClaim := { program := "ytdelaobffbaocaa", sum := "e856e64dbf49fbf7b22c2c8592f314a45c1b684ffcbde1f0ad2818c83bcce26b", func := "kinora/kinoralaw01.BitsNil", spec := "bitsNil", apart := false, narrowed := true }
def BitsNilUptoSaid : Prop := bitsNilUptoRow.holds Try.pinned (OpenSpec.upto bitsNilSpec)

/-- 'kinoralaw02.GolombTells', WHERE WHAT IT READS IS OF BULK AT MOST 1048576: true; the input reads as it did. -/
def golombTellsUptoRow : OpenClaim := { program := "ytdelaobffbaocaa", sum := "e856e64dbf49fbf7b22c2c8592f314a45c1b684ffcbde1f0ad2818c83bcce26b", func := "kinora/kinoralaw02.GolombTells", spec := "golombTells", apart := false, narrowed := true }
def GolombTellsUptoSaid : Prop := golombTellsUptoRow.holds Try.pinned (OpenSpec.upto golombTellsSpec)

/-- 'kinoralaw02.GolombWrites', WHERE WHAT IT READS IS OF BULK AT MOST 1048576: true; the input reads as it did. -/
def golombWritesUptoRow : OpenClaim := { program := "ytdelaobffbaocaa", sum := "e856e64dbf49fbf7b22c2c8592f314a45c1b684ffcbde1f0ad2818c83bcce26b", func := "kinora/kinoralaw02.GolombWrites", spec := "golombWrites", apart := false, narrowed := true }
def GolombWritesUptoSaid : Prop := golombWritesUptoRow.holds Try.pinned (OpenSpec.upto golombWritesSpec)

/-- 'kinoralaw02.GolombPrefix', WHERE WHAT IT READS IS OF BULK AT MOST 1048576: true; the input reads as it did. -/
def golombPrefixUptoRow : OpenClaim := { program := "ytdelaobffbaocaa", sum := "e856e64dbf49fbf7b22c2c8592f314a45c1b684ffcbde1f0ad2818c83bcce26b", func := "kinora/kinoralaw02.GolombPrefix", spec := "golombPrefix", apart := false, narrowed := true }
def GolombPrefixUptoSaid : Prop := golombPrefixUptoRow.holds Try.pinned (OpenSpec.upto golombPrefixSpec)

/-- 'kinoralaw02.GolombNil', WHERE WHAT IT READS IS OF BULK AT MOST 1048576: true; the input reads as it did. -/
def golombNilUptoRow : OpenClaim := { program := "ytdelaobffbaocaa", sum := "e856e64dbf49fbf7b22c2c8592f314a45c1b684ffcbde1f0ad2818c83bcce26b", func := "kinora/kinoralaw02.GolombNil", spec := "golombNil", apart := false, narrowed := true }
def GolombNilUptoSaid : Prop := golombNilUptoRow.holds Try.pinned (OpenSpec.upto golombNilSpec)

/-- 'kinoralaw02.GolombReads', WHERE WHAT IT READS IS OF BULK AT MOST 1048576: true; the input reads as it did. -/
def golombReadsUptoRow : OpenClaim := { program := "ytdelaobffbaocaa", sum := "e856e64dbf49fbf7b22c2c8592f314a45c1b684ffcbde1f0ad2818c83bcce26b", func := "kinora/kinoralaw02.GolombReads", spec := "golombReads", apart := false, narrowed := true }
def GolombReadsUptoSaid : Prop := golombReadsUptoRow.holds Try.pinned (OpenSpec.upto golombReadsSpec)

/-- 'kinoralaw02.GolombBack', WHERE WHAT IT READS IS OF BULK AT MOST 1048576: true; the input reads as it did. -/
def golombBackUptoRow : OpenClaim := { program := "ytdelaobffbaocaa", sum := "e856e64dbf49fbf7b22c2c8592f314a45c1b684ffcbde1f0ad2818c83bcce26b", func := "kinora/kinoralaw02.GolombBack", spec := "golombBack", apart := false, narrowed := true }
def GolombBackUptoSaid : Prop := golombBackUptoRow.holds Try.pinned (OpenSpec.upto golombBackSpec)

end Rows
end Go.Proofs.Ytdelaobffbaocaa
