/-
  No cell of these rows narrows 'for every input' (looked for: loops, veiled, ifaces, maps, wideKeys, modest, calm, conditions, laid).
  DERIVED. THE GIVEN ROWS OF THIS SEAT. 4 by the template 'for every input the law returns true; each argument reads behind the call as it read before'; 0 by the template 'total and deterministic' (their statements: YtjofojjinoipaaaTotals.lean).
  GIVEN WITH THE SEED: the statements are not yours to turn. If you find one false, say at which input.
  Laid BY PROGRAM, IN A SANDBOX (cutbox-rows.mjs): the forced cells as the released guide's own fill.sh prints them over the translation 8df4251aeddeefe4… (all of the seat's roots in one cut). By AI agents, Wed Nov 11 2026. No macro, syntax, notation, axiom, sorry.
-/
import Derived.Test.YtjofojjinoipaaaChecked
import GoSem.Claim
import GoSem.ClaimJoined
import GoSem.ClaimMapViews
import Derived.JoinedTies
import Derived.KernelRfl
namespace Go.Proofs.Ytjofojjinoipaaa
/- THE CELL 'sum', in the pinned program and in every row, IS THE sha256 OF THE DUMP (.gsa) THAT YtjofojjinoipaaaProg.lean LOADS. Nothing in Lean hashes anything: it is a label: what it is worth is what the hold of that sum in a sandbox is worth. -/
noncomputable def Try.pinned : Pinned := { name := "ytjofojjinoipaaa", sum := "8df4251aeddeefe44cd500d8d319b54c4fd3dbc2bcc136979fe00ecf347035ad", checked := Try.checked }
namespace Rows
def none {H : Type} : Left H := { results := [], args := [] }

/-- 'kinoralaw16.BoxFiles': WHATEVER THE INPUT: true; the input reads as it did. -/
def boxFilesSpec : ChangeSpec := { name := "boxFiles", fn := fun _ => fun
  | [d1, d2, d3] => { results := [.lit (.bool true)], args := [d1, d2, d3] }
  | _ => none }
def boxFilesRow : OpenClaim := { program := "ytjofojjinoipaaa", sum := "8df4251aeddeefe44cd500d8d319b54c4fd3dbc2bcc136979fe00ecf347035ad", func := "kinora/kinoralaw16.BoxFiles", spec := "boxFiles", unfollowed := true, recurses := true, apart := false }
def BoxFilesSaid : Prop := boxFilesRow.holds Try.pinned (OpenSpec.ofChange boxFilesSpec)

/-- ITS FALSE NEIGHBOUR: 'it returns false'. Refute it at one input. -/
def boxFilesWrong : ChangeSpec := { name := "boxFiles", fn := fun _ => fun
  | [d1, d2, d3] => { results := [.lit (.bool false)], args := [d1, d2, d3] }
  | _ => none }
def BoxFilesWrongFalsely : Prop := boxFilesRow.holds Try.pinned (OpenSpec.ofChange boxFilesWrong)

/-- 'kinoralaw16.BoxBack': WHATEVER THE INPUT: true; the input reads as it did. -/
def boxBackSpec : ChangeSpec := { name := "boxBack", fn := fun _ => fun
  | [d1, d2, d3] => { results := [.lit (.bool true)], args := [d1, d2, d3] }
  | _ => none }
def boxBackRow : OpenClaim := { program := "ytjofojjinoipaaa", sum := "8df4251aeddeefe44cd500d8d319b54c4fd3dbc2bcc136979fe00ecf347035ad", func := "kinora/kinoralaw16.BoxBack", spec := "boxBack", unfollowed := true, recurses := true, apart := false }
def BoxBackSaid : Prop := boxBackRow.holds Try.pinned (OpenSpec.ofChange boxBackSpec)

/-- ITS FALSE NEIGHBOUR: 'it returns false'. Refute it at one input. -/
def boxBackWrong : ChangeSpec := { name := "boxBack", fn := fun _ => fun
  | [d1, d2, d3] => { results := [.lit (.bool false)], args := [d1, d2, d3] }
  | _ => none }
def BoxBackWrongFalsely : Prop := boxBackRow.holds Try.pinned (OpenSpec.ofChange boxBackWrong)

/-- 'kinoralaw16.BoxPieces': WHATEVER THE INPUT: true; the input reads as it did. -/
def boxPiecesSpec : ChangeSpec := { name := "boxPieces", fn := fun _ => fun
  | [d1, d2, d3] => { results := [.lit (.bool true)], args := [d1, d2, d3] }
  | _ => none }
def boxPiecesRow : OpenClaim := { program := "ytjofojjinoipaaa", sum := "8df4251aeddeefe44cd500d8d319b54c4fd3dbc2bcc136979fe00ecf347035ad", func := "kinora/kinoralaw16.BoxPieces", spec := "boxPieces", unfollowed := true, recurses := true, apart := false }
def BoxPiecesSaid : Prop := boxPiecesRow.holds Try.pinned (OpenSpec.ofChange boxPiecesSpec)

/-- ITS FALSE NEIGHBOUR: 'it returns false'. Refute it at one input. -/
def boxPiecesWrong : ChangeSpec := { name := "boxPieces", fn := fun _ => fun
  | [d1, d2, d3] => { results := [.lit (.bool false)], args := [d1, d2, d3] }
  | _ => none }
def BoxPiecesWrongFalsely : Prop := boxPiecesRow.holds Try.pinned (OpenSpec.ofChange boxPiecesWrong)

/-- 'kinoralaw16.BoxLengths': WHATEVER THE INPUT: true; the input reads as it did. -/
def boxLengthsSpec : ChangeSpec := { name := "boxLengths", fn := fun _ => fun
  | [d1, d2] => { results := [.lit (.bool true)], args := [d1, d2] }
  | _ => none }
def boxLengthsRow : OpenClaim := { program := "ytjofojjinoipaaa", sum := "8df4251aeddeefe44cd500d8d319b54c4fd3dbc2bcc136979fe00ecf347035ad", func := "kinora/kinoralaw16.BoxLengths", spec := "boxLengths", unfollowed := true, recurses := true, apart := false }
def BoxLengthsSaid : Prop := boxLengthsRow.holds Try.pinned (OpenSpec.ofChange boxLengthsSpec)

/-- ITS FALSE NEIGHBOUR: 'it returns false'. Refute it at one input. -/
def boxLengthsWrong : ChangeSpec := { name := "boxLengths", fn := fun _ => fun
  | [d1, d2] => { results := [.lit (.bool false)], args := [d1, d2] }
  | _ => none }
def BoxLengthsWrongFalsely : Prop := boxLengthsRow.holds Try.pinned (OpenSpec.ofChange boxLengthsWrong)

/- THE SECOND FORM. 'bulk': how many values and letters a reading holds, each counted each time it is reached (what is shared counts as often as it is met; a slice's spare places count too). A statement '..UptoSaid' is the law's where the arguments, and the package variables that the reading takes, are together of bulk at most 1048576: NARROWER than '..Said'. Prove '..Said' where nothing that the law and all that it calls make is longer than what came in: it says more and counts as full. Else prove '..UptoSaid'. A law counts once. -/
mutual
def uptoBulk {H : Type} : DataW H → Nat
  | .lit (.string bytes) => bytes.length + 1
  | .lit _ => 1
  | .nil => 1
  | .ptr d => uptoBulk d + 1
  | .slice elems spare => uptoBulkAll elems + uptoBulkAll spare + 1
  | .agg parts => uptoBulkAll parts + 1
  | .iface _ d => uptoBulk d + 1
  | .map entries => uptoBulkEntries entries + 1
  | .held _ => 1
def uptoBulkAll {H : Type} : List (DataW H) → Nat
  | [] => 0
  | d :: r => uptoBulk d + uptoBulkAll r
def uptoBulkEntries {H : Type} : List (Lit × DataW H) → Nat
  | [] => 0
  | x :: r => uptoBulkEntry x + uptoBulkEntries r
def uptoBulkEntry {H : Type} : Lit × DataW H → Nat
  | (.string bytes, d) => bytes.length + uptoBulk d + 1
  | (_, d) => uptoBulk d + 1
 end
def uptoSmall : (H : Type) → List (DataW H) → Bool := fun _ ds => decide (uptoBulkAll ds ≤ 1048576)
def OpenSpec.upto (s : _root_.Go.ChangeSpec) : _root_.Go.OpenSpec := { _root_.Go.OpenSpec.ofChange s with cond := some uptoSmall }

/-- 'kinoralaw16.BoxFiles', WHERE WHAT IT READS IS OF BULK AT MOST 1048576: true; the input reads as it did. -/
def boxFilesUptoRow : OpenClaim := { program := "ytjofojjinoipaaa", sum := "8df4251aeddeefe44cd500d8d319b54c4fd3dbc2bcc136979fe00ecf347035ad", func := "kinora/kinoralaw16.BoxFiles", spec := "boxFiles", unfollowed := true, recurses := true, apart := false, narrowed := true }
def BoxFilesUptoSaid : Prop := boxFilesUptoRow.holds Try.pinned (OpenSpec.upto boxFilesSpec)

/-- 'kinoralaw16.BoxBack', WHERE WHAT IT READS IS OF BULK AT MOST 1048576: true; the input reads as it did. -/
def boxBackUptoRow : OpenClaim := { program := "ytjofojjinoipaaa", sum := "8df4251aeddeefe44cd500d8d319b54c4fd3dbc2bcc136979fe00ecf347035ad", func := "kinora/kinoralaw16.BoxBack", spec := "boxBack", unfollowed := true, recurses := true, apart := false, narrowed := true }
def BoxBackUptoSaid : Prop := boxBackUptoRow.holds Try.pinned (OpenSpec.upto boxBackSpec)

/-- 'kinoralaw16.BoxPieces', WHERE WHAT IT READS IS OF BULK AT MOST 1048576: true; the input reads as it did. -/
def boxPiecesUptoRow : OpenClaim := { program := "ytjofojjinoipaaa", sum := "8df4251aeddeefe44cd500d8d319b54c4fd3dbc2bcc136979fe00ecf347035ad", func := "kinora/kinoralaw16.BoxPieces", spec := "boxPieces", unfollowed := true, recurses := true, apart := false, narrowed := true }
def BoxPiecesUptoSaid : Prop := boxPiecesUptoRow.holds Try.pinned (OpenSpec.upto boxPiecesSpec)

/-- 'kinoralaw16.BoxLengths', WHERE WHAT IT READS IS OF BULK AT MOST 1048576: true; the input reads as it did. -/
def boxLengthsUptoRow : OpenClaim := { program := "ytjofojjinoipaaa", sum := "8df4251aeddeefe44cd500d8d319b54c4fd3dbc2bcc136979fe00ecf347035ad", func := "kinora/kinoralaw16.BoxLengths", spec := "boxLengths", unfollowed := true, recurses := true, apart := false, narrowed := true }
def BoxLengthsUptoSaid : Prop := boxLengthsUptoRow.holds Try.pinned (OpenSpec.upto boxLengthsSpec)

end Rows
end Go.Proofs.Ytjofojjinoipaaa
