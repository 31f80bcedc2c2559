/- The document's writer, each function by its contract. Conditions: the object is as the calls leave it; at most 2^40 bits. -/
import Derived.Test.YtijcollcncjdoaaRef01Pack
import Derived.Test.YtijcollcncjdoaaHeld
import Derived.Deep.RegionLaw
namespace Go.Proofs.Ytijcollcncjdoaa
open Go.RowKit Kin

/-- the length of the slice at block g -/
def lenAt (w : World) (g : Nat) : Nat := match w.cell? ⟨g, 0, none⟩ with | some (.slice _ n _) => n | _ => 0
end Go.Proofs.Ytijcollcncjdoaa
