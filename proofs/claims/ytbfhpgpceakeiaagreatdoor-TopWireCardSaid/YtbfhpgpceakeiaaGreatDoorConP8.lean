/- Contracts of the closed run (printed by wip/gen_con.py). -/
import Derived.Test.YtbfhpgpceakeiaaGreatDoorConB
import Derived.Test.YtbfhpgpceakeiaaGreatDoorConP1
import Derived.Test.YtbfhpgpceakeiaaGreatDoorConP2
import Derived.Test.YtbfhpgpceakeiaaGreatDoorConP3
import Derived.Test.YtbfhpgpceakeiaaGreatDoorConP5
namespace Go.Proofs.YtbfhpgpceakeiaaGreatDoor.Tw
open Kex Kex.Sh Go Go.Proofs
theorem g55 : Good c55 := gcon (ga g6 gn) (by decide +kernel)
theorem g534 : Good c534 := gcon (ga g520 (ga g531 (ga g532 gn))) (by decide +kernel)
theorem g554 : Good c554 := gcon (ga g6 gn) (by decide +kernel)
theorem g1613 : Good c1613 := gcon (ga g326 (ga g436 (ga g438 (ga g445 gn)))) (by decide +kernel)
theorem g1652 : Good c1652 := gcon (ga g6 (ga g1619 gn)) (by decide +kernel)
theorem g1809 : Good c1809 := gcon (ga g6 gn) (by decide +kernel)
theorem g2069 : Good c2069 := gcon (ga g6 gn) (by decide +kernel)
theorem g2811 : Good c2811 := gcon (ga g2611 gn) (by decide +kernel)
theorem g3235 : Good c3235 := gcon (ga g2611 gn) (by decide +kernel)
theorem g3484 : Good c3484 := gcon (ga g2611 gn) (by decide +kernel)
end Go.Proofs.YtbfhpgpceakeiaaGreatDoor.Tw
