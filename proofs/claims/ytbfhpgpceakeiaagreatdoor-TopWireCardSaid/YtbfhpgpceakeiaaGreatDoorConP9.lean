/- Contracts of the closed run (printed by wip/gen_con.py). -/
import Derived.Test.YtbfhpgpceakeiaaGreatDoorConB
import Derived.Test.YtbfhpgpceakeiaaGreatDoorConP1
import Derived.Test.YtbfhpgpceakeiaaGreatDoorConP2
import Derived.Test.YtbfhpgpceakeiaaGreatDoorConP3
import Derived.Test.YtbfhpgpceakeiaaGreatDoorConP4
import Derived.Test.YtbfhpgpceakeiaaGreatDoorConP5
namespace Go.Proofs.YtbfhpgpceakeiaaGreatDoor.Tw
open Kex Kex.Sh Go Go.Proofs
theorem g189 : Good c189 := gcon (ga g56 (ga g57 (ga g58 gn))) (by decide +kernel)
theorem g512 : Good c512 := gcon (ga g326 (ga g436 (ga g438 (ga g445 gn)))) (by decide +kernel)
theorem g687 : Good c687 := gcon (ga g56 (ga g555 (ga g556 gn))) (by decide +kernel)
theorem g860 : Good c860 := gcon (ga g532 (ga g854 (ga g858 gn))) (by decide +kernel)
theorem g1150 : Good c1150 := gcon (ga g6 gn) (by decide +kernel)
theorem g1413 : Good c1413 := gcon (ga g56 (ga g753 (ga g1217 (ga g1282 (ga g1347 (ga g1412 gn)))))) (by decide +kernel)
theorem g1939 : Good c1939 := gcon (ga g6 gn) (by decide +kernel)
theorem g2199 : Good c2199 := gcon (ga g6 gn) (by decide +kernel)
theorem g2907 : Good c2907 := gcon (ga g2611 gn) (by decide +kernel)
theorem g3213 : Good c3213 := gcon (ga g2611 gn) (by decide +kernel)
theorem g3665 : Good c3665 := gcon (ga g326 (ga g445 (ga g3664 gn))) (by decide +kernel)
end Go.Proofs.YtbfhpgpceakeiaaGreatDoor.Tw
