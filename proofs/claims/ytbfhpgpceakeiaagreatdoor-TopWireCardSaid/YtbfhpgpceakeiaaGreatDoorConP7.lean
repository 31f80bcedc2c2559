/- Contracts of the closed run (printed by wip/gen_con.py). -/
import Derived.Test.YtbfhpgpceakeiaaGreatDoorConB
import Derived.Test.YtbfhpgpceakeiaaGreatDoorConP1
import Derived.Test.YtbfhpgpceakeiaaGreatDoorConP2
import Derived.Test.YtbfhpgpceakeiaaGreatDoorConP3
import Derived.Test.YtbfhpgpceakeiaaGreatDoorConP5
namespace Go.Proofs.YtbfhpgpceakeiaaGreatDoor.Tw
open Kex Kex.Sh Go Go.Proofs
theorem g621 : Good c621 := gcon (ga g56 (ga g555 (ga g556 (ga g557 gn)))) (by decide +kernel)
theorem g752 : Good c752 := gcon (ga g56 (ga g555 (ga g556 gn))) (by decide +kernel)
theorem g818 : Good c818 := gcon (ga g56 (ga g532 (ga g555 (ga g556 gn)))) (by decide +kernel)
theorem g1458 : Good c1458 := gcon (ga g56 (ga g124 (ga g1454 (ga g1455 (ga g1456 (ga g1457 gn)))))) (by decide +kernel)
theorem g1537 : Good c1537 := gcon (ga g326 (ga g436 (ga g438 (ga g445 gn)))) (by decide +kernel)
theorem g2618 : Good c2618 := gcon (ga g12 (ga g2350 (ga g2611 gn))) (by decide +kernel)
theorem g2635 : Good c2635 := gcon (ga g2611 gn) (by decide +kernel)
theorem g2882 : Good c2882 := gcon (ga g2611 gn) (by decide +kernel)
theorem g2990 : Good c2990 := gcon (ga g2611 gn) (by decide +kernel)
theorem g3152 : Good c3152 := gcon (ga g2611 gn) (by decide +kernel)
end Go.Proofs.YtbfhpgpceakeiaaGreatDoor.Tw
