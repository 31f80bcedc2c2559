/- Contracts of the closed run (printed by wip/gen_con.py). -/
import Derived.Test.YtbfhpgpceakeiaaGreatDoorConB
import Derived.Test.YtbfhpgpceakeiaaGreatDoorConP1
import Derived.Test.YtbfhpgpceakeiaaGreatDoorConP2
import Derived.Test.YtbfhpgpceakeiaaGreatDoorConP4
import Derived.Test.YtbfhpgpceakeiaaGreatDoorConP5
namespace Go.Proofs.YtbfhpgpceakeiaaGreatDoor.Tw
open Kex Kex.Sh Go Go.Proofs
theorem g123 : Good c123 := gcon (ga g56 (ga g57 (ga g58 (ga g59 gn)))) (by decide +kernel)
theorem g254 : Good c254 := gcon (ga g56 (ga g57 (ga g58 gn))) (by decide +kernel)
theorem g320 : Good c320 := gcon (ga g56 (ga g57 (ga g58 (ga g255 gn)))) (by decide +kernel)
theorem g864 : Good c864 := gcon (ga g6 gn) (by decide +kernel)
theorem g1127 : Good c1127 := gcon (ga g56 (ga g124 (ga g622 (ga g753 (ga g931 (ga g996 (ga g1061 (ga g1126 gn)))))))) (by decide +kernel)
theorem g3312 : Good c3312 := gcon (ga g2611 gn) (by decide +kernel)
theorem g3399 : Good c3399 := gcon (ga g2611 gn) (by decide +kernel)
theorem g3462 : Good c3462 := gcon (ga g2611 gn) (by decide +kernel)
theorem g3565 : Good c3565 := gcon (ga g2611 gn) (by decide +kernel)
end Go.Proofs.YtbfhpgpceakeiaaGreatDoor.Tw
