/- Contracts of the closed run (printed by wip/gen_con.py). -/
import Derived.Test.YtbfhpgpceakeiaaGreatDoorConB
import Derived.Test.YtbfhpgpceakeiaaGreatDoorConP1
import Derived.Test.YtbfhpgpceakeiaaGreatDoorConP10
import Derived.Test.YtbfhpgpceakeiaaGreatDoorConP2
import Derived.Test.YtbfhpgpceakeiaaGreatDoorConP3
import Derived.Test.YtbfhpgpceakeiaaGreatDoorConP4
import Derived.Test.YtbfhpgpceakeiaaGreatDoorConP5
import Derived.Test.YtbfhpgpceakeiaaGreatDoorConP6
import Derived.Test.YtbfhpgpceakeiaaGreatDoorConP7
import Derived.Test.YtbfhpgpceakeiaaGreatDoorConP8
import Derived.Test.YtbfhpgpceakeiaaGreatDoorConP9
namespace Go.Proofs.YtbfhpgpceakeiaaGreatDoor.Tw
open Kex Kex.Sh Go Go.Proofs
theorem g862 : Good c862 := gcon (ga g326 (ga g554 (ga g753 (ga g819 (ga g836 (ga g839 (ga g840 (ga g841 (ga g860 gn))))))))) (by decide +kernel)
theorem g3371 : Good c3371 := gcon (ga g3152 (ga g3213 (ga g3235 (ga g3312 (ga g3361 gn))))) (by decide +kernel)
theorem g3800 : Good c3800 := gcon (ga g31 (ga g35 (ga g123 (ga g326 (ga g534 (ga g752 (ga g860 (ga g996 (ga g1217 (ga g3665 (ga g3679 (ga g3752 (ga g3797 gn))))))))))))) (by decide +kernel)
theorem g1661 : Good c1661 := gcon (ga g6 (ga g7 (ga g28 (ga g31 (ga g35 (ga g55 (ga g124 (ga g321 (ga g326 (ga g347 (ga g432 (ga g512 (ga g534 (ga g753 (ga g836 (ga g839 (ga g840 (ga g841 (ga g860 (ga g862 (ga g1148 (ga g1150 (ga g1413 (ga g1450 (ga g1458 (ga g1537 (ga g1538 (ga g1613 (ga g1652 (ga g1653 gn)))))))))))))))))))))))))))))) (by decide +kernel)
theorem g3843 : Good c3843 := gcon (ga g6 (ga g7 (ga g12 (ga g1652 (ga g1653 (ga g2350 (ga g3336 (ga g3800 (ga g3842 gn))))))))) (by decide +kernel)
theorem g3870 : Good c3870 := gcon (ga g3122 (ga g3371 (ga g3399 (ga g3462 (ga g3484 (ga g3565 (ga g3597 (ga g3843 gn)))))))) (by decide +kernel)
theorem g3874 : Good c3874 := gcon (ga g0 (ga g1 (ga g3 (ga g6 (ga g7 (ga g12 (ga g1661 (ga g2335 (ga g2618 (ga g2635 (ga g2769 (ga g3870 gn)))))))))))) (by decide +kernel)
end Go.Proofs.YtbfhpgpceakeiaaGreatDoor.Tw
