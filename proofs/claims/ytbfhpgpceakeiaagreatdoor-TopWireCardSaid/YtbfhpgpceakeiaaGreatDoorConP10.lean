/- Contracts of the closed run (printed by wip/gen_con.py). -/
import Derived.Test.YtbfhpgpceakeiaaGreatDoorConB
import Derived.Test.YtbfhpgpceakeiaaGreatDoorConP1
import Derived.Test.YtbfhpgpceakeiaaGreatDoorConP2
import Derived.Test.YtbfhpgpceakeiaaGreatDoorConP3
import Derived.Test.YtbfhpgpceakeiaaGreatDoorConP4
import Derived.Test.YtbfhpgpceakeiaaGreatDoorConP5
import Derived.Test.YtbfhpgpceakeiaaGreatDoorConP6
import Derived.Test.YtbfhpgpceakeiaaGreatDoorConP7
import Derived.Test.YtbfhpgpceakeiaaGreatDoorConP8
import Derived.Test.YtbfhpgpceakeiaaGreatDoorConP9
namespace Go.Proofs.YtbfhpgpceakeiaaGreatDoor.Tw
open Kex Kex.Sh Go Go.Proofs
theorem g321 : Good c321 := gcon (ga g56 (ga g123 (ga g124 (ga g189 (ga g254 (ga g320 gn)))))) (by decide +kernel)
theorem g819 : Good c819 := gcon (ga g56 (ga g124 (ga g621 (ga g622 (ga g687 (ga g752 (ga g753 (ga g818 gn)))))))) (by decide +kernel)
theorem g1148 : Good c1148 := gcon (ga g753 (ga g836 (ga g839 (ga g840 (ga g841 (ga g860 (ga g864 (ga g1127 gn)))))))) (by decide +kernel)
theorem g2335 : Good c2335 := gcon (ga g6 (ga g7 (ga g12 (ga g31 (ga g35 (ga g55 (ga g326 (ga g353 (ga g354 (ga g554 (ga g864 (ga g1150 (ga g1450 (ga g1538 (ga g1652 (ga g1653 (ga g1672 (ga g1809 (ga g1939 (ga g2069 (ga g2199 (ga g2329 gn)))))))))))))))))))))) (by decide +kernel)
theorem g3122 : Good c3122 := gcon (ga g2811 (ga g2882 (ga g2907 (ga g2990 (ga g3106 gn))))) (by decide +kernel)
theorem g3361 : Good c3361 := gcon (ga g12 (ga g2611 (ga g2618 (ga g3336 gn)))) (by decide +kernel)
theorem g3597 : Good c3597 := gcon (ga g2611 (ga g2635 gn)) (by decide +kernel)
theorem g3752 : Good c3752 := gcon (ga g326 (ga g445 (ga g534 (ga g1454 (ga g3664 gn))))) (by decide +kernel)
theorem g3797 : Good c3797 := gcon (ga g326 (ga g445 (ga g534 (ga g1454 (ga g3664 gn))))) (by decide +kernel)
theorem g3842 : Good c3842 := gcon (ga g6 (ga g7 (ga g12 (ga g31 (ga g35 (ga g326 (ga g1652 (ga g1653 (ga g1809 (ga g1939 (ga g2069 (ga g2199 (ga g2329 gn))))))))))))) (by decide +kernel)
end Go.Proofs.YtbfhpgpceakeiaaGreatDoor.Tw
