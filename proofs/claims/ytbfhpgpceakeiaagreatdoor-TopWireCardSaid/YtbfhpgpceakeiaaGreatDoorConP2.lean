/- Contracts of the closed run (printed by wip/gen_con.py). -/
import Derived.Test.YtbfhpgpceakeiaaGreatDoorConB
import Derived.Test.YtbfhpgpceakeiaaGreatDoorConP1
namespace Go.Proofs.YtbfhpgpceakeiaaGreatDoor.Tw
open Kex Kex.Sh Go Go.Proofs
theorem g6 : Good c6 := gcon (ga g0 gn) (by decide +kernel)
theorem g31 : Good c31 := gcon (ga g0 (ga g30 gn)) (by decide +kernel)
theorem g57 : Good c57 := gcon (ga g0 gn) (by decide +kernel)
theorem g555 : Good c555 := gcon (ga g0 gn) (by decide +kernel)
theorem g839 : Good c839 := gcon (ga g351 (ga g353 (ga g354 (ga g357 (ga g360 (ga g362 (ga g364 (ga g366 (ga g367 (ga g369 (ga g371 (ga g381 gn)))))))))))) (by decide +kernel)
theorem g1412 : Good c1412 := gcon (ga g0 (ga g56 (ga g532 (ga g1152 gn)))) (by decide +kernel)
theorem g1454 : Good c1454 := gcon (ga g56 (ga g59 (ga g1453 gn))) (by decide +kernel)
theorem g1653 : Good c1653 := gcon (ga g7 gn) (by decide +kernel)
theorem g2329 : Good c2329 := gcon (ga g7 gn) (by decide +kernel)
theorem g2350 : Good c2350 := gcon (ga g12 gn) (by decide +kernel)
theorem g3679 : Good c3679 := gcon (ga g437 gn) (by decide +kernel)
end Go.Proofs.YtbfhpgpceakeiaaGreatDoor.Tw
