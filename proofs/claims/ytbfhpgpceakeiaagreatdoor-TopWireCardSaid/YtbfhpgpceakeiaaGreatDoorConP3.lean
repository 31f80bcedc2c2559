/- Contracts of the closed run (printed by wip/gen_con.py). -/
import Derived.Test.YtbfhpgpceakeiaaGreatDoorConB
import Derived.Test.YtbfhpgpceakeiaaGreatDoorConP1
namespace Go.Proofs.YtbfhpgpceakeiaaGreatDoor.Tw
open Kex Kex.Sh Go Go.Proofs
theorem g28 : Good c28 := gcon (ga g12 gn) (by decide +kernel)
theorem g432 : Good c432 := gcon (ga g351 (ga g353 (ga g354 (ga g357 (ga g360 (ga g362 (ga g364 (ga g366 (ga g367 (ga g369 (ga g371 (ga g381 gn)))))))))))) (by decide +kernel)
theorem g531 : Good c531 := gcon (ga g523 (ga g525 (ga g527 gn))) (by decide +kernel)
theorem g858 : Good c858 := gcon (ga g523 (ga g527 gn)) (by decide +kernel)
theorem g1217 : Good c1217 := gcon (ga g0 (ga g56 (ga g1152 (ga g1153 gn)))) (by decide +kernel)
theorem g1347 : Good c1347 := gcon (ga g0 (ga g56 (ga g1152 gn))) (by decide +kernel)
theorem g1455 : Good c1455 := gcon (ga g56 (ga g1453 gn)) (by decide +kernel)
theorem g1457 : Good c1457 := gcon (ga g56 (ga g255 (ga g1453 gn))) (by decide +kernel)
theorem g3664 : Good c3664 := gcon (ga g437 gn) (by decide +kernel)
end Go.Proofs.YtbfhpgpceakeiaaGreatDoor.Tw
