/- Contracts of the closed run (printed by wip/gen_con.py). -/
import Derived.Test.YtbfhpgpceakeiaaGreatDoorConB
import Derived.Test.YtbfhpgpceakeiaaGreatDoorConP1
namespace Go.Proofs.YtbfhpgpceakeiaaGreatDoor.Tw
open Kex Kex.Sh Go Go.Proofs
theorem g1 : Good c1 := gcon (ga g0 gn) (by decide +kernel)
theorem g347 : Good c347 := gcon (ga g339 (ga g341 (ga g344 gn))) (by decide +kernel)
theorem g840 : Good c840 := gcon (ga g435 gn) (by decide +kernel)
theorem g841 : Good c841 := gcon (ga g437 gn) (by decide +kernel)
theorem g854 : Good c854 := gcon (ga g351 (ga g353 (ga g354 (ga g357 (ga g360 (ga g362 (ga g364 (ga g367 (ga g369 (ga g371 gn)))))))))) (by decide +kernel)
theorem g931 : Good c931 := gcon (ga g0 (ga g56 (ga g896 (ga g897 gn)))) (by decide +kernel)
theorem g1061 : Good c1061 := gcon (ga g0 (ga g56 gn)) (by decide +kernel)
theorem g1282 : Good c1282 := gcon (ga g0 (ga g56 (ga g1152 gn))) (by decide +kernel)
theorem g1450 : Good c1450 := gcon (ga g7 gn) (by decide +kernel)
end Go.Proofs.YtbfhpgpceakeiaaGreatDoor.Tw
