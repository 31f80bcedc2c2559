/- Contracts of the closed run (printed by wip/gen_con2.py). -/
import Derived.Test.YtbfhpgpceakeiaaGreatDoorConB
import Derived.Test.YtbfhpgpceakeiaaGreatDoorConP1
import Derived.Test.YtbfhpgpceakeiaaGreatDoorConP2
import Derived.Test.YtbfhpgpceakeiaaGreatDoorConP3
import Derived.Test.YtbfhpgpceakeiaaGreatDoorConP4
import Derived.Test.YtbfhpgpceakeiaaGreatDoorConP5
import Derived.Test.YtbfhpgpceakeiaaGreatDoorConP6
import Derived.Test.YtbfhpgpceakeiaaGreatDoorConP7
import Derived.Test.YtbfhpgpceakeiaaGreatDoorConP8
import Derived.Test.YtbfhpgpceakeiaaGreatDoorConP9
namespace Go.Proofs.YtbfhpgpceakeiaaGreatDoor.Tw
open Kex Kex.Sh Go Go.Proofs
def c2332 : Con := ⟨133, 13, [e (p 0 0), e (i 0), e (i 0)],
  [k 0 281 ([i 3, ff, i 16, i 16, sl 1 0 256 0, i 8, i 8, sl 2 0 64 0, i 8, i 8, sl 3 0 64 0, i 16, i 16, sl 4 0 256 0, i 8, i 8, sl 5 0 64 0, i 8, i 8, sl 6 0 64 0, i 16, i 16, sl 7 0 256 0, i 8, i 8, sl 8 0 64 0, i 8, i 8, sl 9 0 64 0, p 10 0, p 11 0]), k 1 5 (rp 256 (b 90) ([])), k 2 5 (rp 64 (b 90) ([])), k 3 5 (rp 64 (b 90) ([])), k 4 5 (rp 256 (b 90) ([])), k 5 5 (rp 64 (b 90) ([])), k 6 5 (rp 64 (b 90) ([])), k 7 5 (rp 256 (b 0) ([])), k 8 5 (rp 64 (b 0) ([])), k 9 5 (rp 64 (b 0) ([])), k 10 307 (rp 592 (w .u16 1024) ([])), k 11 309 ([sl 12 0 4 0, w .u32 4294967295]), k 12 5 ([b 0, b 0, b 0, b 0])],
  .t [], 13,
  [k 0 281 ([i 3, ff, i 16, i 16, sl 1 0 256 0, i 8, i 8, sl 2 0 64 0, i 8, i 8, sl 3 0 64 0, i 16, i 16, sl 4 0 256 0, i 8, i 8, sl 5 0 64 0, i 8, i 8, sl 6 0 64 0, i 16, i 16, sl 7 0 256 0, i 8, i 8, sl 8 0 64 0, i 8, i 8, sl 9 0 64 0, p 10 0, p 11 0]), k 1 5 (rp 256 (b 90) ([])), k 2 5 (rp 64 (b 90) ([])), k 3 5 (rp 64 (b 90) ([])), k 4 5 (rp 256 (b 90) ([])), k 5 5 (rp 64 (b 90) ([])), k 6 5 (rp 64 (b 90) ([])), k 7 5 (rp 256 (b 90) ([])), k 8 5 (rp 64 (b 90) ([])), k 9 5 (rp 64 (b 90) ([])), k 10 307 (rp 57 (w .u16 1024) (w .u16 1056 :: w .u16 1056 :: rp 533 (w .u16 1024) ([]))), k 11 309 ([sl 12 0 4 0, w .u32 1073740800]), k 12 5 ([b 0, b 0, b 0, b 0])]⟩
theorem g2332 : Good c2332 := gcon (ga g55 (ga g326 (ga g353 (ga g354 (ga g554 (ga g864 (ga g1150 (ga g1450 (ga g1538 (ga g1672 (ga g1809 (ga g1939 (ga g2069 (ga g2199 (ga g2329 gn))))))))))))))) (by decide +kernel)
theorem g2335 : Good c2335 := gcon (ga g6 (ga g7 (ga g12 (ga g31 (ga g35 (ga g1652 (ga g1653 (ga g2332 gn)))))))) (by decide +kernel)
theorem g3361 : Good c3361 := gcon (ga g12 (ga g2611 (ga g2618 (ga g3336 gn)))) (by decide +kernel)
theorem g3371 : Good c3371 := gcon (ga g3152 (ga g3213 (ga g3235 (ga g3312 (ga g3361 gn))))) (by decide +kernel)
theorem g3122 : Good c3122 := gcon (ga g2811 (ga g2882 (ga g2907 (ga g2990 (ga g3106 gn))))) (by decide +kernel)
theorem g3597 : Good c3597 := gcon (ga g2611 (ga g2635 gn)) (by decide +kernel)
theorem g3797 : Good c3797 := gcon (ga g326 (ga g445 (ga g534 (ga g1454 (ga g3664 gn))))) (by decide +kernel)
end Go.Proofs.YtbfhpgpceakeiaaGreatDoor.Tw
