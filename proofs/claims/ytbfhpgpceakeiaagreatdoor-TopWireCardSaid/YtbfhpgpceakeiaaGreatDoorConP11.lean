/- Contracts of the closed run (printed by wip/gen_con2.py). -/
import Derived.Test.YtbfhpgpceakeiaaGreatDoorConB
import Derived.Test.YtbfhpgpceakeiaaGreatDoorConP1
import Derived.Test.YtbfhpgpceakeiaaGreatDoorConP10
import Derived.Test.YtbfhpgpceakeiaaGreatDoorConP12
import Derived.Test.YtbfhpgpceakeiaaGreatDoorConP2
import Derived.Test.YtbfhpgpceakeiaaGreatDoorConP3
import Derived.Test.YtbfhpgpceakeiaaGreatDoorConP4
import Derived.Test.YtbfhpgpceakeiaaGreatDoorConP5
import Derived.Test.YtbfhpgpceakeiaaGreatDoorConP6
import Derived.Test.YtbfhpgpceakeiaaGreatDoorConP7
import Derived.Test.YtbfhpgpceakeiaaGreatDoorConP8
import Derived.Test.YtbfhpgpceakeiaaGreatDoorConP9
namespace Go.Proofs.YtbfhpgpceakeiaaGreatDoor.Tw
open Kex Kex.Sh Go Go.Proofs
theorem g3800 : Good c3800 := gcon (ga g31 (ga g35 (ga g123 (ga g326 (ga g534 (ga g752 (ga g860 (ga g996 (ga g1217 (ga g3665 (ga g3679 (ga g3752 (ga g3797 gn))))))))))))) (by decide +kernel)
def c3839 : Con := ⟨284, 11, [e (p 0 0), e (i 0), e (i 0)],
  [k 0 455 ([ff, i 1, i 3, p 1 0, p 2 0, p 3 0, p 3 3, p 3 6, p 4 4, p 4 7, p 4 10]), k 1 307 (rp 592 (w .u16 1024) ([])), k 2 470 ([sn, w .u32 0, w .u32 4294967295]), k 3 50 ([i 16, i 16, sl 5 0 256 0, i 8, i 8, sl 6 0 64 0, i 8, i 8, sl 7 0 64 0]), k 4 423 (is [16, 16, 2, 1, 16, 16] ([sl 8 0 256 0, i 8, i 8, sl 9 0 64 0, i 8, i 8, sl 10 0 64 0])), k 5 5 (rp 256 (b 0) ([])), k 6 5 (rp 64 (b 0) ([])), k 7 5 (rp 64 (b 0) ([])), k 8 5 (rp 256 (b 90) ([])), k 9 5 (rp 64 (b 90) ([])), k 10 5 (rp 64 (b 90) ([]))],
  e (i 0), 11,
  [k 0 455 ([ff, i 1, i 3, p 1 0, p 2 0, p 3 0, p 3 3, p 3 6, p 4 4, p 4 7, p 4 10]), k 1 307 (rp 57 (w .u16 1024) (w .u16 1056 :: w .u16 1056 :: rp 533 (w .u16 1024) ([]))), k 2 470 ([sn, w .u32 0, w .u32 1073740800]), k 3 50 ([i 16, i 16, sl 5 0 256 0, i 8, i 8, sl 6 0 64 0, i 8, i 8, sl 7 0 64 0]), k 4 423 (is [16, 16, 2, 1, 16, 16] ([sl 8 0 256 0, i 8, i 8, sl 9 0 64 0, i 8, i 8, sl 10 0 64 0])), k 5 5 (rp 256 (b 90) ([])), k 6 5 (rp 64 (b 90) ([])), k 7 5 (rp 64 (b 90) ([])), k 8 5 (rp 256 (b 90) ([])), k 9 5 (rp 64 (b 90) ([])), k 10 5 (rp 64 (b 90) ([]))]⟩
theorem g3839 : Good c3839 := gcon (ga g326 (ga g1809 (ga g1939 (ga g2069 (ga g2199 (ga g2329 gn)))))) (by decide +kernel)
theorem g3842 : Good c3842 := gcon (ga g6 (ga g7 (ga g12 (ga g31 (ga g35 (ga g1652 (ga g1653 (ga g3839 gn)))))))) (by decide +kernel)
theorem g3843 : Good c3843 := gcon (ga g6 (ga g7 (ga g12 (ga g1652 (ga g1653 (ga g2350 (ga g3336 (ga g3800 (ga g3842 gn))))))))) (by decide +kernel)
theorem g3870 : Good c3870 := gcon (ga g3122 (ga g3371 (ga g3399 (ga g3462 (ga g3484 (ga g3565 (ga g3597 (ga g3843 gn)))))))) (by decide +kernel)
theorem g3874 : Good c3874 := gcon (ga g0 (ga g1 (ga g3 (ga g6 (ga g7 (ga g12 (ga g1661 (ga g2335 (ga g2618 (ga g2635 (ga g2769 (ga g3870 gn)))))))))))) (by decide +kernel)
end Go.Proofs.YtbfhpgpceakeiaaGreatDoor.Tw
