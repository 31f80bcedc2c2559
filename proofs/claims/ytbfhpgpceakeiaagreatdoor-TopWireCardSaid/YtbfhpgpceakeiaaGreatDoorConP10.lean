/- Contracts of the closed run (printed by wip/gen_con2.py). -/
import Derived.Test.YtbfhpgpceakeiaaGreatDoorConB
import Derived.Test.YtbfhpgpceakeiaaGreatDoorConP1
import Derived.Test.YtbfhpgpceakeiaaGreatDoorConP2
import Derived.Test.YtbfhpgpceakeiaaGreatDoorConP3
import Derived.Test.YtbfhpgpceakeiaaGreatDoorConP4
import Derived.Test.YtbfhpgpceakeiaaGreatDoorConP5
import Derived.Test.YtbfhpgpceakeiaaGreatDoorConP6
import Derived.Test.YtbfhpgpceakeiaaGreatDoorConP7
import Derived.Test.YtbfhpgpceakeiaaGreatDoorConP8
import Derived.Test.YtbfhpgpceakeiaaGreatDoorConP9
namespace Go.Proofs.YtbfhpgpceakeiaaGreatDoor.Tw
open Kex Kex.Sh Go Go.Proofs
theorem g321 : Good c321 := gcon (ga g56 (ga g123 (ga g124 (ga g189 (ga g254 (ga g320 gn)))))) (by decide +kernel)
theorem g819 : Good c819 := gcon (ga g56 (ga g124 (ga g621 (ga g622 (ga g687 (ga g752 (ga g753 (ga g818 gn)))))))) (by decide +kernel)
theorem g862 : Good c862 := gcon (ga g326 (ga g554 (ga g753 (ga g819 (ga g836 (ga g839 (ga g840 (ga g841 (ga g860 gn))))))))) (by decide +kernel)
theorem g1148 : Good c1148 := gcon (ga g753 (ga g836 (ga g839 (ga g840 (ga g841 (ga g860 (ga g864 (ga g1127 gn)))))))) (by decide +kernel)
def c1432 : Con := ⟨155, 11, [e (p 0 0), e (i 3), e (i 0), e (i 0), e (i 2), .e (.a ([i 0, i 0]))],
  [k 0 281 ([i 3, tt, i 16, i 16, sl 1 0 256 0, i 8, i 8, sl 2 0 64 0, i 8, i 8, sl 3 0 64 0, i 0, i 0, sn, i 0, i 0, sn, i 0, i 0, sn, i 16, i 16, sl 4 0 256 0, i 8, i 8, sl 5 0 64 0, i 8, i 8, sl 6 0 64 0, p 7 0, p 8 0]), k 1 5 (rp 256 (b 90) ([])), k 4 5 (rp 136 (b 90) (rp 8 (b 0) (rp 8 (b 90) (rp 8 (b 0) (rp 8 (b 90) (rp 8 (b 0) (rp 8 (b 90) (rp 8 (b 0) (rp 8 (b 90) (rp 8 (b 0) (rp 8 (b 90) (rp 8 (b 0) (rp 8 (b 90) (rp 8 (b 0) (rp 8 (b 90) (rp 8 (b 0) ([]))))))))))))))))), k 7 307 (rp 20 (w .u16 1024) (w .u16 1055 :: w .u16 1023 :: w .u16 1056 :: rp 51 (w .u16 1024) (w .u16 1056 :: w .u16 1056 :: rp 18 (w .u16 1024) (w .u16 1056 :: rp 16 (w .u16 1024) (w .u16 992 :: w .u16 992 :: w .u16 992 :: w .u16 992 :: w .u16 992 :: w .u16 1056 :: rp 14 (w .u16 1024) (w .u16 1056 :: w .u16 1056 :: w .u16 1024 :: w .u16 992 :: w .u16 1024 :: w .u16 1024 :: w .u16 1024 :: w .u16 1024 :: w .u16 992 :: rp 7 (w .u16 1024) (w .u16 992 :: rp 444 (w .u16 1024) ([])))))))), k 8 309 ([sv 9 0 6 0 10, w .u32 30506050]), .gro (.v 9) 5 1 6 ⟨0, some 10⟩ (bs [39, 199, 193, 222, 12, 96] ([]))],
  .t [], 13,
  [k 0 281 ([i 3, tt, i 16, i 16, sl 1 0 256 0, i 8, i 8, sl 2 0 64 0, i 8, i 8, sl 3 0 64 0, i 0, i 0, sn, i 0, i 0, sn, i 0, i 0, sn, i 16, i 16, sl 4 0 256 0, i 8, i 8, sl 5 0 64 0, i 8, i 8, sl 6 0 64 0, p 7 0, p 8 0]), k 1 5 (rp 256 (b 90) ([])), k 4 5 (rp 256 (b 90) ([])), k 7 307 (rp 20 (w .u16 1024) (w .u16 1086 :: w .u16 1055 :: w .u16 1056 :: rp 51 (w .u16 1024) (w .u16 1087 :: w .u16 1056 :: rp 18 (w .u16 1024) (w .u16 1056 :: rp 16 (w .u16 1024) (w .u16 992 :: w .u16 992 :: w .u16 992 :: w .u16 992 :: w .u16 992 :: w .u16 1056 :: rp 14 (w .u16 1024) (w .u16 1056 :: w .u16 1056 :: w .u16 1024 :: w .u16 992 :: w .u16 1024 :: w .u16 1024 :: w .u16 1024 :: w .u16 1024 :: w .u16 992 :: rp 7 (w .u16 1024) (w .u16 992 :: rp 444 (w .u16 1024) ([])))))))), k 8 309 ([sv 11 0 7 0 12, w .u32 1036125024]), .gro (.v 11) 5 1 7 ⟨0, some 12⟩ (bs [39, 199, 193, 222, 12, 96, 0] ([]))]⟩
theorem g1432 : Good c1432 := gcon (ga g753 (ga g836 (ga g839 (ga g840 (ga g841 (ga g860 (ga g1150 (ga g1413 gn)))))))) (by decide +kernel)
def c1615 : Con := ⟨133, 10, [e (p 0 0), e (i 0), e (i 0)],
  [k 0 281 ([i 3, tt, i 16, i 16, sl 1 0 256 0, i 8, i 8, sl 2 0 64 0, i 8, i 8, sl 3 0 64 0, i 0, i 0, sn, i 0, i 0, sn, i 0, i 0, sn, i 16, i 16, sl 4 0 256 0, i 8, i 8, sl 5 0 64 0, i 8, i 8, sl 6 0 64 0, p 7 0, p 8 0]), k 1 5 (rp 256 (b 90) ([])), k 2 5 (rp 64 (b 90) ([])), k 3 5 (rp 64 (b 90) ([])), k 4 5 (rp 256 (b 0) ([])), k 5 5 (rp 64 (b 0) ([])), k 6 5 (rp 64 (b 0) ([])), k 7 307 (rp 592 (w .u16 1024) ([])), k 8 309 ([sl 9 0 4 0, w .u32 4294967295]), k 9 5 ([b 0, b 0, b 0, b 0])],
  .t [], 12,
  [k 0 281 ([i 3, tt, i 16, i 16, sl 1 0 256 0, i 8, i 8, sl 2 0 64 0, i 8, i 8, sl 3 0 64 0, i 0, i 0, sn, i 0, i 0, sn, i 0, i 0, sn, i 16, i 16, sl 4 0 256 0, i 8, i 8, sl 5 0 64 0, i 8, i 8, sl 6 0 64 0, p 7 0, p 8 0]), k 1 5 (rp 256 (b 90) ([])), k 2 5 (rp 64 (b 90) ([])), k 3 5 (rp 64 (b 90) ([])), k 4 5 (rp 256 (b 90) ([])), k 5 5 (rp 64 (b 90) ([])), k 6 5 (rp 64 (b 90) ([])), k 7 307 (rp 20 (w .u16 1024) (w .u16 1145 :: w .u16 1116 :: w .u16 1056 :: rp 51 (w .u16 1024) (w .u16 1087 :: w .u16 1056 :: rp 18 (w .u16 1024) (w .u16 1056 :: rp 16 (w .u16 1024) (w .u16 992 :: w .u16 992 :: w .u16 992 :: w .u16 992 :: w .u16 992 :: w .u16 1056 :: rp 14 (w .u16 1024) (w .u16 1056 :: w .u16 1056 :: w .u16 1024 :: w .u16 992 :: w .u16 1024 :: w .u16 1024 :: w .u16 1024 :: w .u16 1024 :: w .u16 992 :: rp 7 (w .u16 1024) (w .u16 992 :: w .u16 961 :: w .u16 1087 :: rp 18 (w .u16 1024) (w .u16 1087 :: rp 16 (w .u16 1024) (w .u16 961 :: w .u16 961 :: w .u16 961 :: w .u16 961 :: w .u16 961 :: w .u16 1087 :: rp 14 (w .u16 1024) (w .u16 1087 :: w .u16 1087 :: w .u16 1024 :: w .u16 961 :: w .u16 1024 :: w .u16 1024 :: w .u16 1024 :: w .u16 1024 :: w .u16 961 :: rp 7 (w .u16 1024) (w .u16 961 :: rp 370 (w .u16 1024) ([])))))))))))), k 8 309 ([sv 10 0 11 0 11, w .u32 503327424]), k 9 5 ([b 39, b 127, b 252, b 0]), .gro (.v 10) 5 1 11 ⟨0, some 11⟩ (bs [39, 199, 193, 232, 136, 173, 38, 73, 84, 181, 64] ([]))]⟩
theorem g1615 : Good c1615 := gcon (ga g55 (ga g124 (ga g321 (ga g326 (ga g347 (ga g432 (ga g512 (ga g534 (ga g862 (ga g1148 (ga g1432 (ga g1450 (ga g1458 (ga g1537 (ga g1538 (ga g1613 gn)))))))))))))))) (by decide +kernel)
theorem g1661 : Good c1661 := gcon (ga g6 (ga g7 (ga g28 (ga g31 (ga g35 (ga g1615 (ga g1652 (ga g1653 gn)))))))) (by decide +kernel)
theorem g3752 : Good c3752 := gcon (ga g326 (ga g445 (ga g534 (ga g1454 (ga g3664 gn))))) (by decide +kernel)
end Go.Proofs.YtbfhpgpceakeiaaGreatDoor.Tw
