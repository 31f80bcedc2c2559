/- The live question of the sums' statements is answered true. No conditions. -/
import Derived.Test.YtijcollcncjdoaaCrcWalks
import Derived.Test.YtijcollcncjdoaaApp
import Derived.Lib.SlBytesConst
namespace Go.Proofs.Ytijcollcncjdoaa.C3
open Go.RowKit Kin

theorem bytesT : IsBytes Try.prog 25 5 := isBytes_of Try.underlying25 Try.underlying5 (by kernel_rfl)
theorem crc_known : Crc.sum [49, 50, 51, 52, 53, 54, 55, 56, 57] = 3421780262 := by decide +kernel
theorem crc_none : Crc.sum [] = 0 := by decide +kernel
theorem crc_tab1 : Crc.tab 1 = 1996959894 := by decide +kernel
theorem tabA_1 (w : World) : (Instr.index 92 (.agg tabA) (.int .i64 1)).run Try.prog w = .ok (.int .u32 1996959894) w := by kernel_rfl

end Go.Proofs.Ytijcollcncjdoaa.C3
