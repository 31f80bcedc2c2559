/- The live question of the sums' statements is answered true. No conditions. -/
import Derived.Test.YtohpbkkaboebdaaCrcWalks
import Derived.Test.YtohpbkkaboebdaaApp
import Derived.Lib.SlBytesConst
namespace Go.Proofs.Ytohpbkkaboebdaa
open Go.RowKit Kin

theorem bytesT : IsBytes Try.prog 22 5 := isBytes_of Try.underlying22 Try.underlying5 (by kernel_rfl)
theorem crc_known : Crc.sum [49, 50, 51, 52, 53, 54, 55, 56, 57] = 3421780262 := by decide +kernel
theorem crc_none : Crc.sum [] = 0 := by decide +kernel
theorem crc_tab1 : Crc.tab 1 = 1996959894 := by decide +kernel
theorem tabA_1 (w : World) : (Instr.index 28 (.agg tabA) (.int .i64 1)).run Try.prog w = .ok (.int .u32 1996959894) w := by kernel_rfl

set_option maxRecDepth 100000 in
set_option maxHeartbeats 400000 in
theorem alive_calls (w : World) : Calls Try.prog 9 #[] w fun e w' => e = .returned (.bool true) ∧ Below w.heap.size w w' := by
  have kc := fun (w : World) (C : Array Value) (n c : Nat) => Lib.run_convert_bytes_const (P := Try.prog) w 22 5 C n c Try.underlying22 Try.underlying5
  have ti := tabA_1
  go_enter Try.func9, Try.ntmps9
  go_wp2_with fail
  refine (sum_calls _ _ [49, 50, 51, 52, 53, 54, 55, 56, 57] _ _ (by rfl) (by decide) (Byt.new _ _ _ _ _ (by rfl))).mono ?_
  rintro e w1 ⟨rfl, hb1⟩
  rw [crc_known]
  go_wp2_with fail
  refine (sum_calls _ _ [] _ _ (by rfl) (by decide) (Byt.nil (B := 0))).mono ?_
  rintro e w2 ⟨rfl, hb2⟩
  rw [crc_none]
  go_wp2_with fail
  refine (table_calls _).mono ?_
  rintro e w3 ⟨rfl, hb3⟩
  go_wp2_with fail
  go_ret
  have h1 : w.heap.size ≤ w1.heap.size := by have := hb1.size; simp at this; omega
  have h2 := hb2.size
  exact ⟨rfl, ((((Below.refl _ w).alloc (Nat.le_refl _) _).trans (hb1.mono (by simp))).trans (hb2.mono h1)).trans (hb3.mono (by omega))⟩
end Go.Proofs.Ytohpbkkaboebdaa
