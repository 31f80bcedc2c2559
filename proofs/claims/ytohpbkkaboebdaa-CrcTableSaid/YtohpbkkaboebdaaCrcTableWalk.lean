/- The statement CrcTable, walked: it returns true and changes nothing that was there. No conditions. -/
import Derived.Test.YtohpbkkaboebdaaRef03Walks
import Derived.Deep.RegionHeld3
import Derived.OpenShut
namespace Go.Proofs.Ytohpbkkaboebdaa
open Go.RowKit Kin

set_option maxRecDepth 100000 in
set_option maxHeartbeats 1000000 in
theorem crcTable_at (i : Int) (k : Nat) (w : World) (hk : k < 256) (hi : (0 ≤ i.tmod 256 ∧ i.tmod 256 = k) ∨ (i.tmod 256 < 0 ∧ i.tmod 256 + 256 = k)) (_hlo : -9223372036854775808 ≤ i) (_hhi : i ≤ 9223372036854775807) :
    Calls Try.prog 4 #[.int .i64 i] w fun e w' => e = .returned (.bool true) ∧ Below w.heap.size w w' := by
  have hz := (zero_of_info Try.zero_tab).1
  have HI := hide (zero_of_info Try.zero_tab).2
  rcases hi with ⟨h1, h2⟩ | ⟨h1, h2⟩
  · go_enter Try.func4, Try.ntmps4
    go_wp2_with (first | (go_at_call 14; refine (table_calls _).mono ?_; rintro e w1 ⟨rfl, hb1⟩) | (refine wpList_store_row rfl 28 (.tmp 3) (.tmp 5) rfl _ tabA rfl rfl 28 zerA (heap_alloc_new _ _) (by rw [size_tabA]; exact HI.out) (by rw [size_tabA]; exact size_rowA _ _) one_tabA ?_; rw [World.setRow_alloc_new]))
    have hc : (w1.alloc (Obj.cells tabA 28)).cell? ⟨w1.heap.size, k, none⟩ = some (.int .u32 (Crc.tab k : Int)) := by rw [(Blk.new w1 28 tabA).cell]; exact getElem?_rowA _ hk
    have hgl : w1.heap.size < (w1.alloc (Obj.cells tabA 28)).heap.size := by simp
    have hbel : Below w.heap.size w (w1.alloc (Obj.cells tabA 28)) := hb1.alloc hb1.size _
    generalize w1.alloc (Obj.cells tabA 28) = W at *
    generalize w1.heap.size = g at *
    have q0 : (0 : Int) ≤ (k : Int) := by omega
    have q1 : (k : Int) < 256 := by omega
    clear hz HI h1 h2
    go_region_held3 (fun w' => w'.cell? ⟨g, k, none⟩ = some (.int .u32 (Crc.tab k : Int)))
      (first | exact hc | exact (b1.cell (p := ⟨g, k, none⟩) hgl).trans hc | exact (b2.cell (p := ⟨g, k, none⟩) (Nat.lt_of_lt_of_le hgl b1.size)).trans ((b1.cell (p := ⟨g, k, none⟩) hgl).trans hc))
      (first | (go_at_call 9; refine (alive_calls _).mono ?_; rintro e t1 ⟨rfl, b1⟩) | (go_at_call 15; refine (entry_calls k _ hk).mono ?_; rintro e t2 ⟨rfl, b2⟩))
    go_wp2
    go_ret
    exact ⟨rfl, bnext (bnext hbel.drew b1) b2⟩
  · go_enter Try.func4, Try.ntmps4
    go_wp2_with (first | (go_at_call 14; refine (table_calls _).mono ?_; rintro e w1 ⟨rfl, hb1⟩) | (refine wpList_store_row rfl 28 (.tmp 3) (.tmp 5) rfl _ tabA rfl rfl 28 zerA (heap_alloc_new _ _) (by rw [size_tabA]; exact HI.out) (by rw [size_tabA]; exact size_rowA _ _) one_tabA ?_; rw [World.setRow_alloc_new]))
    have hc : (w1.alloc (Obj.cells tabA 28)).cell? ⟨w1.heap.size, k, none⟩ = some (.int .u32 (Crc.tab k : Int)) := by rw [(Blk.new w1 28 tabA).cell]; exact getElem?_rowA _ hk
    have hgl : w1.heap.size < (w1.alloc (Obj.cells tabA 28)).heap.size := by simp
    have hbel : Below w.heap.size w (w1.alloc (Obj.cells tabA 28)) := hb1.alloc hb1.size _
    generalize w1.alloc (Obj.cells tabA 28) = W at *
    generalize w1.heap.size = g at *
    have q0 : (0 : Int) ≤ (k : Int) := by omega
    have q1 : (k : Int) < 256 := by omega
    clear hz HI h1 h2
    go_region_held3 (fun w' => w'.cell? ⟨g, k, none⟩ = some (.int .u32 (Crc.tab k : Int)))
      (first | exact hc | exact (b1.cell (p := ⟨g, k, none⟩) hgl).trans hc | exact (b2.cell (p := ⟨g, k, none⟩) (Nat.lt_of_lt_of_le hgl b1.size)).trans ((b1.cell (p := ⟨g, k, none⟩) hgl).trans hc))
      (first | (go_at_call 9; refine (alive_calls _).mono ?_; rintro e t1 ⟨rfl, b1⟩) | (go_at_call 15; refine (entry_calls k _ hk).mono ?_; rintro e t2 ⟨rfl, b2⟩))
    go_wp2
    go_ret
    exact ⟨rfl, bnext (bnext hbel.drew b1) b2⟩

theorem crcTable_walk (i : Int) (w : World) (hi : (Lit.int .i64 i).wf = true) :
    Calls Try.prog 4 #[.int .i64 i] w fun e w' => e = .returned (.bool true) ∧ Below w.heap.size w w' := by
  have hb := bounds_i64 hi
  have h0 : i.tmod 256 < 256 := Int.tmod_lt_of_pos i (by omega)
  have h1 : -256 < i.tmod 256 := by
    have := Int.lt_tmod_of_pos i (show (0 : Int) < 256 by omega)
    omega
  by_cases h : 0 ≤ i.tmod 256
  · exact crcTable_at i (i.tmod 256).toNat w (by omega) (.inl ⟨h, by omega⟩) hb.1 hb.2
  · exact crcTable_at i (i.tmod 256 + 256).toNat w (by omega) (.inr ⟨by omega, by omega⟩) hb.1 hb.2
end Go.Proofs.Ytohpbkkaboebdaa
