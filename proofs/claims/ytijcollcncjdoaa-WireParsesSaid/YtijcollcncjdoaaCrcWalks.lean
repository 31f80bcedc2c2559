/- The sums' functions, each by its contract: eight, Table, More, Sum return the plain sums and change nothing that was there. Conditions: the bytes' slice reads as a list. -/
import Derived.Test.YtijcollcncjdoaaRows
import Derived.Test.YtijcollcncjdoaaWords
import Derived.Test.YtijcollcncjdoaaCrcPlain
import Derived.WalkKit
import Derived.WalkSpells
import Derived.WalkLawsBesides
import Derived.Laws.BitsAllLaws
import Derived.Laws.Shifts
import Derived.Deep.WholeRow
namespace Go.Proofs.Ytijcollcncjdoaa.C3
open Go.RowKit Kin

theorem u32_stp_odd (v : Nat) (hv : v < 4294967296) (h : (bits BinOp.and IntKind.u32 (v : Int) 1 == 1) = true) : bits BinOp.xor IntKind.u32 ((v : Int) / 2) 3988292384 = (Crc.stp v : Int) := by
  have e := u32_and_nat v 1 hv (by omega)
  rw [Nat.and_one_is_mod] at e
  rw [show ((1 : Nat) : Int) = 1 from rfl] at e
  rw [e] at h
  have hm : v % 2 = 1 := by simp at h; omega
  have e2 := u32_xor_nat (v / 2) 3988292384 (by omega) (by omega)
  rw [show ((v / 2 : Nat) : Int) = (v : Int) / 2 from by omega] at e2
  rw [show ((3988292384 : Nat) : Int) = 3988292384 from rfl] at e2
  rw [e2]; unfold Crc.stp; rw [if_pos hm]
theorem u32_stp_even (v : Nat) (hv : v < 4294967296) (h : (bits BinOp.and IntKind.u32 (v : Int) 1 == 1) = false) : ((v : Int) / 2) = (Crc.stp v : Int) := by
  have e := u32_and_nat v 1 hv (by omega)
  rw [Nat.and_one_is_mod] at e
  rw [show ((1 : Nat) : Int) = 1 from rfl] at e
  rw [e] at h
  have hm : ¬ v % 2 = 1 := by simp at h; omega
  unfold Crc.stp; rw [if_neg hm]; omega

theorem u32_not (s : Nat) (hs : s < 4294967296) : bits BinOp.xor IntKind.u32 IntKind.u32.max (s : Int) = ((4294967295 - s : Nat) : Int) := by
  have e := u32_xor_nat 4294967295 s (by omega) hs
  rw [show (IntKind.u32.max) = ((4294967295 : Nat) : Int) from by decide, e, Crc.flip_xor s hs, Nat.xor_comm]
theorem u8_xor_mod (r v : Nat) (hv : v < 256) : bits BinOp.xor IntKind.u8 ((r : Int) % 256) (v : Int) = ((r % 256 ^^^ v : Nat) : Int) := by
  have e := u8_xor_nat (r % 256) v (by omega) hv
  rw [← e]; congr 1
theorem u32_upd (r v : Nat) (hr : r < 4294967296) (hv : v < 256) : bits BinOp.xor IntKind.u32 (Crc.tab (r % 256 ^^^ v) : Int) ((r : Int) / 256) = (Crc.upd r v : Int) := by
  have hx : r % 256 ^^^ v < 2 ^ 8 := Nat.xor_lt_two_pow (by omega) (by omega)
  have e := u32_xor_nat (Crc.tab (r % 256 ^^^ v)) (r / 256) (Crc.tab_lt (by omega)) (by omega)
  rw [Crc.upd, ← e]; congr 1
theorem fold_take (r : Nat) (l : List UInt8) (k : Nat) (h : k < l.length) : Crc.fold r (l.take (k + 1)) = Crc.upd (Crc.fold r (l.take k)) l[k].toNat := by
  rw [List.take_succ_eq_append_getElem h, Crc.fold_snoc]

set_option maxHeartbeats 400000 in
theorem eight_calls (r : Nat) (w : World) (h : r < 4294967296) :
    Calls Try.prog 64 #[.int .u32 (r : Int)] w fun e w' => e = .returned (.int .u32 (Crc.tab r : Int)) ∧ w = w' := by
  go_enter Try.func64, Try.ntmps64
  go_wp2
  go_loop [0, 3] (fun x i => ∃ (k : Nat), k ≤ 8 ∧ i = .int .i64 k ∧ x = .int .u32 (Crc.stpN k r : Int)) (fun _ i => 8 - (intOf i).toNat)
  case atStart => exact ⟨0, by omega, rfl, rfl⟩
  case round =>
    obtain ⟨k, hk, rfl, rfl⟩ := hrel
    have HS := hide (Crc.stpN_succ k r)
    have hv : Crc.stpN k r < 4294967296 := Crc.stpN_lt h
    by_cases hlt : k < 8
    · generalize Crc.stpN k r = v at *
      go_wp2
      · go_round
        case rel => exact ⟨k + 1, by omega, by go_num, by rw [HS.out, u32_stp_odd v hv ‹_›]⟩
        case measure => simp [intOf]; omega
      · go_round
        case rel => exact ⟨k + 1, by omega, by go_num, by rw [HS.out, u32_stp_even v hv ‹_›]⟩
        case measure => simp [intOf]; omega
    · obtain rfl : k = 8 := by omega
      clear HS
      go_wp2
      go_ret
      exact ⟨rfl, rfl⟩

def tabA : Array Value := rowA 256 (fun i => .int .u32 (Crc.tab i : Int))
def zerA : Array Value := rowA 256 (fun _ => .int .u32 0)
/-- the table as far as k -/
def tabF (k i : Nat) : Value := if i < k then .int .u32 (Crc.tab i : Int) else .int .u32 0
theorem tabF_succ (k : Nat) : rowA 256 (tabF (k + 1)) = (rowA 256 (tabF k)).setIfInBounds k (.int .u32 (Crc.tab k : Int)) := by
  rw [rowA_set]
  refine rowA_congr fun i _ => ?_
  unfold tabF
  by_cases e : i = k
  · subst e; simp
  · by_cases h : i < k
    · rw [if_pos (by omega), if_neg e, if_pos h]
    · rw [if_neg (by omega), if_neg e, if_neg h]
theorem tabF_all : rowA 256 (tabF 256) = tabA := rowA_congr fun _ hi => if_pos hi
theorem tabF_none : zerA = rowA 256 (tabF 0) := rowA_congr fun i _ => (if_neg (by omega)).symm
theorem Try.zero_tab : (Try.prog.info? 92).map (fun i => (i.zero, i.size)) = some (some (.agg zerA), 256) := by kernel_rfl

theorem size_tabA : tabA.size = 256 := size_rowA _ _
theorem one_tabA : tabA.all (·.oneCell') = true := oneCell_rowA _ _ fun _ _ => rfl

set_option maxRecDepth 100000 in
set_option maxHeartbeats 400000 in
theorem table_calls (w : World) : Calls Try.prog 61 #[] w fun e w' => e = .returned (.agg tabA) ∧ Below w.heap.size w w' := by
  have hz := (zero_of_info Try.zero_tab).1
  have HI := hide (zero_of_info Try.zero_tab).2
  go_enter Try.func61, Try.ntmps61
  go_wp2
  go_loopw [3] (fun i wr => ∃ (k : Nat), k ≤ 256 ∧ i = .int .i64 k ∧ Blk wr w.heap.size 92 zerA ∧ Blk wr (w.heap.size + 1) 92 (rowA 256 (tabF k)) ∧ Below w.heap.size w wr) (fun i _ => 256 - (intOf i).toNat)
  case atStart => exact ⟨0, by omega, rfl, (Blk.new _ _ _).alloc _, by rw [← tabF_none]; simpa using Blk.new (w.alloc (Obj.cells zerA 92)) 92 zerA, ((Below.refl _ _).alloc (by omega) _).alloc (by simp) _⟩
  case round =>
    obtain ⟨k, hk, rfl, hb0, hb1, hbel⟩ := hrel
    by_cases hlt : k < 256
    · have hc : wr.cell? ⟨w.heap.size + 1, k, none⟩ = some (tabF k k) := by rw [hb1.cell, getElem?_rowA _ hlt]
      have hf := hb1.frozen k
      have HS := hide (tabF_succ k)
      go_wp2_with (go_at_call 64; refine (eight_calls k _ (by omega)).mono ?_; rintro e w' ⟨rfl, rfl⟩)
      go_roundw
      case rel => exact ⟨k + 1, by omega, by go_num, hb0.far (by simp) _, by rw [HS.out]; exact hb1.set_ _ _, hbel.setCell (by simp) _⟩
      case measure => simp [intOf]; omega
    · obtain rfl : k = 256 := by omega
      rw [tabF_all] at hb1
      go_wp2_with (first | (refine wpList_load_row rfl 92 _ rfl (w.heap.size + 1) rfl 92 _ _ _ hb1 Try.underlying92 rfl (by rw [size_tabA]; exact HI.out) ?_) | (refine wpList_store_row rfl 92 _ _ rfl w.heap.size tabA rfl rfl 92 _ hb0 (by rw [size_tabA]; exact HI.out) (by rw [size_tabA]; exact size_rowA _ _) one_tabA ?_))
      refine bodyPost_ret (v := .agg tabA) (results_cell_row rfl _ _ w.heap.size 92 tabA (0, 0) _ (by simp [Act.put]) (hb0.setRow _) Try.underlying92 rfl (by rw [size_tabA]; exact HI.out)) (by simp [Act.put]) ⟨rfl, ?_⟩
      exact below_setRow' hbel (Nat.le_refl _) _

set_option maxRecDepth 100000 in
set_option maxHeartbeats 400000 in
theorem more_calls (s : Nat) (A : Option Addr) (n : Nat) (l : List UInt8) (cap : Nat) (w : World) (hs : s < 4294967296) (hn : n = l.length) (hl : l.length ≤ 9223372036854775807) {B : Nat} (hby0 : Byt w B A l) :
    Calls Try.prog 51 #[.int .u32 (s : Int), .slice A n cap] w fun e w' => e = .returned (.int .u32 (Crc.more s l : Int)) ∧ Below w.heap.size w w' := by
  subst hn
  have hby := hby0.here
  clear hby0
  have hz := (zero_of_info Try.zero_tab).1
  have HI := hide (zero_of_info Try.zero_tab).2
  go_enter Try.func51, Try.ntmps51
  go_wp2_with (first | (go_at_call 61; refine (table_calls _).mono ?_; rintro e w1 ⟨rfl, hb1⟩) | (refine wpList_store_row rfl 92 (.tmp 5) (.tmp 9) rfl _ tabA rfl rfl 92 zerA (heap_alloc_new _ _) (by rw [size_tabA]; exact HI.out) (by rw [size_tabA]; exact size_rowA _ _) one_tabA ?_; rw [World.setRow_alloc_new]))
  have hB : Byt (w1.alloc (Obj.cells tabA 92)) w.heap.size A l := hby.below (hb1.alloc hb1.size _)
  have hT := Blk.new w1 92 tabA
  have Hbel : Below w.heap.size w (w1.alloc (Obj.cells tabA 92)) := hb1.alloc hb1.size _
  clear hby hz HI hb1
  go_loop [6, 14] (fun x i => ∃ (k : Nat), k ≤ l.length ∧ i = .int .i64 k ∧ x = .int .u32 (Crc.fold (4294967295 - s) (l.take k) : Int)) (fun _ i => l.length - (intOf i).toNat)
  case atStart => exact ⟨0, by omega, rfl, by rw [u32_not s hs]; rfl⟩
  case round =>
    obtain ⟨k, hk, rfl, rfl⟩ := hrel
    have hr : Crc.fold (4294967295 - s) (l.take k) < 4294967296 := Crc.fold_lt (by omega)
    by_cases hlt : k < l.length
    · have HS := hide (fold_take (4294967295 - s) l k hlt)
      obtain ⟨b, off, rfl, hbB, hcell⟩ := hB.at_ hlt
      generalize Crc.fold (4294967295 - s) (l.take k) = r at *
      generalize l[k] = v at *
      have hvl := v.toNat_lt
      have hx : r % 256 ^^^ v.toNat < 2 ^ 8 := Nat.xor_lt_two_pow (by omega) (by omega)
      have e8 := u8_xor_mod r v.toNat hvl
      have HU := hide (u32_upd r v.toNat hr hvl)
      generalize r % 256 ^^^ v.toNat = y at *
      have ht : tabA[y]? = some (.int .u32 (Crc.tab y : Int)) := getElem?_rowA _ (by omega)
      clear hB hT Hbel h
      go_wp2
      go_round
      case rel => exact ⟨k + 1, by omega, by go_num, by rw [HS.out, HU.out]⟩
      case measure => simp [intOf]; omega
    · have e : l.take k = l := List.take_of_length_le (by omega)
      rw [e] at hr
      have HE := hide e
      have hk' : l.length ≤ k := by omega
      clear hB hT h e
      go_wp2
      go_ret
      refine ⟨?_, Hbel⟩
      rw [HE.out, u32_not _ hr]; rfl

set_option maxHeartbeats 400000 in
theorem sum_calls (A : Option Addr) (n : Nat) (l : List UInt8) (cap : Nat) (w : World) (hn : n = l.length) (hl : l.length ≤ 9223372036854775807) {B : Nat} (hby : Byt w B A l) :
    Calls Try.prog 34 #[.slice A n cap] w fun e w' => e = .returned (.int .u32 (Crc.sum l : Int)) ∧ Below w.heap.size w w' := by
  go_enter Try.func34, Try.ntmps34
  have HN := hide hn
  clear hn
  go_wp2_with (go_at_call 51; refine (more_calls 0 _ _ l _ _ (by omega) HN.out hl hby).mono ?_; rintro e w1 ⟨rfl, hb1⟩)
  go_ret
  exact ⟨rfl, hb1⟩
end Go.Proofs.Ytijcollcncjdoaa.C3
