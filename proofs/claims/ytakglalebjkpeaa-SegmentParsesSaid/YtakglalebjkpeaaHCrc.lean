/- Texts of this claim in one: HCrc. What each proves, and on what conditions, its own words say. -/
import Derived.Test.YtakglalebjkpeaaRows
import Derived.Test.YtakglalebjkpeaaHLib
import Derived.Test.YtakglalebjkpeaaHPlain
import Derived.WalkKit
import Derived.WalkSpells
import Derived.WalkLawsBesides
import Derived.Laws.BitsAllLaws
import Derived.Laws.Shifts
import Derived.Deep.WholeRow
import Derived.Lib.SlBytesConst
import Derived.BigRegion
namespace Go.Proofs.Ytakglalebjkpeaa.C3
open Go.RowKit Kin

theorem u32_stp_odd (v : Nat) (hv : v < 4294967296) (h : (bits BinOp.and IntKind.u32 (v : Int) 1 == 1) = true) : bits BinOp.xor IntKind.u32 ((v : Int) / 2) 3988292384 = (Crc.stp v : Int) := by
  have e := u32_and_nat v 1 hv (by omega)
  rw [Nat.and_one_is_mod] at e
  rw [show ((1 : Nat) : Int) = 1 from rfl] at e
  rw [e] at h
  have hm : v % 2 = 1 := by simp at h; omega
  have e2 := u32_xor_nat (v / 2) 3988292384 (by omega) (by omega)
  rw [show ((v / 2 : Nat) : Int) = (v : Int) / 2 from by omega] at e2
  rw [show ((3988292384 : Nat) : Int) = 3988292384 from rfl] at e2
  rw [e2]; unfold Crc.stp; rw [if_pos hm]
theorem u32_stp_even (v : Nat) (hv : v < 4294967296) (h : (bits BinOp.and IntKind.u32 (v : Int) 1 == 1) = false) : ((v : Int) / 2) = (Crc.stp v : Int) := by
  have e := u32_and_nat v 1 hv (by omega)
  rw [Nat.and_one_is_mod] at e
  rw [show ((1 : Nat) : Int) = 1 from rfl] at e
  rw [e] at h
  have hm : ¬ v % 2 = 1 := by simp at h; omega
  unfold Crc.stp; rw [if_neg hm]; omega

theorem u32_not (s : Nat) (hs : s < 4294967296) : bits BinOp.xor IntKind.u32 IntKind.u32.max (s : Int) = ((4294967295 - s : Nat) : Int) := by
  have e := u32_xor_nat 4294967295 s (by omega) hs
  rw [show (IntKind.u32.max) = ((4294967295 : Nat) : Int) from by decide, e, Crc.flip_xor s hs, Nat.xor_comm]
theorem u8_xor_mod (r v : Nat) (hv : v < 256) : bits BinOp.xor IntKind.u8 ((r : Int) % 256) (v : Int) = ((r % 256 ^^^ v : Nat) : Int) := by
  have e := u8_xor_nat (r % 256) v (by omega) hv
  rw [← e]; congr 1
theorem u32_upd (r v : Nat) (hr : r < 4294967296) (hv : v < 256) : bits BinOp.xor IntKind.u32 (Crc.tab (r % 256 ^^^ v) : Int) ((r : Int) / 256) = (Crc.upd r v : Int) := by
  have hx : r % 256 ^^^ v < 2 ^ 8 := Nat.xor_lt_two_pow (by omega) (by omega)
  have e := u32_xor_nat (Crc.tab (r % 256 ^^^ v)) (r / 256) (Crc.tab_lt (by omega)) (by omega)
  rw [Crc.upd, ← e]; congr 1
theorem fold_take (r : Nat) (l : List UInt8) (k : Nat) (h : k < l.length) : Crc.fold r (l.take (k + 1)) = Crc.upd (Crc.fold r (l.take k)) l[k].toNat := by
  rw [List.take_succ_eq_append_getElem h, Crc.fold_snoc]

set_option maxHeartbeats 400000 in
theorem eight_calls (r : Nat) (w : World) (h : r < 4294967296) :
    Calls Try.prog 86 #[.int .u32 (r : Int)] w fun e w' => e = .returned (.int .u32 (Crc.tab r : Int)) ∧ w = w' := by
  go_enter Try.func86, Try.ntmps86
  go_wp2
  go_loop [0, 3] (fun x i => ∃ (k : Nat), k ≤ 8 ∧ i = .int .i64 k ∧ x = .int .u32 (Crc.stpN k r : Int)) (fun _ i => 8 - (intOf i).toNat)
  case atStart => exact ⟨0, by omega, rfl, rfl⟩
  case round =>
    obtain ⟨k, hk, rfl, rfl⟩ := hrel
    have HS := hide (Crc.stpN_succ k r)
    have hv : Crc.stpN k r < 4294967296 := Crc.stpN_lt h
    by_cases hlt : k < 8
    · generalize Crc.stpN k r = v at *
      go_wp2
      · go_round
        case rel => exact ⟨k + 1, by omega, by go_num, by rw [HS.out, u32_stp_odd v hv ‹_›]⟩
        case measure => simp [intOf]; omega
      · go_round
        case rel => exact ⟨k + 1, by omega, by go_num, by rw [HS.out, u32_stp_even v hv ‹_›]⟩
        case measure => simp [intOf]; omega
    · obtain rfl : k = 8 := by omega
      clear HS
      go_wp2
      go_ret
      exact ⟨rfl, rfl⟩

def tabA : Array Value := rowA 256 (fun i => .int .u32 (Crc.tab i : Int))
def zerA : Array Value := rowA 256 (fun _ => .int .u32 0)
/-- the table as far as k -/
def tabF (k i : Nat) : Value := if i < k then .int .u32 (Crc.tab i : Int) else .int .u32 0
theorem tabF_succ (k : Nat) : rowA 256 (tabF (k + 1)) = (rowA 256 (tabF k)).setIfInBounds k (.int .u32 (Crc.tab k : Int)) := by
  rw [rowA_set]
  refine rowA_congr fun i _ => ?_
  unfold tabF
  by_cases e : i = k
  · subst e; simp
  · by_cases h : i < k
    · rw [if_pos (by omega), if_neg e, if_pos h]
    · rw [if_neg (by omega), if_neg e, if_neg h]
theorem tabF_all : rowA 256 (tabF 256) = tabA := rowA_congr fun _ hi => if_pos hi
theorem tabF_none : zerA = rowA 256 (tabF 0) := rowA_congr fun i _ => (if_neg (by omega)).symm
theorem Try.zero_tab : (Try.prog.info? 118).map (fun i => (i.zero, i.size)) = some (some (.agg zerA), 256) := by kernel_rfl

theorem size_tabA : tabA.size = 256 := size_rowA _ _
theorem one_tabA : tabA.all (·.oneCell') = true := oneCell_rowA _ _ fun _ _ => rfl

set_option maxRecDepth 100000 in
set_option maxHeartbeats 400000 in
theorem table_calls (w : World) : Calls Try.prog 84 #[] w fun e w' => e = .returned (.agg tabA) ∧ Below w.heap.size w w' := by
  have hz := (zero_of_info Try.zero_tab).1
  have HI := hide (zero_of_info Try.zero_tab).2
  go_enter Try.func84, Try.ntmps84
  go_wp2
  go_loopw [3] (fun i wr => ∃ (k : Nat), k ≤ 256 ∧ i = .int .i64 k ∧ Blk wr w.heap.size 118 zerA ∧ Blk wr (w.heap.size + 1) 118 (rowA 256 (tabF k)) ∧ Below w.heap.size w wr) (fun i _ => 256 - (intOf i).toNat)
  case atStart => exact ⟨0, by omega, rfl, (Blk.new _ _ _).alloc _, by rw [← tabF_none]; simpa using Blk.new (w.alloc (Obj.cells zerA 118)) 118 zerA, ((Below.refl _ _).alloc (by omega) _).alloc (by simp) _⟩
  case round =>
    obtain ⟨k, hk, rfl, hb0, hb1, hbel⟩ := hrel
    by_cases hlt : k < 256
    · have hc : wr.cell? ⟨w.heap.size + 1, k, none⟩ = some (tabF k k) := by rw [hb1.cell, getElem?_rowA _ hlt]
      have hf := hb1.frozen k
      have HS := hide (tabF_succ k)
      go_wp2_with (go_at_call 86; refine (eight_calls k _ (by omega)).mono ?_; rintro e w' ⟨rfl, rfl⟩)
      go_roundw
      case rel => exact ⟨k + 1, by omega, by go_num, hb0.far (by simp) _, by rw [HS.out]; exact hb1.set_ _ _, hbel.setCell (by simp) _⟩
      case measure => simp [intOf]; omega
    · obtain rfl : k = 256 := by omega
      rw [tabF_all] at hb1
      go_wp2_with (first | (refine wpList_load_row rfl 118 _ rfl (w.heap.size + 1) rfl 118 _ _ _ hb1 Try.underlying118 rfl (by rw [size_tabA]; exact HI.out) ?_) | (refine wpList_store_row rfl 118 _ _ rfl w.heap.size tabA rfl rfl 118 _ hb0 (by rw [size_tabA]; exact HI.out) (by rw [size_tabA]; exact size_rowA _ _) one_tabA ?_))
      refine bodyPost_ret (v := .agg tabA) (results_cell_row rfl _ _ w.heap.size 118 tabA (0, 0) _ (by simp [Act.put]) (hb0.setRow _) Try.underlying118 rfl (by rw [size_tabA]; exact HI.out)) (by simp [Act.put]) ⟨rfl, ?_⟩
      exact below_setRow' hbel (Nat.le_refl _) _

set_option maxRecDepth 100000 in
set_option maxHeartbeats 400000 in
theorem more_calls (s : Nat) (A : Option Addr) (n : Nat) (l : List UInt8) (cap : Nat) (w : World) (hs : s < 4294967296) (hn : n = l.length) (hl : l.length ≤ 9223372036854775807) {B : Nat} (hby0 : Byt w B A l) :
    Calls Try.prog 77 #[.int .u32 (s : Int), .slice A n cap] w fun e w' => e = .returned (.int .u32 (Crc.more s l : Int)) ∧ Below w.heap.size w w' := by
  subst hn
  have hby := hby0.here
  clear hby0
  have hz := (zero_of_info Try.zero_tab).1
  have HI := hide (zero_of_info Try.zero_tab).2
  go_enter Try.func77, Try.ntmps77
  go_wp2_with (first | (go_at_call 84; refine (table_calls _).mono ?_; rintro e w1 ⟨rfl, hb1⟩) | (refine wpList_store_row rfl 118 (.tmp 5) (.tmp 9) rfl _ tabA rfl rfl 118 zerA (heap_alloc_new _ _) (by rw [size_tabA]; exact HI.out) (by rw [size_tabA]; exact size_rowA _ _) one_tabA ?_; rw [World.setRow_alloc_new]))
  have hB : Byt (w1.alloc (Obj.cells tabA 118)) w.heap.size A l := hby.below (hb1.alloc hb1.size _)
  have hT := Blk.new w1 118 tabA
  have Hbel : Below w.heap.size w (w1.alloc (Obj.cells tabA 118)) := hb1.alloc hb1.size _
  clear hby hz HI hb1
  go_loop [6, 14] (fun x i => ∃ (k : Nat), k ≤ l.length ∧ i = .int .i64 k ∧ x = .int .u32 (Crc.fold (4294967295 - s) (l.take k) : Int)) (fun _ i => l.length - (intOf i).toNat)
  case atStart => exact ⟨0, by omega, rfl, by rw [u32_not s hs]; rfl⟩
  case round =>
    obtain ⟨k, hk, rfl, rfl⟩ := hrel
    have hr : Crc.fold (4294967295 - s) (l.take k) < 4294967296 := Crc.fold_lt (by omega)
    by_cases hlt : k < l.length
    · have HS := hide (fold_take (4294967295 - s) l k hlt)
      obtain ⟨b, off, rfl, hbB, hcell⟩ := hB.at_ hlt
      generalize Crc.fold (4294967295 - s) (l.take k) = r at *
      generalize l[k] = v at *
      have hvl := v.toNat_lt
      have hx : r % 256 ^^^ v.toNat < 2 ^ 8 := Nat.xor_lt_two_pow (by omega) (by omega)
      have e8 := u8_xor_mod r v.toNat hvl
      have HU := hide (u32_upd r v.toNat hr hvl)
      generalize r % 256 ^^^ v.toNat = y at *
      have ht : tabA[y]? = some (.int .u32 (Crc.tab y : Int)) := getElem?_rowA _ (by omega)
      clear hB hT Hbel h
      go_wp2
      go_round
      case rel => exact ⟨k + 1, by omega, by go_num, by rw [HS.out, HU.out]⟩
      case measure => simp [intOf]; omega
    · have e : l.take k = l := List.take_of_length_le (by omega)
      rw [e] at hr
      have HE := hide e
      have hk' : l.length ≤ k := by omega
      clear hB hT h e
      go_wp2
      go_ret
      refine ⟨?_, Hbel⟩
      rw [HE.out, u32_not _ hr]; rfl

set_option maxHeartbeats 400000 in
theorem sum_calls (A : Option Addr) (n : Nat) (l : List UInt8) (cap : Nat) (w : World) (hn : n = l.length) (hl : l.length ≤ 9223372036854775807) {B : Nat} (hby : Byt w B A l) :
    Calls Try.prog 49 #[.slice A n cap] w fun e w' => e = .returned (.int .u32 (Crc.sum l : Int)) ∧ Below w.heap.size w w' := by
  go_enter Try.func49, Try.ntmps49
  have HN := hide hn
  clear hn
  go_wp2_with (go_at_call 77; refine (more_calls 0 _ _ l _ _ (by omega) HN.out hl hby).mono ?_; rintro e w1 ⟨rfl, hb1⟩)
  go_ret
  exact ⟨rfl, hb1⟩
end Go.Proofs.Ytakglalebjkpeaa.C3
namespace Go.Proofs.Ytakglalebjkpeaa.C3
open Go.RowKit Kin

theorem bytesT : IsBytes Try.prog 31 5 := isBytes_of Try.underlying31 Try.underlying5 (by kernel_rfl)
theorem crc_known : Crc.sum [49, 50, 51, 52, 53, 54, 55, 56, 57] = 3421780262 := by decide +kernel
theorem crc_none : Crc.sum [] = 0 := by decide +kernel
theorem crc_tab1 : Crc.tab 1 = 1996959894 := by decide +kernel
theorem tabA_1 (w : World) : (Instr.index 118 (.agg tabA) (.int .i64 1)).run Try.prog w = .ok (.int .u32 1996959894) w := by kernel_rfl

end Go.Proofs.Ytakglalebjkpeaa.C3
namespace Go.Proofs.Ytakglalebjkpeaa.C3
open Go.RowKit Kin

/-- the remainder as 32 bytes -/
def remA (r : Nat) : Array Value := rowA 32 (fun i => .int .u8 (Crc.bit r i : Int))
theorem size_remA (r : Nat) : (remA r).size = 32 := size_rowA _ _
theorem one_remA (r : Nat) : (remA r).all (·.oneCell') = true := oneCell_rowA _ _ fun _ _ => rfl
theorem Try.zero_rem : (Try.prog.info? 103).map (fun i => (i.zero, i.size)) = some (some (.agg (remA 0)), 32) := by kernel_rfl

/- number -/

theorem half (x i : Nat) : x / 2 ^ i = 2 * (x / 2 ^ (i + 1)) + Crc.bit x i := by
  unfold Crc.bit
  rw [Nat.pow_succ, ← Nat.div_div_eq_div_mul]
  omega
def turnedIf (t : Bool) (r : Nat) : Nat := if t then 4294967295 - r else r

set_option maxRecDepth 100000 in
set_option maxHeartbeats 1000000 in
theorem number_calls (r : Nat) (t : Bool) (w : World) (hr : r < 4294967296) :
    Calls Try.prog 74 #[.agg (remA r), .bool t] w fun e w' => e = .returned (.int .u32 (turnedIf t r : Int)) ∧ Below w.heap.size w w' := by
  obtain ⟨x, HX⟩ : ∃ x, Hid (x = turnedIf t r) := ⟨_, rfl⟩
  have hx : x < 4294967296 := by rw [HX.out]; unfold turnedIf; split <;> omega
  have HB : Hid (∀ i, i < 32 → Crc.bit x i = if t then 1 - Crc.bit r i else Crc.bit r i) := fun i hi => by
    rw [HX.out]; unfold turnedIf
    cases t
    · simp
    · simp [Crc.bit_not hr hi]
  go_enter Try.func74, Try.ntmps74
  go_wp2
  have hB := Blk.new w 103 (remA r)
  go_loop [5, 6] (fun v i => ∃ k : Nat, k ≤ 32 ∧ i = .int .i64 ((k : Int) - 1) ∧ v = .int .u32 ((x / 2 ^ k : Nat) : Int)) (fun _ i => (intOf i + 1).toNat)
  case atStart => exact ⟨32, by omega, rfl, by rw [Nat.div_eq_of_lt (show x < 2 ^ 32 from hx)]; rfl⟩
  case round =>
    obtain ⟨k, hk, rfl, rfl⟩ := hrel
    rcases k with _ | j
    · have e0 : x / 2 ^ 0 = x := by simp
      have HE := hide e0
      clear e0
      generalize x / 2 ^ 0 = y at *
      rw [show (((0 : Nat) : Int) - 1) = -1 from rfl]
      go_wp2
      go_ret
      exact ⟨by rw [HE.out, HX.out]; rfl, (Below.refl _ _).alloc (Nat.le_refl _) _⟩
    · have HH := hide (half x j)
      have hle : x / 2 ^ j ≤ x := Nat.div_le_self _ _
      have hsum : 2 * (x / 2 ^ (j + 1)) + Crc.bit x j < 4294967296 := by rw [← HH.out]; omega
      have hbx := HB.out j (by omega)
      have hb1 := Crc.bit_le r j
      rw [show (((j + 1 : Nat) : Int) - 1) = (j : Int) from by omega]
      have ht : (remA r)[j]? = some (.int .u8 (Crc.bit r j : Int)) := getElem?_rowA _ (by omega)
      generalize x / 2 ^ (j + 1) = q at *
      generalize Crc.bit r j = d at *
      cases t
      · simp only [Bool.false_eq_true, if_false] at hbx
        rw [hbx] at hsum HH
        generalize Crc.bit x j = d' at *
        clear hbx HB hB
        go_wp2
        go_round
        case rel => exact ⟨j, by omega, rfl, by rw [HH.out]; go_num⟩
        case measure => simp [intOf]
      · simp only [if_true] at hbx
        rw [hbx] at hsum HH
        generalize Crc.bit x j = d' at *
        clear hbx HB hB
        have hd : d = 0 ∨ d = 1 := by omega
        have hs' : 2 * (q : Int) + (1 - (d : Int)) < 4294967296 := by omega
        clear hd
        go_wp2
        go_round
        case rel => exact ⟨j, by omega, rfl, by rw [HH.out]; go_num⟩
        case measure => simp [intOf]

/- powers -/

def powsA : Array Value := #[.int .i64 26, .int .i64 23, .int .i64 22, .int .i64 16, .int .i64 12, .int .i64 11, .int .i64 10, .int .i64 8, .int .i64 7, .int .i64 5, .int .i64 4, .int .i64 2, .int .i64 1, .int .i64 0]
def pows : List Nat := [26, 23, 22, 16, 12, 11, 10, 8, 7, 5, 4, 2, 1, 0]
theorem powsA_at {k : Nat} (h : k < 14) : ∃ p, pows[k]? = some p ∧ powsA[k]? = some (.int .i64 (p : Int)) ∧ p ≤ 26 := by
  have : ∀ k : Fin 14, ∃ p, pows[k.1]? = some p ∧ powsA[k.1]? = some (.int .i64 (p : Int)) ∧ p ≤ 26 := by
    intro k
    match k with
    | 0 => exact ⟨_, rfl, rfl, by decide⟩
    | 1 => exact ⟨_, rfl, rfl, by decide⟩
    | 2 => exact ⟨_, rfl, rfl, by decide⟩
    | 3 => exact ⟨_, rfl, rfl, by decide⟩
    | 4 => exact ⟨_, rfl, rfl, by decide⟩
    | 5 => exact ⟨_, rfl, rfl, by decide⟩
    | 6 => exact ⟨_, rfl, rfl, by decide⟩
    | 7 => exact ⟨_, rfl, rfl, by decide⟩
    | 8 => exact ⟨_, rfl, rfl, by decide⟩
    | 9 => exact ⟨_, rfl, rfl, by decide⟩
    | 10 => exact ⟨_, rfl, rfl, by decide⟩
    | 11 => exact ⟨_, rfl, rfl, by decide⟩
    | 12 => exact ⟨_, rfl, rfl, by decide⟩
    | 13 => exact ⟨_, rfl, rfl, by decide⟩
  exact this ⟨k, h⟩
set_option maxRecDepth 100000 in
theorem powers_calls (w : World) : Calls Try.prog 83 #[] w fun e w' => e = .returned (.slice (some ⟨w.heap.size, 0, none⟩) 14 14) ∧ w.alloc (.cells powsA 3) = w' := by
  go_enter Try.func83, Try.ntmps83
  go_wp2
  go_ret
  exact ⟨rfl, rfl⟩

/- Divide -/

/-- the register with the first k of the powers turned -/
def turnP (r k : Nat) : Nat := (pows.take k).foldl (fun x p => x ^^^ 2 ^ (31 - p)) r
theorem turnP_zero (r : Nat) : turnP r 0 = r := by simp [turnP]
theorem turnP_succ (r k p : Nat) (h : pows[k]? = some p) : turnP r (k + 1) = turnP r k ^^^ 2 ^ (31 - p) := by
  have hk := (List.getElem?_eq_some_iff.1 h).1
  have hp := (List.getElem?_eq_some_iff.1 h).2
  unfold turnP
  rw [List.take_succ_eq_append_getElem hk, List.foldl_append, hp]; rfl
theorem turnP_all (r : Nat) : turnP r 14 = r ^^^ 3988292384 := by
  have e : (3988292384 : Nat) = 2 ^ 5 ^^^ (2 ^ 8 ^^^ (2 ^ 9 ^^^ (2 ^ 15 ^^^ (2 ^ 19 ^^^ (2 ^ 20 ^^^ (2 ^ 21 ^^^ (2 ^ 23 ^^^ (2 ^ 24 ^^^ (2 ^ 26 ^^^ (2 ^ 27 ^^^ (2 ^ 29 ^^^ (2 ^ 30 ^^^ 2 ^ 31)))))))))))) := by decide
  rw [e]
  simp only [← Nat.xor_assoc]
  rfl
theorem remA_flip (x j : Nat) (hj : j < 32) : (remA x).setIfInBounds j (.int .u8 (1 - (Crc.bit x j : Int))) = remA (x ^^^ 2 ^ j) := by
  unfold remA
  rw [rowA_set]
  refine rowA_congr fun i _ => ?_
  show (if i = j then _ else _) = Value.int .u8 _
  rw [Crc.bit_flip]
  by_cases h : i = j
  · subst h
    rw [if_pos rfl, if_pos rfl]
    have := Crc.bit_le x i
    congr 1
    omega
  · rw [if_neg h, if_neg h]
/-- the register shifted as far as k -/
def shF (r k i : Nat) : Value := if i < k then .int .u8 (Crc.bit r (i + 1) : Int) else .int .u8 (Crc.bit r i : Int)
theorem shF_zero (r : Nat) : rowA 32 (shF r 0) = remA r := rowA_congr fun i _ => if_neg (by omega)
theorem shF_succ (r k : Nat) : (rowA 32 (shF r k)).setIfInBounds k (.int .u8 (Crc.bit r (k + 1) : Int)) = rowA 32 (shF r (k + 1)) := by
  rw [rowA_set]
  refine rowA_congr fun i _ => ?_
  show (if i = k then _ else shF r k i) = shF r (k + 1) i
  unfold shF
  by_cases h : i = k
  · subst h; rw [if_pos rfl, if_pos (by omega)]
  · rw [if_neg h]
    by_cases h2 : i < k
    · rw [if_pos h2, if_pos (by omega)]
    · rw [if_neg h2, if_neg (by omega)]
theorem shF_top (r b : Nat) (hr : r < 4294967296) (hb : b ≤ 1) : (rowA 32 (shF r 31)).setIfInBounds 31 (.int .u8 (b : Int)) = remA (r / 2 + b * 2147483648) := by
  unfold remA
  rw [rowA_set]
  refine rowA_congr fun i hi => ?_
  show (if i = 31 then _ else shF r 31 i) = Value.int .u8 _
  rw [Crc.dshift_bit hr hb hi]
  by_cases h : i = 31
  · subst h; rw [if_pos rfl, if_neg (by omega)]
  · rw [if_neg h, if_pos (by omega)]
    unfold shF
    rw [if_pos (by omega)]

set_option maxRecDepth 100000 in
set_option maxHeartbeats 2000000 in
theorem divide_calls (A : Option Addr) (n c : Nat) (l : List UInt8) (w : World) (hn : n = l.length) (hm : n ≤ 9223372036854775807) (h01 : Crc.Bits01 l) {B : Nat} (hA0 : Byt w B A l) :
    Calls Try.prog 75 #[.slice A n c] w fun e w' => e = .returned (.agg (remA (Crc.divide l))) ∧ Below w.heap.size w w' := by
  have hA := hA0.here
  clear hA0
  have HN := hide hn
  clear hn
  have hz := (zero_of_info Try.zero_rem).1
  have HI := hide (zero_of_info Try.zero_rem).2
  go_enter Try.func75, Try.ntmps75
  go_wp2
  go_loopw [4] (fun i wr => ∃ k : Nat, k ≤ n ∧ i = .int .i64 k ∧ (∃ cs, Blk wr w.heap.size 103 cs ∧ cs.size = 32) ∧ Blk wr (w.heap.size + 1) 103 (remA (Crc.divide (l.take k))) ∧ Below w.heap.size w wr) (fun i _ => n - (intOf i).toNat)
  case atStart => exact ⟨0, by omega, rfl, ⟨_, (Blk.new _ _ _).alloc _, size_remA _⟩, (by have := Blk.new (w.alloc (Obj.cells (remA 0) 103)) 103 (remA 0); rw [World.size_alloc] at this; exact this), ((Below.refl _ _).alloc (by omega) _).alloc (by simp) _⟩
  case round =>
    obtain ⟨k, hk, rfl, ⟨cs, hb0, hcs⟩, hb1, hbel⟩ := hrel
    clear hz
    by_cases hlt : k < n
    · have hr : Crc.divide (l.take k) < 4294967296 := Crc.divide_lt fun b hb => h01 b (List.mem_of_mem_take hb)
      have hkl : k < l.length := by rw [← HN.out]; exact hlt
      have HS : Hid (Crc.divide (l.take (k + 1)) = Crc.dstep (Crc.divide (l.take k)) l[k].toNat) := by
        rw [List.take_succ_eq_append_getElem hkl]; exact Crc.divide_snoc _ _
      have hv1 : l[k].toNat ≤ 1 := h01 _ (List.getElem_mem _)
      obtain ⟨pb, po, rfl, pl, pc⟩ := hA.at_ hkl
      have KC : Hid (∀ W : World, Below w.heap.size w W → W.cell? ⟨pb, po + k, none⟩ = some (.int .u8 (l[k].toNat : Int))) := fun W hW => (hW.cell (p := ⟨pb, po + k, none⟩) pl).trans pc
      clear pc hA
      generalize Crc.divide (l.take k) = r at *
      generalize l[k].toNat = v at *
      have q0 : wr.cell? ⟨w.heap.size + 1, 0, none⟩ = some (.int .u8 (Crc.bit r 0 : Int)) := by rw [hb1.cell]; exact getElem?_rowA _ (by omega)
      have hb01 := Crc.bit_le r 0
      have HB0 : Hid (Crc.bit r 0 = r % 2) := by unfold Crc.bit; show _ = _; simp
      have HCS := hide hcs
      clear hcs
      go_wp2
      obtain ⟨wo, rfl⟩ : ∃ wo : World, wo = wr := ⟨_, rfl⟩
      go_loopw [6] (fun i wr => ∃ j : Nat, j ≤ 31 ∧ i = .int .i64 j ∧ Blk wr w.heap.size 103 cs ∧ Blk wr (w.heap.size + 1) 103 (rowA 32 (shF r j)) ∧ Below w.heap.size w wr) (fun i _ => 31 - (intOf i).toNat)
      case atStart => exact ⟨0, by omega, rfl, hb0, by rw [shF_zero]; exact hb1, hbel⟩
      case round =>
        obtain ⟨j, hj, rfl, ib0, ib1, ibel⟩ := hrel
        clear q0 hb0 hb1 hbel
        by_cases jlt : j < 31
        · have j1 : wr.cell? ⟨w.heap.size + 1, j + 1, none⟩ = some (.int .u8 (Crc.bit r (j + 1) : Int)) := by rw [ib1.cell, getElem?_rowA _ (by omega)]; unfold shF; rw [if_neg (by omega)]
          have j0 : wr.cell? ⟨w.heap.size + 1, j, none⟩ = some (shF r j j) := by rw [ib1.cell, getElem?_rowA _ (by omega)]
          have jf := ib1.frozen j
          have HSH := hide (shF_succ r j)
          go_wp2
          go_roundw
          case rel => exact ⟨j + 1, by omega, by go_num, ib0.far (by simp) _, by rw [← HSH.out]; exact ib1.set_ _ _, ibel.setCell (by simp) _⟩
          case measure => simp [intOf]; omega
        · obtain rfl : j = 31 := by omega
          have t31 : wr.cell? ⟨w.heap.size + 1, 31, none⟩ = some (shF r 31 31) := by rw [ib1.cell, getElem?_rowA _ (by omega)]
          have tf := ib1.frozen 31
          have HT := hide (shF_top r v hr hv1)
          have qv := KC.out wr ibel
          have hr' := Crc.dshift_lt hr hv1
          clear KC
          by_cases htop : r % 2 = 1
          · have qt : ((Crc.bit r 0 : Int) == 1) = true := by rw [HB0.out]; simp; omega
            have HD : Hid (Crc.dstep r v = (r / 2 + v * 2147483648) ^^^ 3988292384) := by unfold Crc.dstep; show _ = _; rw [if_pos htop]
            go_wp2_with (go_at_call 83; refine (powers_calls _).mono ?_; rintro e w' ⟨rfl, rfl⟩)
            have kb0 := ((ib0.far (p := ⟨w.heap.size + 1, 31, none⟩) (by simp) (.int .u8 (v : Int))).alloc (Obj.cells powsA 3))
            have kb1 := ib1.set_ 31 (.int .u8 (v : Int))
            rw [HT.out] at kb1
            have kb1 := kb1.alloc (Obj.cells powsA 3)
            have kbel := (ibel.setCell (p := ⟨w.heap.size + 1, 31, none⟩) (by simp) (.int .u8 (v : Int)))
            have kbel := kbel.alloc kbel.size (Obj.cells powsA 3)
            have kp := Blk.new (wr.setCell ⟨w.heap.size + 1, 31, none⟩ (.int .u8 (v : Int))) 3 powsA
            rw [World.size_setCell] at kp
            have hz1 := ib1.lt
            clear ib0 ib1 ibel t31 tf qv HT
            generalize (wr.setCell ⟨w.heap.size + 1, 31, none⟩ (.int .u8 (v : Int))).alloc (Obj.cells powsA 3) = W1 at *
            generalize r / 2 + v * 2147483648 = r2 at *
            generalize wr.heap.size = gp at *
            go_loopw [8] (fun i wr => ∃ j : Nat, j ≤ 14 ∧ i = .int .i64 j ∧ Blk wr w.heap.size 103 cs ∧ Blk wr (w.heap.size + 1) 103 (remA (turnP r2 j)) ∧ Blk wr gp 3 powsA ∧ Below w.heap.size w wr) (fun i _ => 14 - (intOf i).toNat)
            case atStart => exact ⟨0, by omega, rfl, kb0, by rw [turnP_zero]; exact kb1, kp, kbel⟩
            case round =>
              obtain ⟨j, hj, rfl, lb0, lb1, lp, lbel⟩ := hrel
              clear kb0 kb1 kp kbel
              by_cases jlt2 : j < 14
              · obtain ⟨pj, hpj, hpA, hp26⟩ := powsA_at jlt2
                have HTS := hide (turnP_succ r2 j pj hpj)
                have HRF := hide (remA_flip (turnP r2 j) (31 - pj) (by omega))
                have m1 : wr.cell? ⟨gp, j, none⟩ = some (.int .i64 (pj : Int)) := by rw [lp.cell]; exact hpA
                have m2 : wr.cell? ⟨w.heap.size + 1, 31 - pj, none⟩ = some (.int .u8 (Crc.bit (turnP r2 j) (31 - pj) : Int)) := by rw [lb1.cell]; exact getElem?_rowA _ (by omega)
                have m3 := lb1.frozen (31 - pj)
                have hbb := Crc.bit_le (turnP r2 j) (31 - pj)
                clear hpj hpA
                have i1 : (0 : Int) ≤ (j : Int) := by omega
                have i2 : (j : Int) < 14 := by omega
                have i3 : (0 : Int) ≤ 31 - (pj : Int) := by omega
                have i4 : 31 - (pj : Int) < 32 := by omega
                go_wp2
                go_region
                have n0 := (lb0.far (p := ⟨w.heap.size + 1, 31 - pj, none⟩) (by simp) (.int .u8 (1 - (Crc.bit (turnP r2 j) (31 - pj) : Int)))).drew
                have n1 := lb1.set_ (31 - pj) (.int .u8 (1 - (Crc.bit (turnP r2 j) (31 - pj) : Int)))
                rw [HRF.out, ← HTS.out] at n1
                have n1 := n1.drew
                have n2 := (lp.far (p := ⟨w.heap.size + 1, 31 - pj, none⟩) (by simp; omega) (.int .u8 (1 - (Crc.bit (turnP r2 j) (31 - pj) : Int)))).drew
                have n3 := (lbel.setCell (p := ⟨w.heap.size + 1, 31 - pj, none⟩) (by simp) (.int .u8 (1 - (Crc.bit (turnP r2 j) (31 - pj) : Int)))).drew
                clear lb0 lb1 lp lbel m1 m2 m3 HRF HTS
                generalize (wr.setCell ⟨w.heap.size + 1, 31 - pj, none⟩ (.int .u8 (1 - (Crc.bit (turnP r2 j) (31 - pj) : Int)))).drew = W2 at *
                go_wp2
                go_roundw
                case rel => exact ⟨j + 1, by omega, by go_num, n0, n1, n2, n3⟩
                case measure => simp [intOf]; omega
              · obtain rfl : j = 14 := by omega
                rw [turnP_all] at lb1
                go_wp2
                go_roundw
                case rel => exact ⟨k + 1, by omega, by go_num, ⟨cs, lb0, HCS.out⟩, by rw [HS.out, HD.out]; exact lb1, lbel⟩
                case measure => simp [intOf]; omega
          · have qt : ((Crc.bit r 0 : Int) == 1) = false := by rw [HB0.out]; simp; omega
            have HD : Hid (Crc.dstep r v = r / 2 + v * 2147483648) := by unfold Crc.dstep; show _ = _; rw [if_neg htop]
            have kb0 := ib0.far (p := ⟨w.heap.size + 1, 31, none⟩) (by simp) (.int .u8 (v : Int))
            have kb1 := ib1.set_ 31 (.int .u8 (v : Int))
            rw [HT.out] at kb1
            have kbel := ibel.setCell (p := ⟨w.heap.size + 1, 31, none⟩) (by simp) (.int .u8 (v : Int))
            go_wp2
            go_roundw
            case rel => exact ⟨k + 1, by omega, by go_num, ⟨cs, kb0, HCS.out⟩, by rw [HS.out, HD.out]; exact kb1, kbel⟩
            case measure => simp [intOf]; omega
    · have e : l.take k = l := List.take_of_length_le (by rw [← HN.out]; omega)
      rw [e] at hb1
      have hk' : n ≤ k := by omega
      clear hA e
      go_wp2_with (first | (refine wpList_load_row rfl 103 _ rfl (w.heap.size + 1) rfl 103 _ _ _ hb1 Try.underlying103 rfl (by rw [size_remA]; exact HI.out) ?_) | (refine wpList_store_row rfl 103 _ _ rfl w.heap.size (remA (Crc.divide l)) rfl rfl 103 _ hb0 (by rw [size_remA]; exact HI.out) (by rw [size_remA]; exact hcs) (one_remA _) ?_))
      refine bodyPost_ret (v := .agg (remA (Crc.divide l))) (results_cell_row rfl _ _ w.heap.size 103 (remA (Crc.divide l)) (0, 0) _ (by simp [Act.put]) (hb0.setRow _) Try.underlying103 rfl (by rw [size_remA]; exact HI.out)) (by simp [Act.put]) ⟨rfl, ?_⟩
      exact below_setRow' hbel (Nat.le_refl _) _

/- factors -/

def pref (l : List UInt8) (k : Nat) (b : Nat) (j : Nat) : List UInt8 := Crc.bitsOf (l.take k) ++ (List.range j).map fun i => UInt8.ofNat (b / 2 ^ i % 2)
theorem pref_zero (l : List UInt8) (k b : Nat) : pref l k b 0 = Crc.bitsOf (l.take k) := by simp [pref]
theorem pref_succ (l : List UInt8) (k b j : Nat) (x : UInt8) (h : x = UInt8.ofNat (b / 2 ^ j % 2)) : pref l k b (j + 1) = pref l k b j ++ [x] := by
  unfold pref
  rw [List.range_succ, List.map_append, ← List.append_assoc, h]; rfl
theorem pref_all (l : List UInt8) (k : Nat) (h : k < l.length) : pref l k l[k].toNat 8 = Crc.bitsOf (l.take (k + 1)) := by
  unfold pref
  rw [List.take_succ_eq_append_getElem h, Crc.bitsOf_snoc]
theorem length_pref (l : List UInt8) (k b j : Nat) (hk : k ≤ l.length) : (pref l k b j).length = 8 * k + j := by
  unfold pref
  rw [List.length_append, Crc.length_bitsOf, List.length_take, List.length_map, List.length_range, Nat.min_eq_left hk]
theorem u8_mod2 (y : Nat) : ∃ x : UInt8, Hid (x = UInt8.ofNat (y % 2)) ∧ ((y : Int) % 2) = (x.toNat : Int) :=
  ⟨UInt8.ofNat (y % 2), rfl, by rw [UInt8.toNat_ofNat_of_lt' (show y % 2 < 256 by omega)]; omega⟩
theorem B8_one (x : UInt8) : (#[Value.int .u8 (x.toNat : Int)] : Array Value).toList = B8 [x] := rfl
/-- an answer that is a new slice of bytes -/
def RetBytes (T : TypeId) (w : World) (l : List UInt8) (e : Ending) (w' : World) : Prop :=
  ∃ A n c, e = .returned (.slice A n c) ∧ Own8 w' T A n c l ∧ (∀ g, blkOf A = some g → w.heap.size ≤ g) ∧ Below w.heap.size w w'

set_option maxRecDepth 100000 in
set_option maxHeartbeats 1000000 in
theorem factors_calls (A : Option Addr) (n c : Nat) (l : List UInt8) (w : World) (hn : n = l.length) (hm : n ≤ 1000000000) {B : Nat} (hA0 : Byt w B A l) :
    Calls Try.prog 73 #[.slice A n c] w (RetBytes 5 w (Crc.bitsOf l)) := by
  have hA := hA0.here
  clear hA0
  have HN := hide hn
  clear hn
  go_enter Try.func73, Try.ntmps73
  go_wp2
  go_loopw [3, 4] (fun v i wr => ∃ (k : Nat) (A1 : Option Addr) (m c1 : Nat), k ≤ n ∧ i = .int .i64 k ∧ v = .slice A1 m c1 ∧ Own8 wr 5 A1 m c1 (Crc.bitsOf (l.take k)) ∧ (∀ g, blkOf A1 = some g → w.heap.size ≤ g) ∧ Below w.heap.size w wr) (fun _ i _ => n - (intOf i).toNat)
  case atStart => exact ⟨0, none, 0, 0, by omega, rfl, rfl, by simpa [Crc.bitsOf] using Own8.nil w 5, by simp [blkOf], Below.refl _ _⟩
  case round =>
    obtain ⟨k, A1, m, c1, hk, rfl, rfl, hown, hg, hbel⟩ := hrel
    by_cases hlt : k < n
    · have hkl : k < l.length := by rw [← HN.out]; exact hlt
      obtain ⟨pb, po, rfl, pl, pc⟩ := hA.at_ hkl
      have qc : wr.cell? ⟨pb, po + k, none⟩ = some (.int .u8 (l[k].toNat : Int)) := (hbel.cell (p := ⟨pb, po + k, none⟩) pl).trans pc
      have HP := hide (pref_all l k hkl)
      have HZ := hide (pref_zero l k l[k].toNat)
      have hv := l[k].toNat_lt
      clear pc hA
      generalize l[k].toNat = b at *
      have HG := hide hg
      clear hg
      go_wp2
      obtain ⟨wo, rfl⟩ : ∃ wo : World, wo = wr := ⟨_, rfl⟩
      go_loopw [3, 5, 6] (fun v y i wr => ∃ (j : Nat) (A2 : Option Addr) (m2 c2 : Nat), j ≤ 8 ∧ i = .int .i64 j ∧ v = .slice A2 m2 c2 ∧ y = .int .u8 ((b / 2 ^ j : Nat) : Int) ∧ Own8 wr 5 A2 m2 c2 (pref l k b j) ∧ Hid (∀ g, blkOf A2 = some g → w.heap.size ≤ g) ∧ Below w.heap.size w wr) (fun _ _ i _ => 8 - (intOf i).toNat)
      case atStart => exact ⟨0, A1, m, c1, by omega, rfl, rfl, by simp, by rw [HZ.out]; exact hown, HG, hbel⟩
      case round =>
        obtain ⟨j, A2, m2, c2, hj, rfl, rfl, rfl, jown, jg, jbel⟩ := hrel
        clear hown HG hbel qc
        by_cases jlt : j < 8
        · have hy : b / 2 ^ j < 256 := Nat.lt_of_le_of_lt (Nat.div_le_self _ _) hv
          have HY : Hid (b / 2 ^ (j + 1) = b / 2 ^ j / 2) := by rw [Nat.div_div_eq_div_mul, ← Nat.pow_succ]; exact rfl
          have HS := fun x => hide (pref_succ l k b j x)
          have hml : m2 = 8 * k + j := by rw [jown.1, length_pref _ _ _ _ (by omega)]
          have hm2 : m2 ≤ 8 * k + j := by omega
          clear hml
          obtain ⟨x, HX, hx⟩ := u8_mod2 (b / 2 ^ j)
          generalize b / 2 ^ j = y at *
          have HSx := hide ((HS x).out HX.out)
          clear HS
          go_wp2_with (at_builtin; refine wpList_append8 (by rfl) (.tmp 21) (.tmp 24) 31 5 (by rfl) bytesT _ _ _ _ (by rfl) (jown.alloc _) _ _ _ _ [x] (by rfl) (Byt.new _ _ _ _ _ (B8_one x)) (by rfl) (by omega) ?_; intro A3 c3 w3 own3 grow3 at3)
          have hg3 : Hid (∀ g, blkOf A3 = some g → w.heap.size ≤ g) := fun g hg => by
            have hz := jbel.size
            rcases at3 with h | h
            · exact jg.out g (by rw [← h]; exact hg)
            · rw [hg] at h; simp at h; omega
          have bel3 : Below w.heap.size w w3 := Below.grown (jbel.alloc jbel.size _) grow3 (by have := jbel.size; simp; omega) jg.out
          clear grow3 at3 jown jg jbel
          go_wp2
          go_roundw
          case rel => exact ⟨j + 1, A3, _, c3, by omega, by go_num, rfl, by rw [HY.out]; go_num, by rw [HSx.out]; exact own3, hg3, bel3⟩
          case measure => simp [intOf]; omega
        · obtain rfl : j = 8 := by omega
          rw [HP.out] at jown
          go_wp2
          go_roundw
          case rel => exact ⟨k + 1, A2, m2, c2, by omega, by go_num, rfl, jown, jg.out, jbel⟩
          case measure => simp [intOf]; omega
    · have e : l.take k = l := List.take_of_length_le (by rw [← HN.out]; omega)
      rw [e] at hown
      have hk' : n ≤ k := by omega
      have HG := hide hg
      clear hA e hg
      go_wp2
      go_ret
      exact ⟨A1, m, c1, rfl, hown, HG.out, hbel⟩

theorem u8_one_sub (b : UInt8) (h : b.toNat ≤ 1) : ∃ x : UInt8, Hid (x.toNat = 1 - b.toNat) ∧ (1 - (b.toNat : Int)) = (x.toNat : Int) :=
  ⟨UInt8.ofNat (1 - b.toNat), UInt8.toNat_ofNat_of_lt' (show 1 - b.toNat < 256 by omega), by rw [UInt8.toNat_ofNat_of_lt' (show 1 - b.toNat < 256 by omega)]; omega⟩
theorem bit_ones {j : Nat} (h : j < 32) : Crc.bit 4294967295 j = 1 := by
  have := Crc.bit_not (r := 0) (i := j) (by omega) h
  rw [show (4294967295 - 0 : Nat) = 4294967295 from rfl] at this
  rw [this]
  unfold Crc.bit
  simp
theorem len_L (l : List UInt8) : (Crc.bitsOf l ++ List.replicate 32 (0 : UInt8)).length = 8 * l.length + 32 := by
  rw [List.length_append, Crc.length_bitsOf, List.length_replicate]

set_option maxRecDepth 100000 in
set_option maxHeartbeats 1000000 in
theorem refSum_calls (A : Option Addr) (n c : Nat) (l : List UInt8) (w : World) (hn : n = l.length) (hm : n ≤ 1000000000) {B : Nat} (hA : Byt w B A l) :
    Calls Try.prog 47 #[.slice A n c] w fun e w' => e = .returned (.int .u32 (Crc.sum l : Int)) ∧ Below w.heap.size w w' := by
  have HN := hide hn
  clear hn
  go_enter Try.func47, Try.ntmps47
  go_wp2_with fail
  refine (factors_calls _ _ _ l _ HN.out hm hA).mono ?_
  rintro e w1 ⟨A1, n1, c1, rfl, own1, g1, bel1⟩
  have hn1 : n1 = 8 * n := by rw [own1.1, Crc.length_bitsOf, HN.out]
  have hn1' : n1 ≤ 8 * n := by omega
  have hn1'' : 8 * n ≤ n1 := by omega
  have G1 := hide g1
  clear hn1 g1
  go_wp2_with (at_builtin; refine wpList_append8z (by rfl) (.tmp 6) _ 31 5 3 (by rfl) bytesT _ Try.underlying3 _ _ _ _ (by rfl) own1 _ _ 32 (by rfl) (by rfl) (by omega) ?_; intro A2 c2 w2 own2 grow2 at2)
  have bel2 : Below w.heap.size w w2 := Below.grown bel1 grow2 bel1.size G1.out
  have G2 : Hid (∀ g, blkOf A2 = some g → w.heap.size ≤ g) := fun g hg => by
    have hz := bel1.size
    rcases at2 with h | h
    · exact G1.out g (by rw [← h]; exact hg)
    · rw [hg] at h; simp at h; omega
  clear own1 grow2 at2 G1 bel1
  go_loopw [4] (fun i wr => ∃ (j : Nat) (m : List UInt8), j ≤ 32 ∧ i = .int .i64 j ∧ Own8 wr 5 A2 (n1 + 32) c2 m ∧ Crc.Turned (Crc.bitsOf l ++ List.replicate 32 0) m 4294967295 j ∧ Below w.heap.size w wr) (fun i _ => 32 - (intOf i).toNat)
  case atStart => exact ⟨0, _, by omega, rfl, own2, Crc.Turned.zero (Crc.bits01_L l) _, bel2⟩
  case round =>
    obtain ⟨j, m, hj, rfl, own, htu, bel⟩ := hrel
    clear own2 bel2
    by_cases hlt : j < 32
    · obtain ⟨g, b, rfl, hb, hc, hf⟩ := own.at_ (k := j) (by omega)
      have hb1 : b.toNat ≤ 1 := htu.2.1 b (List.mem_of_getElem? hb)
      have HB := hide hb
      clear hb
      obtain ⟨x, HX, hx⟩ := u8_one_sub b hb1
      have HT : Hid (Crc.Turned (Crc.bitsOf l ++ List.replicate 32 0) (m.set j x) 4294967295 (j + 1)) := htu.step hlt (by rw [len_L]; omega) HB.out (by rw [HX.out, bit_ones hlt]; omega)
      clear htu
      go_wp2
      go_roundw
      case rel => exact ⟨j + 1, _, by omega, by go_num, own.set rfl x, HT.out, bel.setCell (G2.out g rfl) _⟩
      case measure => simp [intOf]; omega
    · obtain rfl : j = 32 := by omega
      have hd := htu.sum (by omega)
      have h01 := htu.2.1
      have HD := hide hd
      have hlt' := Crc.divide_lt h01
      have hby := own.byt
      have HM : Hid (n1 + 32 = m.length) := own.1
      clear htu hd own
      go_wp2_with fail
      refine (divide_calls _ _ _ m _ HM.out (by omega) h01 hby).mono ?_
      rintro e w3 ⟨rfl, bel3⟩
      go_wp2_with fail
      refine (number_calls (Crc.divide m) true _ hlt').mono ?_
      rintro e w4 ⟨rfl, bel4⟩
      go_wp2_with fail
      go_ret
      exact ⟨by rw [HD.out]; rfl, bnext (bnext bel bel3) bel4⟩

theorem u8_more (b : UInt8) (y : Nat) : ∃ x : UInt8, Hid (x.toNat = (b.toNat + (1 - y % 2)) % 2) ∧ (((b.toNat : Int) + 1 + (y : Int) % 2) % 2) = (x.toNat : Int) :=
  ⟨UInt8.ofNat ((b.toNat + (1 - y % 2)) % 2), UInt8.toNat_ofNat_of_lt' (show _ < 256 by omega), by rw [UInt8.toNat_ofNat_of_lt' (show (b.toNat + (1 - y % 2)) % 2 < 256 by omega)]; omega⟩

end Go.Proofs.Ytakglalebjkpeaa.C3
