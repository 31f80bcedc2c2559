/- The sums' matrices: times, squared, Zeros, Join by their contracts. No conditions but the numbers' ranges. -/
import Derived.Test.YtohpbkkaboebdaaCrcAlive
import Derived.Test.YtohpbkkaboebdaaCrcPlain2
import Derived.Deep.RegionHeld3
import Derived.BigRegion
namespace Go.Proofs.Ytohpbkkaboebdaa
open Go.RowKit Kin

/-- the matrix of N steps -/
def matF (N i : Nat) : Value := .int .u32 (Crc.stpN N (2 ^ i) : Int)
def matA (N : Nat) : Array Value := rowA 32 (matF N)
theorem size_matA (N : Nat) : (matA N).size = 32 := size_rowA _ _
theorem one_matA (N : Nat) : (matA N).all (·.oneCell') = true := oneCell_rowA _ _ fun _ _ => rfl
theorem matA_at (N : Nat) {i : Nat} (h : i < 32) : (matA N)[i]? = some (.int .u32 (Crc.stpN N (2 ^ i) : Int)) := getElem?_rowA _ h
def zmatA : Array Value := rowA 32 (fun _ => .int .u32 0)
theorem size_zmatA : zmatA.size = 32 := size_rowA _ _
theorem Try.zero_mat : (Try.prog.info? 46).map (fun i => (i.zero, i.size)) = some (some (.agg zmatA), 32) := by kernel_rfl
/-- the matrix as far as k -/
def matP (N k i : Nat) : Value := if i < k then matF N i else .int .u32 0
theorem matP_zero (N : Nat) : rowA 32 (matP N 0) = zmatA := rowA_congr fun i _ => if_neg (by omega)
theorem matP_all (N : Nat) : rowA 32 (matP N 32) = matA N := rowA_congr fun _ hi => if_pos hi
theorem matP_succ (N k : Nat) : (rowA 32 (matP N k)).setIfInBounds k (matF N k) = rowA 32 (matP N (k + 1)) := by
  rw [rowA_set]
  refine rowA_congr fun i _ => ?_
  show (if i = k then _ else matP N k i) = matP N (k + 1) i
  unfold matP
  by_cases h : i = k
  · subst h; rw [if_pos rfl, if_pos (by omega)]
  · rw [if_neg h]
    by_cases h2 : i < k
    · rw [if_pos h2, if_pos (by omega)]
    · rw [if_neg h2, if_neg (by omega)]

theorem bit_one_yes {r k : Nat} (hr : r < 4294967296) (h : (bits BinOp.and IntKind.u32 ((r : Int) / 2 ^ k) 1 == 1) = true) : r / 2 ^ k % 2 = 1 := by
  have hle : r / 2 ^ k ≤ r := Nat.div_le_self _ _
  have e := u32_and_nat (r / 2 ^ k) 1 (by omega) (by omega)
  rw [Nat.and_one_is_mod, show ((1 : Nat) : Int) = 1 from rfl, show ((r / 2 ^ k : Nat) : Int) = (r : Int) / 2 ^ k from by simp] at e
  rw [e] at h
  generalize r / 2 ^ k = y at *
  simp at h
  omega
theorem bit_one_no {r k : Nat} (hr : r < 4294967296) (h : (bits BinOp.and IntKind.u32 ((r : Int) / 2 ^ k) 1 == 1) = false) : ¬ r / 2 ^ k % 2 = 1 := by
  have hle : r / 2 ^ k ≤ r := Nat.div_le_self _ _
  have e := u32_and_nat (r / 2 ^ k) 1 (by omega) (by omega)
  rw [Nat.and_one_is_mod, show ((1 : Nat) : Int) = 1 from rfl, show ((r / 2 ^ k : Nat) : Int) = (r : Int) / 2 ^ k from by simp] at e
  rw [e] at h
  generalize r / 2 ^ k = y at *
  simp at h
  omega
theorem pow_lt32 {k : Nat} (h : k < 32) : 2 ^ k < 4294967296 := by
  have := Nat.pow_lt_pow_right (a := 2) (by omega) h
  omega
theorem step_yes {N r k : Nat} (hr : r < 4294967296) (hk : k < 32) (h : r / 2 ^ k % 2 = 1) :
    bits BinOp.xor IntKind.u32 ((Crc.stpN N (r % 2 ^ k) : Nat) : Int) ((Crc.stpN N (2 ^ k) : Nat) : Int) = ((Crc.stpN N (r % 2 ^ (k + 1)) : Nat) : Int) := by
  have hle : r % 2 ^ k ≤ r := Nat.mod_le _ _
  rw [u32_xor_nat _ _ (Crc.stpN_lt (by omega)) (Crc.stpN_lt (pow_lt32 hk)), ← Crc.stpN_xor, Crc.mod_pow_succ, if_pos h]
theorem step_no {N r k : Nat} (h : ¬ r / 2 ^ k % 2 = 1) : Crc.stpN N (r % 2 ^ k) = Crc.stpN N (r % 2 ^ (k + 1)) := by
  rw [Crc.mod_pow_succ, if_neg h]

set_option maxRecDepth 100000 in
set_option maxHeartbeats 1000000 in
theorem times_calls (N r : Nat) (w : World) (hr : r < 4294967296) :
    Calls Try.prog 22 #[.agg (matA N), .int .u32 (r : Int)] w fun e w' => e = .returned (.int .u32 (Crc.stpN N r : Int)) ∧ Below w.heap.size w w' := by
  go_enter Try.func22, Try.ntmps22
  go_wp2
  go_loop [5, 7] (fun s i => ∃ k : Nat, k ≤ 32 ∧ i = .int .i64 k ∧ s = .int .u32 ((Crc.stpN N (r % 2 ^ k) : Nat) : Int)) (fun _ i => 32 - (intOf i).toNat)
  case atStart => exact ⟨0, by omega, rfl, by rw [Nat.pow_zero, Nat.mod_one, Crc.stpN_zero]; rfl⟩
  case round =>
    obtain ⟨k, hk, rfl, rfl⟩ := hrel
    by_cases hlt : k < 32
    · have ht := matA_at N hlt
      have HY := fun h => hide (step_yes (N := N) hr hlt h)
      have HN := fun h => hide (step_no (N := N) (r := r) (k := k) h)
      generalize Crc.stpN N (r % 2 ^ k) = s0 at *
      generalize Crc.stpN N (2 ^ k) = p0 at *
      go_wp2
      · go_round
        case rel => exact ⟨k + 1, by omega, by go_num, by rw [← (HY (bit_one_yes hr ‹_›)).out]⟩
        case measure => simp [intOf]; omega
      · go_round
        case rel => exact ⟨k + 1, by omega, by go_num, by rw [← (HN (bit_one_no hr ‹_›)).out]⟩
        case measure => simp [intOf]; omega
    · obtain rfl : k = 32 := by omega
      rw [Nat.mod_eq_of_lt (show r < 2 ^ 32 from hr)]
      go_wp2
      go_ret
      exact ⟨rfl, (Below.refl _ _).alloc (Nat.le_refl _) _⟩

set_option maxRecDepth 100000 in
set_option maxHeartbeats 1000000 in
theorem squared_calls (N : Nat) (w : World) :
    Calls Try.prog 23 #[.agg (matA N)] w fun e w' => e = .returned (.agg (matA (N + N))) ∧ Below w.heap.size w w' := by
  have hz := (zero_of_info Try.zero_mat).1
  have HI := hide (zero_of_info Try.zero_mat).2
  go_enter Try.func23, Try.ntmps23
  go_wp2
  go_loopw [5] (fun i wr => ∃ k : Nat, k ≤ 32 ∧ i = .int .i64 k ∧ Blk wr w.heap.size 46 (matA N) ∧ Blk wr (w.heap.size + 1) 46 zmatA ∧ Blk wr (w.heap.size + 1 + 1) 46 (rowA 32 (matP (N + N) k)) ∧ Below w.heap.size w wr) (fun i _ => 32 - (intOf i).toNat)
  case atStart =>
    refine ⟨0, by omega, rfl, ((Blk.new _ _ _).alloc _).alloc _, ?_, ?_, ?_⟩
    · have := (Blk.new (w.alloc (Obj.cells (matA N) 46)) 46 zmatA).alloc (Obj.cells zmatA 46)
      rw [World.size_alloc] at this
      exact this
    · have := Blk.new ((w.alloc (Obj.cells (matA N) 46)).alloc (Obj.cells zmatA 46)) 46 zmatA
      rw [World.size_alloc, World.size_alloc] at this
      rw [matP_zero]
      exact this
    · exact (((Below.refl _ _).alloc (by omega) _).alloc (by simp) _).alloc (by simp; omega) _
  case round =>
    obtain ⟨k, hk, rfl, hb0, hb1, hb2, hbel⟩ := hrel
    clear hz
    by_cases hlt : k < 32
    · have HR : Hid (∀ W : World, Blk W w.heap.size 46 (matA N) → W.rangeAt w.heap.size 0 (matA N).toList) := fun W hW j v hv => by rw [Nat.zero_add, hW.cell]; simpa using hv
      have hu := Try.underlying46
      have hi : (Try.prog.info? 46).map (·.size) = some (matA N).toList.length := by rw [Array.length_toList, size_matA]; exact HI.out
      have hl32 : (matA N).toList.length = 32 := by rw [Array.length_toList, size_matA]
      have h1c : ∀ v ∈ (matA N).toList, v.oneCell' = true := fun v hv => (Array.all_eq_true_iff_forall_mem.1 (one_matA N)) v (by simpa using hv)
      have HC : Hid (∀ W : World, Blk W w.heap.size 46 (matA N) → W.cell? ⟨w.heap.size, k, none⟩ = some (.int .u32 (Crc.stpN N (2 ^ k) : Int))) := fun W hW => by rw [hW.cell]; exact matA_at N hlt
      have c2 : wr.cell? ⟨w.heap.size + 1 + 1, k, none⟩ = some (matP (N + N) k k) := by rw [hb2.cell]; exact getElem?_rowA _ hlt
      have f2 := hb2.frozen k
      have hp := Crc.stpN_lt (n := N) (pow_lt32 hlt)
      have HE : Hid (Value.int .u32 ((Crc.stpN N (Crc.stpN N (2 ^ k)) : Nat) : Int) = matF (N + N) k) := by unfold matF; rw [Crc.stpN_add]; exact rfl
      have i0 : (0 : Int) ≤ (k : Int) := by omega
      have i1 : (k : Int) < 32 := by omega
      have r0 := HR.out wr hb0
      have z0 := hb0.lt
      have z2 := hb2.lt
      generalize Crc.stpN N (2 ^ k) = p0 at *
      go_wp2
      have c0 := HC.out wr hb0
      have NE : Hid (w.heap.size ≠ w.heap.size + 1 + 1) := by show _ ≠ _; omega
      go_region_held3 (fun w' => w'.rangeAt w.heap.size 0 (matA N).toList ∧ w'.cell? ⟨w.heap.size, k, none⟩ = some (.int .u32 (p0 : Int)))
        (first | exact ⟨r0, c0⟩ | exact ⟨HR.out _ bm, HC.out _ bm⟩ | exact ⟨HR.out _ (bm.far (p := ⟨w.heap.size + 1 + 1, k, none⟩) NE.out _), HC.out _ (bm.far (p := ⟨w.heap.size + 1 + 1, k, none⟩) NE.out _)⟩)
        (first | (go_at_call 22; refine (times_calls N p0 _ hp).mono ?_; rintro e wt ⟨rfl, bt⟩; have bm := hb0.drew.below bt z0; have c2' := (bt.cell (p := ⟨w.heap.size + 1 + 1, k, none⟩) z2).trans c2; have f2' := (bt.frozen (p := ⟨w.heap.size + 1 + 1, k, none⟩) z2).trans f2))
      have n0 := bm.far (p := ⟨w.heap.size + 1 + 1, k, none⟩) NE.out (.int .u32 ((Crc.stpN N p0 : Nat) : Int))
      have n1 := ((hb1.drew.below bt hb1.lt).far (p := ⟨w.heap.size + 1 + 1, k, none⟩) (by simp) (.int .u32 ((Crc.stpN N p0 : Nat) : Int)))
      have n2 := (hb2.drew.below bt z2).set_ k (.int .u32 ((Crc.stpN N p0 : Nat) : Int))
      rw [HE.out, matP_succ, ← HE.out] at n2
      have n3 := (hbel.drew.trans (bt.mono hbel.size)).setCell (p := ⟨w.heap.size + 1 + 1, k, none⟩) (by simp; omega) (.int .u32 ((Crc.stpN N p0 : Nat) : Int))
      clear hb0 hb1 hb2 hbel bt bm c2' f2' c0 c2 f2 r0 HR HC HE hu hi hl32 h1c
      generalize wt.setCell ⟨w.heap.size + 1 + 1, k, none⟩ (.int .u32 ((Crc.stpN N p0 : Nat) : Int)) = W3 at *
      go_wp2
      go_roundw
      case rel => exact ⟨k + 1, by omega, by go_num, n0, n1, n2, n3⟩
      case measure => simp [intOf]; omega
    · obtain rfl : k = 32 := by omega
      rw [matP_all] at hb2
      go_wp2_with (first | (refine wpList_load_row rfl 46 _ rfl (w.heap.size + 1 + 1) rfl 46 _ _ _ hb2 Try.underlying46 rfl (by rw [size_matA]; exact HI.out) ?_) | (refine wpList_store_row rfl 46 _ _ rfl (w.heap.size + 1) (matA (N + N)) rfl rfl 46 _ hb1 (by rw [size_matA]; exact HI.out) (by rw [size_matA]; exact size_zmatA) (one_matA _) ?_))
      refine bodyPost_ret (v := .agg (matA (N + N))) (results_cell_row rfl _ _ (w.heap.size + 1) 46 (matA (N + N)) (0, 0) _ (by simp [Act.put]) (hb1.setRow _) Try.underlying46 rfl (by rw [size_matA]; exact HI.out)) (by simp [Act.put]) ⟨rfl, ?_⟩
      exact below_setRow' hbel (by omega) _

/- Zeros -/
theorem u64_odd (n : Nat) (hn : n < 18446744073709551616) : bits BinOp.and IntKind.u64 (n : Int) 1 = ((n % 2 : Nat) : Int) := by
  have e := u64_and_nat n 1 hn (by omega)
  rw [Nat.and_one_is_mod] at e
  exact e
theorem zstep {N n r : Nat} (h : n % 2 = 1) : Crc.stpN ((N + N) * (n / 2)) (Crc.stpN N r) = Crc.stpN (N * n) r := by
  rw [← Crc.stpN_add]
  congr 1
  have e : n = 2 * (n / 2) + 1 := by omega
  generalize n / 2 = m at *
  subst e
  rw [Nat.mul_add, Nat.mul_one, ← Nat.mul_assoc, Nat.mul_two, Nat.add_comm]
theorem zstep0 {N n r : Nat} (h : ¬ n % 2 = 1) : Crc.stpN ((N + N) * (n / 2)) r = Crc.stpN (N * n) r := by
  congr 1
  have e : n = 2 * (n / 2) := by omega
  generalize n / 2 = m at *
  subst e
  rw [← Nat.mul_assoc, Nat.mul_two]

set_option maxRecDepth 100000 in
set_option maxHeartbeats 1000000 in
theorem zeros_calls (s n : Nat) (w : World) (hs : s < 4294967296) (hn : n ≤ 1000000000) :
    Calls Try.prog 17 #[.int .u32 (s : Int), .int .u64 (n : Int)] w fun e w' => e = .returned (.int .u32 (Crc.zeros s n : Int)) ∧ Below w.heap.size w w' := by
  have hz := (zero_of_info Try.zero_mat).1
  have HI := hide (zero_of_info Try.zero_mat).2
  have hsg : IntKind.u32.signed = false := rfl
  go_enter Try.func17, Try.ntmps17
  go_wp2
  go_loopw [8] (fun i wr => ∃ k : Nat, k ≤ 32 ∧ i = .int .i64 k ∧ Blk wr w.heap.size 46 (rowA 32 (matP 8 k)) ∧ Below w.heap.size w wr) (fun i _ => 32 - (intOf i).toNat)
  case atStart => exact ⟨0, by omega, rfl, by rw [matP_zero]; exact Blk.new _ _ _, (Below.refl _ _).alloc (Nat.le_refl _) _⟩
  case round =>
    obtain ⟨k, hk, rfl, hb0, hbel⟩ := hrel
    clear hz
    by_cases hlt : k < 32
    · have c0 : wr.cell? ⟨w.heap.size, k, none⟩ = some (matP 8 k k) := by rw [hb0.cell]; exact getElem?_rowA _ hlt
      have f0 := hb0.frozen k
      have HP := hide (matP_succ 8 k)
      obtain ⟨p, hp, HPW⟩ : ∃ p : Nat, (2 : Int) ^ k = (p : Int) ∧ Hid (p = 2 ^ k) := ⟨2 ^ k, by simp, rfl⟩
      have hpl : p < 4294967296 := by rw [HPW.out]; exact pow_lt32 hlt
      have HE : Hid (Value.int .u32 ((Crc.tab p : Nat) : Int) = matF 8 k) := by unfold matF Crc.tab; rw [HPW.out]; exact rfl
      go_wp2_with (go_at_call 21; refine (eight_calls p _ hpl).mono ?_; rintro e w' ⟨rfl, rfl⟩)
      have n0 := hb0.set_ k (.int .u32 ((Crc.tab p : Nat) : Int))
      rw [HE.out, HP.out, ← HE.out] at n0
      have n1 := hbel.setCell (p := ⟨w.heap.size, k, none⟩) (Nat.le_refl _) (.int .u32 ((Crc.tab p : Nat) : Int))
      go_roundw
      case rel => exact ⟨k + 1, by omega, by go_num, n0, n1⟩
      case measure => simp [intOf]; omega
    · obtain rfl : k = 32 := by omega
      rw [matP_all] at hb0
      rw [show (((32 : Nat) : Int)) = 32 from rfl]
      obtain ⟨wo, rfl⟩ : ∃ wo : World, wo = wr := ⟨_, rfl⟩
      have hnot := u32_not s hs
      have hr0 : 4294967295 - s < 4294967296 := by omega
      obtain ⟨T, HT⟩ : ∃ T, Hid (T = Crc.stpN (8 * n) (4294967295 - s)) := ⟨_, rfl⟩
      have HZ : Hid (Crc.zeros s n = 4294967295 - T) := by rw [HT.out]; exact rfl
      have hTl : T < 4294967296 := by rw [HT.out]; exact Crc.stpN_lt hr0
      go_wp2
      go_loopw [1, 7] (fun nv rv wr => ∃ N m r : Nat, m ≤ 1000000000 ∧ nv = .int .u64 (m : Int) ∧ r < 4294967296 ∧ rv = .int .u32 (r : Int) ∧ Hid (Crc.stpN (N * m) r = T) ∧ Blk wr w.heap.size 46 (matA N) ∧ Below w.heap.size w wr) (fun nv _ _ => (intOf nv).toNat)
      case atStart => exact ⟨8, n, 4294967295 - s, hn, rfl, hr0, rfl, HT.out.symm, hb0, hbel⟩
      case round =>
        obtain ⟨N, m, r, hm, rfl, hr, rfl, HR, hb, hbe⟩ := hrel
        clear hb0 hbel HT hnot
        by_cases hm0 : m = 0
        · subst hm0
          have e : r = T := by have := HR.out; rwa [Nat.mul_zero] at this
          subst e
          have hnot := u32_not r hr
          clear HR
          rw [show (((0 : Nat) : Int)) = 0 from rfl]
          go_wp2
          go_ret
          exact ⟨by rw [HZ.out]; rfl, hbe⟩
        · have hpos : 0 < m := by omega
          have HHalf : Hid (((m / 2 : Nat) : Int) = (m : Int) / 2) := by show _ = _; omega
          have hodd := u64_odd m (by omega)
          have z0 := hb.lt
          by_cases hm1 : m % 2 = 1
          · have HS : Hid (Crc.stpN ((N + N) * (m / 2)) (Crc.stpN N r) = T) := (zstep hm1).trans HR.out
            have hrl := Crc.stpN_lt (n := N) hr
            rw [hm1] at hodd
            clear HR
            go_wp2_with (first
              | (refine wpList_load_row rfl 46 _ rfl w.heap.size rfl 46 _ _ _ hb Try.underlying46 rfl (by rw [size_matA]; exact HI.out) ?_)
              | (go_at_call 22; refine (times_calls N r _ hr).mono ?_; rintro e wt ⟨rfl, bt⟩; have hb1 := hb.below bt z0; clear hb)
              | (refine wpList_load_row rfl 46 _ rfl w.heap.size rfl 46 _ _ _ hb1 Try.underlying46 rfl (by rw [size_matA]; exact HI.out) ?_)
              | (go_at_call 23; refine (squared_calls N _).mono ?_; rintro e ws ⟨rfl, bs⟩; have hb2 := hb1.below bs hb1.lt; clear hb1)
              | (refine wpList_store_row rfl 46 _ _ rfl w.heap.size (matA (N + N)) rfl rfl 46 _ hb2 (by rw [size_matA]; exact HI.out) (by rw [size_matA, size_matA]) (one_matA _) ?_))
            go_roundw
            case rel => exact ⟨N + N, m / 2, Crc.stpN N r, by omega, by rw [HHalf.out], hrl, rfl, HS, hb2.setRow _, below_setRow' (bnext (bnext hbe bt) bs) (Nat.le_refl _) _⟩
            case measure => simp [intOf]; omega
          · have HS : Hid (Crc.stpN ((N + N) * (m / 2)) r = T) := (zstep0 hm1).trans HR.out
            rw [show m % 2 = 0 from by omega] at hodd
            clear HR
            go_wp2_with (first
              | (refine wpList_load_row rfl 46 _ rfl w.heap.size rfl 46 _ _ _ hb Try.underlying46 rfl (by rw [size_matA]; exact HI.out) ?_)
              | (go_at_call 23; refine (squared_calls N _).mono ?_; rintro e ws ⟨rfl, bs⟩; have hb2 := hb.below bs z0; clear hb)
              | (refine wpList_store_row rfl 46 _ _ rfl w.heap.size (matA (N + N)) rfl rfl 46 _ hb2 (by rw [size_matA]; exact HI.out) (by rw [size_matA, size_matA]) (one_matA _) ?_))
            go_roundw
            case rel => exact ⟨N + N, m / 2, r, by omega, by rw [HHalf.out], hr, rfl, HS, hb2.setRow _, below_setRow' (bnext hbe bs) (Nat.le_refl _) _⟩
            case measure => simp [intOf]; omega

set_option maxRecDepth 100000 in
set_option maxHeartbeats 400000 in
theorem join_calls (a b n : Nat) (w : World) (ha : a < 4294967296) (hb : b < 4294967296) (hn : n ≤ 1000000000) :
    Calls Try.prog 16 #[.int .u32 (a : Int), .int .u32 (b : Int), .int .u64 (n : Int)] w fun e w' => e = .returned (.int .u32 (Crc.join a b n : Int)) ∧ Below w.heap.size w w' := by
  have h1 := u32_xor_nat (Crc.zeros a n) (Crc.zeros 0 n) (Crc.zeros_lt _ _) (Crc.zeros_lt _ _)
  have h2 := u32_xor_nat (Crc.zeros a n ^^^ Crc.zeros 0 n) b (Nat.xor_lt_two_pow (n := 32) (Crc.zeros_lt _ _) (Crc.zeros_lt _ _)) hb
  have HJ : Hid (Crc.join a b n = Crc.zeros a n ^^^ Crc.zeros 0 n ^^^ b) := rfl
  generalize Crc.zeros a n ^^^ Crc.zeros 0 n ^^^ b = q2 at *
  generalize Crc.zeros a n ^^^ Crc.zeros 0 n = q1 at *
  go_enter Try.func16, Try.ntmps16
  go_wp2_with fail
  refine (zeros_calls a n _ ha hn).mono ?_
  rintro e w1 ⟨rfl, b1⟩
  go_wp2_with fail
  refine (zeros_calls 0 n _ (by omega) hn).mono ?_
  rintro e w2 ⟨rfl, b2⟩
  go_wp2_with fail
  go_ret
  exact ⟨by rw [HJ.out]; rfl, bnext b1 b2⟩
end Go.Proofs.Ytohpbkkaboebdaa
