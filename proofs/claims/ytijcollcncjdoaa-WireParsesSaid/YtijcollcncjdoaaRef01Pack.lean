/- The document's packing, by its contract. Conditions: the slice reads as a list of bits, of at most 2^40. -/
import Derived.Test.YtijcollcncjdoaaRef01Walks
namespace Go.Proofs.Ytijcollcncjdoaa
open Go.RowKit Kin

theorem pack_step (B : List Bool) (i n : Nat) (hn : n = B.length) (h8 : i % 8 = 0) (hi : i < n) : (Bit.pack B).take ((i + 8) / 8) = (Bit.pack B).take (i / 8) ++ [Bit.byteAt B (i / 8)] := by
  rw [show (i + 8) / 8 = i / 8 + 1 from by omega]
  exact Bit.pack_take B (i / 8) (by omega)
theorem pack_eight (B : List Bool) (i : Nat) (h8 : i % 8 = 0) : Bit.eight B i 8 = (Bit.byteAt B (i / 8)).toNat := by
  rw [← Bit.eight_byteAt, show 8 * (i / 8) = i from by omega]

set_option maxRecDepth 100000 in
set_option maxHeartbeats 2000000 in
theorem pack_calls (A : Option Addr) (n c : Nat) (B : List Bool) (w : World) (hn : n = B.length) (hm : n ≤ 1099511627776) {b : Nat} (hA0 : Byt w b A (Bit.zo B)) :
    Calls Try.prog 36 #[.slice A n c] w (RetBytes w (Bit.pack B)) := by
  have HN := hide hn
  have hA := hA0.here
  clear hn hA0
  go_enter Try.func36, Try.ntmps36
  go_wp2
  go_loopw [3, 4] (fun sv iv wr => ∃ (i : Nat) (A1 : Option Addr) (n1 c1 : Nat), i ≤ n + 7 ∧ Hid (i % 8 = 0) ∧ iv = .int .i64 (i : Int) ∧ sv = .slice A1 n1 c1 ∧ Own8 wr 5 A1 n1 c1 ((Bit.pack B).take (i / 8)) ∧ (∀ g, blkOf A1 = some g → w.heap.size ≤ g) ∧ Below w.heap.size w wr) (fun _ iv _ => n + 8 - (intOf iv).toNat)
  case atStart => exact ⟨0, none, 0, 0, by omega, rfl, rfl, rfl, Own8.nil _ _, by simp [blkOf], Below.refl _ _⟩
  case round =>
    obtain ⟨i, A1, n1, c1, hi, H8, rfl, rfl, q, qg, qb⟩ := hrel
    by_cases hlt : i < n
    · have HP := hide (pack_step B i n HN.out H8.out hlt)
      have HE := hide (pack_eight B i H8.out)
      have hn1 : n1 ≤ 1099511627776 := by
        have h1 := q.1
        rw [List.length_take] at h1
        omega
      have hA' := hA.below qb
      have hlen : (Bit.zo B).length = n := by rw [Bit.length_zo]; exact HN.out.symm
      have HA := hide hA
      clear hA
      go_wp2
      go_loop [5, 6] (fun vv kv => ∃ k : Nat, k ≤ 8 ∧ kv = .int .i64 (k : Int) ∧ vv = .int .u64 (Bit.eight B i k : Int)) (fun _ kv => 8 - (intOf kv).toNat)
      case atStart => exact ⟨0, by omega, rfl, rfl⟩
      case round =>
        obtain ⟨k, hk, rfl, rfl⟩ := hrel
        by_cases hk8 : k < 8
        · have HS := hide (Bit.eight_succ B i k)
          have hv : Bit.eight B i k < 256 := Nat.lt_of_lt_of_le (Bit.eight_lt B i k) (Nat.pow_le_pow_right (n := 2) (by omega) (show k ≤ 8 by omega))
          by_cases hin : i + k < n
          · have hkB : i + k < B.length := by rw [← HN.out]; exact hin
            obtain ⟨g, off, rfl, _, hc⟩ := hA'.at_ (k := i + k) (by omega)
            have hz : (Bit.zo B)[i + k]'(by omega) = Bit.one B[i + k] := by
              have h1 := Bit.zo_at B (i + k)
              rw [List.getElem?_eq_getElem (by omega), List.getElem?_eq_getElem hkB] at h1
              simpa using h1
            rw [hz, Bit.one_toNat] at hc
            have hg : B.getD (i + k) false = B[i + k] := by rw [List.getD, List.getElem?_eq_getElem hkB]; rfl
            rw [hg] at HS
            have hb1 : B[i + k].toNat ≤ 1 := Bool.toNat_le _
            clear hz hg
            generalize B[i + k].toNat = d at *
            generalize Bit.eight B i k = y at *
            have din : decide ((i : Int) + (k : Int) < (n : Int)) = true := by simp; omega
            go_wp2
            go_round
            case rel => exact ⟨k + 1, by omega, by go_num, by rw [HS.out]; go_num⟩
            case measure => simp [intOf]; omega
          · have hg : B.getD (i + k) false = false := by rw [List.getD, List.getElem?_eq_none (by rw [← HN.out]; omega)]; rfl
            rw [hg] at HS
            clear hg
            have HS : Hid (Bit.eight B i (k + 1) = 2 * Bit.eight B i k) := HS
            generalize Bit.eight B i k = y at *
            have din : decide ((i : Int) + (k : Int) < (n : Int)) = false := by simp; omega
            go_wp2
            go_round
            case rel => exact ⟨k + 1, by omega, by go_num, by rw [HS.out]; go_num⟩
            case measure => simp [intOf]; omega
        · obtain rfl : k = 8 := by omega
          rw [show (((8 : Nat) : Int)) = 8 from rfl, HE.out]
          have hx := (Bit.byteAt B (i / 8)).toNat_lt
          generalize Bit.byteAt B (i / 8) = x at *
          clear hk8 hk
          go_wp2_with (at_builtin; refine wpList_append8 (by rfl) (.tmp 34) (.tmp 37) 25 5 (by rfl) bytesT _ _ _ _ (by rfl) (q.alloc _) _ _ _ _ [x] (by rfl) (Byt.new _ _ _ _ _ rfl) (by rfl) (by simp; omega) ?_; intro A3 c3 w3 own3 grow3 at3)
          have own4 := own3
          rw [← HP.out] at own4
          have z := qb.size
          go_roundw
          case rel =>
            refine ⟨i + 8, A3, n1 + 1, c3, by omega, by show _ = _; have := H8.out; omega, by go_num, rfl, own4, ?_, Below.grown (qb.alloc qb.size _) grow3 (by simp; omega) qg⟩
            intro g hg
            rcases at3 with h | h
            · exact qg g (by rw [← h]; exact hg)
            · rw [hg] at h; injection h with h; simp at h; omega
          case measure => simp [intOf]; omega
    · have HT : Hid ((Bit.pack B).take (i / 8) = Bit.pack B) := List.take_of_length_le (by rw [Bit.length_pack, ← HN.out]; have := H8.out; omega)
      rw [HT.out] at q
      go_wp2
      go_ret
      exact ⟨_, _, _, rfl, q, qg, qb⟩
end Go.Proofs.Ytijcollcncjdoaa
