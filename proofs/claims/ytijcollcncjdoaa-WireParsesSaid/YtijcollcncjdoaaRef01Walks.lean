/- The document's bits (rows of noughts and ones), each function by its contract. Conditions: slices read as lists of bits. -/
import Derived.Test.YtijcollcncjdoaaBitsReads
import Derived.Test.YtijcollcncjdoaaRef01Plain
namespace Go.Proofs.Ytijcollcncjdoaa
open Go.RowKit Kin

theorem rem_bit (v i : Nat) : ∃ x : UInt8, ((v / 2 ^ i : Nat) : Int) % 2 = (x.toNat : Int) ∧ Hid (x = Bit.one (v.testBit i)) :=
  ⟨_, by have := Bit.low_bit v i; omega, rfl⟩

set_option maxRecDepth 100000 in
set_option maxHeartbeats 1000000 in
theorem digits_calls (v n : Nat) (w : World) (hv : v < 18446744073709551616) (hn : n ≤ 64) :
    Calls Try.prog 52 #[.int .u64 (v : Int), .int .i64 (n : Int)] w (RetBytes w (Bit.zo (Bit.digits v n))) := by
  have mk := run_make8 (P := Try.prog) bytesT .i64 .i64 n (by omega)
  go_enter Try.func52, Try.ntmps52
  go_wp2
  have o0 := Own8.new w (mk8 n) 5 n (List.replicate n 0) (by simp) (toList_mk8 n) (by unfold maxLen; omega)
  have b0 : Below w.heap.size w (w.alloc (Obj.cells (mk8 n) 5)) := (Below.refl _ _).alloc (Nat.le_refl _) _
  clear mk
  generalize w.alloc (Obj.cells (mk8 n) 5) = W0 at *
  go_loopw [0, 6] (fun vv iv wr => ∃ (k : Nat) (m : List UInt8), k ≤ n ∧ iv = .int .i64 ((k : Int) - 1) ∧ vv = .int .u64 ((v / 2 ^ (n - k) : Nat) : Int) ∧ Own8 wr 5 (some ⟨w.heap.size, 0, none⟩) n n m ∧ (∀ j, k ≤ j → j < n → m[j]? = (Bit.zo (Bit.digits v n))[j]?) ∧ Below w.heap.size w wr) (fun _ iv _ => (intOf iv + 1).toNat)
  case atStart => exact ⟨n, _, Nat.le_refl _, rfl, by simp, o0, fun j h1 h2 => by omega, b0⟩
  case round =>
    obtain ⟨k, m, hk, rfl, rfl, q, qm, qb⟩ := hrel
    clear o0 b0
    have hle : v / 2 ^ (n - k) ≤ v := Nat.div_le_self _ _
    rcases k with _ | j
    · have HM : Hid (m = Bit.zo (Bit.digits v n)) := by
        apply List.ext_getElem?
        intro j
        by_cases hj : j < n
        · exact qm j (Nat.zero_le _) hj
        · rw [List.getElem?_eq_none (by rw [← q.1]; omega), List.getElem?_eq_none (by rw [Bit.length_zo, Bit.length_digits]; omega)]
      clear qm
      generalize v / 2 ^ (n - 0) = y at *
      rw [show (((0 : Nat) : Int) - 1) = -1 from rfl]
      go_wp2
      go_ret
      exact ⟨_, _, _, rfl, by rw [← HM.out]; exact q, fun g hg => by simp [blkOf] at hg; omega, qb⟩
    · have HD : Hid (v / 2 ^ (n - (j + 1)) / 2 = v / 2 ^ (n - j)) := by
        show _ = _
        rw [Nat.div_div_eq_div_mul, ← Nat.pow_succ, show (n - (j + 1)).succ = n - j from by omega]
      obtain ⟨x, hx, HX⟩ := rem_bit v (n - (j + 1))
      have HZ := hide (Bit.zo_digits v n (i := j) (by omega))
      rw [show (((j + 1 : Nat) : Int) - 1) = (j : Int) from by omega]
      obtain ⟨b, hc, hf⟩ := q.at0 (k := j) (by omega)
      have HQ := hide qm
      clear qm
      generalize v / 2 ^ (n - (j + 1)) = y at *
      have hx2 : x.toNat < 2 := by omega
      go_wp2
      go_roundw
      case rel =>
        refine ⟨j, m.set j x, by omega, rfl, by rw [← HD.out]; go_num, q.set rfl x, ?_, qb.setCell (Nat.le_refl _) _⟩
        intro i h1 h2
        by_cases hij : i = j
        · subst hij
          rw [List.getElem?_set_self (by rw [← q.1]; omega), HZ.out, HX.out, show n - 1 - i = n - (i + 1) from by omega]
        · rw [List.getElem?_set_ne (by omega)]
          exact HQ.out i (by omega) h2
      case measure => simp [intOf]

set_option maxRecDepth 100000 in
set_option maxHeartbeats 1000000 in
theorem number_calls (A : Option Addr) (n c : Nat) (B : List Bool) (w : World) (hn : n = B.length) (hm : n ≤ 64) {b : Nat} (hA : Byt w b A (Bit.zo B)) :
    Calls Try.prog 59 #[.slice A n c] w fun e w' => e = .returned (.int .u64 (Bit.num B : Int)) ∧ w = w' := by
  have HN := hide hn
  clear hn
  go_enter Try.func59, Try.ntmps59
  go_wp2
  go_loop [3, 4] (fun vv iv => ∃ k : Nat, k ≤ n ∧ iv = .int .i64 (k : Int) ∧ vv = .int .u64 (Bit.num (B.take k) : Int)) (fun _ iv => n - (intOf iv).toNat)
  case atStart => exact ⟨0, by omega, rfl, rfl⟩
  case round =>
    obtain ⟨k, hk, rfl, rfl⟩ := hrel
    by_cases hlt : k < n
    · have hkB : k < B.length := by rw [← HN.out]; exact hlt
      have HS := hide (Bit.num_take_succ B k B[k] (List.getElem?_eq_getElem hkB))
      obtain ⟨g, off, rfl, _, hc⟩ := hA.at_ (k := k) (by rw [Bit.length_zo]; exact hkB)
      have hz : (Bit.zo B)[k]'(by rw [Bit.length_zo]; exact hkB) = Bit.one B[k] := by
        have h1 := Bit.zo_at B k
        rw [List.getElem?_eq_getElem (by rw [Bit.length_zo]; exact hkB), List.getElem?_eq_getElem hkB] at h1
        simpa using h1
      rw [hz, Bit.one_toNat] at hc
      have hlt' := Bit.num_lt (B.take k)
      have h63 : Bit.num (B.take k) < 9223372036854775808 := by
        refine Nat.lt_of_lt_of_le hlt' ?_
        rw [List.length_take, Nat.min_eq_left (by omega)]
        exact Nat.pow_le_pow_right (n := 2) (by omega) (show k ≤ 63 by omega)
      clear hz hlt'
      have hb1 : B[k].toNat ≤ 1 := Bool.toNat_le _
      generalize B[k].toNat = d at *
      generalize Bit.num (B.take k) = y at *
      go_wp2
      go_round
      case rel => exact ⟨k + 1, by omega, by go_num, by rw [HS.out]; go_num⟩
      case measure => simp [intOf]; omega
    · obtain rfl : n = k := by omega
      have HT : Hid (Bit.num (B.take n) = Bit.num B) := by rw [List.take_of_length_le (by rw [← HN.out]; omega)]; exact rfl
      generalize Bit.num (B.take n) = y at *
      clear hlt
      go_wp2
      go_ret
      exact ⟨ret_int (by rw [HT.out]), rfl⟩

set_option maxRecDepth 100000 in
set_option maxHeartbeats 1000000 in
theorem row_calls (A : Option Addr) (n c : Nat) (l : List UInt8) (w : World) (hn : n = l.length) (hm : n ≤ 300) {b : Nat} (hA0 : Byt w b A l) :
    Calls Try.prog 58 #[.slice A n c] w (RetBytes w (Bit.zo (Bit.row l))) := by
  have HN := hide hn
  have hA := hA0.here
  clear hn hA0
  go_enter Try.func58, Try.ntmps58
  go_wp2
  go_loopw [3, 4] (fun sv iv wr => ∃ (k : Nat) (A1 : Option Addr) (n1 c1 : Nat), k ≤ n ∧ iv = .int .i64 (k : Int) ∧ sv = .slice A1 n1 c1 ∧ Own8 wr 5 A1 n1 c1 (Bit.zo (Bit.row (l.take k))) ∧ (∀ g, blkOf A1 = some g → w.heap.size ≤ g) ∧ Below w.heap.size w wr) (fun _ iv _ => n - (intOf iv).toNat)
  case atStart => exact ⟨0, none, 0, 0, by omega, rfl, rfl, Own8.nil _ _, by simp [blkOf], Below.refl _ _⟩
  case round =>
    obtain ⟨k, A1, n1, c1, hk, rfl, rfl, q, qg, qb⟩ := hrel
    by_cases hlt : k < n
    · have hkl : k < l.length := by rw [← HN.out]; exact hlt
      have hA' := hA.below qb
      have HA := hide hA
      clear hA
      obtain ⟨g, off, rfl, _, hc⟩ := hA'.at_ (k := k) hkl
      have hx := (l[k]).toNat_lt
      have HR := hide (Bit.row_take l k l[k] (List.getElem?_eq_getElem hkl))
      have hn1 : n1 = 8 * k := by rw [q.1, Bit.length_zo, Bit.length_row, List.length_take, Nat.min_eq_left (by omega)]
      have hn1' : n1 ≤ 2400 := by omega
      clear hn1
      generalize hxx : l[k].toNat = x at *
      clear hxx hA'
      go_wp2_with (first
        | (go_at_call 52; refine (digits_calls x 8 _ (by omega) (by omega)).mono ?_; rintro e w2 ⟨A2, n2, c2, rfl, o2, g2, b2⟩; have q2 := q.below b2 q.lt; have hn2 : Hid (n2 = 8) := (by rw [o2.1, Bit.length_zo, Bit.length_digits]; exact rfl); have qb2 := qb.trans (b2.mono qb.size))
        | (at_builtin; refine wpList_append8 (by rfl) (.tmp 11) (.tmp 17) 25 5 (by rfl) bytesT _ _ _ _ (by rfl) q2 _ _ _ _ _ (by rfl) o2.byt o2.1 (by have := hn2.out; omega) ?_; intro A3 c3 w3 own3 grow3 at3))
      have own4 := own3
      rw [← Bit.zo_append, ← HR.out] at own4
      have z := qb2.size
      go_roundw
      case rel =>
        refine ⟨k + 1, A3, n1 + n2, c3, by omega, by go_num, rfl, own4, ?_, Below.grown qb2 grow3 qb2.size qg⟩
        intro g hg
        rcases at3 with h | h
        · exact qg g (by rw [← h]; exact hg)
        · rw [hg] at h; injection h with h; omega
      case measure => simp [intOf]; omega
    · obtain rfl : n = k := by omega
      have HT : Hid (l.take n = l) := List.take_of_length_le (by rw [← HN.out]; omega)
      rw [HT.out] at q
      clear hlt
      go_wp2
      go_ret
      exact ⟨_, _, _, rfl, q, qg, qb⟩
end Go.Proofs.Ytijcollcncjdoaa
