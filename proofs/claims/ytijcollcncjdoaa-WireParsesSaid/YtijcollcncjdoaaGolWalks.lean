/- Golomb codes, the program's and the document's: lengths, foldings, writers, each function by its contract. Conditions: the objects are as the calls leave them; at most 2^40 bits. -/
import Derived.Test.YtijcollcncjdoaaShelf
import Derived.Test.YtijcollcncjdoaaBitsAny
import Derived.Test.YtijcollcncjdoaaGolPlain
import Derived.Laws.BitsAllLaws
namespace Go.Proofs.Ytijcollcncjdoaa
open Go.RowKit Kin

theorem ret_ib {k : IntKind} {a b : Int} {p q : Bool} (h : a = b) (h2 : p = q) : Ending.returned (.tuple #[.int k a, .bool p]) = .returned (.tuple #[.int k b, .bool q]) := by rw [h, h2]
theorem ret_ii {k k' : IntKind} {a b c d : Int} (h : a = b) (h2 : c = d) : Ending.returned (.tuple #[.int k a, .int k' c]) = .returned (.tuple #[.int k b, .int k' d]) := by rw [h, h2]

set_option maxRecDepth 100000 in
theorem glen_calls (v : Nat) (w : World) (hv : v < 18446744073709551616) :
    Calls Try.prog 21 #[.int .u64 (v : Int)] w fun e w' => e = .returned (.int .i64 (Gol.gl v : Int)) ∧ w = w' := by
  by_cases h : 4294967294 < v
  · rw [Gol.gl_big h]
    have d : decide ((4294967294 : Int) < (v : Int)) = true := by simp; omega
    go_enter Try.func21, Try.ntmps21
    go_wp2
    go_ret
    exact ⟨rfl, rfl⟩
  · have hb := Gol.bl_code (v := v) (by omega)
    have hg : Hid (((Gol.gl v : Nat) : Int) = 2 * (Gol.bl (v + 1) : Int) - 1) := by show _ = _; rw [Gol.gl_of (by omega)]; omega
    have d : decide ((4294967294 : Int) < (v : Int)) = false := by simp; omega
    have hb2 := hb.2.1
    have hb1 := hb.1
    clear hb
    have CC := fun w => Try.bits_Len64 ((v : Int) + 1) w (by omega) (by omega)
    rw [show ((v : Int) + 1).toNat = v + 1 from by omega] at CC
    have HC := hide CC
    clear CC
    have hbl : Hid (Go.Lib.bitLen (v + 1) = Gol.bl (v + 1)) := rfl
    rw [hbl.out] at HC
    generalize Gol.bl (v + 1) = L at *
    go_enter Try.func21, Try.ntmps21
    go_wp2_with (go_at_call 30; refine (HC.out _).mono ?_; rintro e w1 ⟨rfl, rfl⟩)
    go_ret
    exact ⟨ret_int (by rw [hg.out]), rfl⟩

theorem u64_low (v : Nat) (hv : v < 18446744073709551616) : bits BinOp.and IntKind.u64 (v : Int) 1 = ((v % 2 : Nat) : Int) := by
  have := u64_and_nat v 1 hv (by omega)
  rw [Nat.and_one_is_mod] at this
  exact this

set_option maxRecDepth 100000 in
set_option maxHeartbeats 1000000 in
theorem code_calls (v : Nat) (w : World) (hv : v ≤ 4294967294) :
    Calls Try.prog 35 #[.int .u64 (v : Int)] w (RetBytes w (Bit.zo (Gol.codeB v))) := by
  have hb := Gol.bl_code hv
  have hb1 := hb.1
  have hb2 := hb.2.1
  have HC : Hid (Gol.codeB v = Bit.digits (v + 1) (2 * Gol.bl (v + 1) - 1)) := rfl
  have HZ : Hid (∀ x, x ≤ 4294967295 → 0 < x → Gol.bl x = 1 + Gol.bl (x / 2)) := fun x h1 h2 => Go.Lib.bitLen_half x (by omega) (by omega)
  have HZ0 := hide Gol.bl_zero
  clear hb
  go_enter Try.func35, Try.ntmps35
  go_wp2
  go_loop [3, 4] (fun nv kv => ∃ n x : Nat, x ≤ 4294967295 ∧ n ≤ 32 ∧ nv = .int .i64 (n : Int) ∧ kv = .int .u64 (x : Int) ∧ Hid (n + Gol.bl x = Gol.bl (v + 1))) (fun _ kv => (intOf kv).toNat)
  case atStart => exact ⟨0, v + 1, by omega, by omega, rfl, by go_num, by show _ = _; omega⟩
  case round =>
    obtain ⟨n, x, hx, hn, rfl, rfl, HB⟩ := hrel
    by_cases h0 : 0 < x
    · have HS : Hid (n + 1 + Gol.bl (x / 2) = Gol.bl (v + 1)) := by
        have := HB.out
        have := HZ.out x hx h0
        show _ = _
        omega
      have hn' : n + 1 ≤ 32 := by have := HS.out; omega
      go_wp2
      go_round
      case rel => exact ⟨n + 1, x / 2, by omega, by omega, by go_num, by go_num, HS⟩
      case measure => simp [intOf]; omega
    · obtain rfl : x = 0 := by omega
      have HN : Hid (n = Gol.bl (v + 1)) := by
        have h1 := HB.out
        have h2 := HZ0.out
        show _ = _
        omega
      have hn1 : 1 ≤ n := by rw [HN.out]; exact hb1
      have HC2 : Hid (Gol.codeB v = Bit.digits (v + 1) (2 * n - 1)) := by rw [HC.out, HN.out]; exact rfl
      rw [show (((0 : Nat) : Int)) = 0 from rfl]
      clear hb1 hb2 HB h0
      go_wp2_with fail
      rw [show ((v : Int) + 1) = ((v + 1 : Nat) : Int) from by omega, show (2 * (n : Int) - 1) = ((2 * n - 1 : Nat) : Int) from by omega]
      refine (digits_calls (v + 1) (2 * n - 1) _ (by omega) (by omega)).mono ?_
      rintro e w1 ⟨A1, n1, c1, rfl, o1, g1, b1⟩
      go_wp2
      go_ret
      exact ⟨A1, n1, c1, rfl, by rw [HC2.out]; exact o1, g1, b1⟩
end Go.Proofs.Ytijcollcncjdoaa
