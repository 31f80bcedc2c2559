/- Golomb codes, the program's and the document's: lengths, foldings, writers, each function by its contract. Conditions: the objects are as the calls leave them; at most 2^40 bits. -/
import Derived.Test.YtdelaobffbaocaaShelf
import Derived.Test.YtdelaobffbaocaaBitsAny
import Derived.Test.YtdelaobffbaocaaGolPlain
import Derived.Laws.BitsAllLaws
namespace Go.Proofs.Ytdelaobffbaocaa
open Go.RowKit Kin

theorem ret_ib {k : IntKind} {a b : Int} {p q : Bool} (h : a = b) (h2 : p = q) : Ending.returned (.tuple #[.int k a, .bool p]) = .returned (.tuple #[.int k b, .bool q]) := by rw [h, h2]
theorem ret_ii {k k' : IntKind} {a b c d : Int} (h : a = b) (h2 : c = d) : Ending.returned (.tuple #[.int k a, .int k' c]) = .returned (.tuple #[.int k b, .int k' d]) := by rw [h, h2]

set_option maxRecDepth 100000 in
theorem glen_calls (v : Nat) (w : World) (hv : v < 18446744073709551616) :
    Calls Try.prog 38 #[.int .u64 (v : Int)] w fun e w' => e = .returned (.int .i64 (Gol.gl v : Int)) ∧ w = w' := by
  by_cases h : 4294967294 < v
  · rw [Gol.gl_big h]
    have d : decide ((4294967294 : Int) < (v : Int)) = true := by simp; omega
    go_enter Try.func38, Try.ntmps38
    go_wp2
    go_ret
    exact ⟨rfl, rfl⟩
  · have hb := Gol.bl_code (v := v) (by omega)
    have hg : Hid (((Gol.gl v : Nat) : Int) = 2 * (Gol.bl (v + 1) : Int) - 1) := by show _ = _; rw [Gol.gl_of (by omega)]; omega
    have d : decide ((4294967294 : Int) < (v : Int)) = false := by simp; omega
    have hb2 := hb.2.1
    have hb1 := hb.1
    clear hb
    have CC := fun w => Try.bits_Len64 ((v : Int) + 1) w (by omega) (by omega)
    rw [show ((v : Int) + 1).toNat = v + 1 from by omega] at CC
    have HC := hide CC
    clear CC
    have hbl : Hid (Go.Lib.bitLen (v + 1) = Gol.bl (v + 1)) := rfl
    rw [hbl.out] at HC
    generalize Gol.bl (v + 1) = L at *
    go_enter Try.func38, Try.ntmps38
    go_wp2_with (go_at_call 52; refine (HC.out _).mono ?_; rintro e w1 ⟨rfl, rfl⟩)
    go_ret
    exact ⟨ret_int (by rw [hg.out]), rfl⟩

set_option maxRecDepth 100000 in
theorem fold_calls (x : Int) (w : World) (h0 : -9223372036854775808 ≤ x) (h1 : x ≤ 9223372036854775807) :
    Calls Try.prog 35 #[.int .i64 x] w fun e w' => e = .returned (.tuple #[.int .u64 (Gol.foldV x), .bool (Gol.foldOk x)]) ∧ w = w' := by
  by_cases h : -2147483647 ≤ x ∧ x ≤ 2147483647
  · have ho : Gol.foldOk x = true := decide_eq_true h
    obtain ⟨h2, h3⟩ := h
    by_cases hp : 0 < x
    · have hv : Hid (Gol.foldV x = 2 * x - 1) := by show _ = _; unfold Gol.foldV; rw [ho, if_pos rfl, if_pos hp]
      have HO := hide ho
      clear ho
      go_enter Try.func35, Try.ntmps35
      go_wp2
      go_ret2
      exact ⟨ret_ib (by rw [hv.out]; omega) HO.out.symm, rfl⟩
    · have hv : Hid (Gol.foldV x = -2 * x) := by show _ = _; unfold Gol.foldV; rw [ho, if_pos rfl, if_neg hp]
      have HO := hide ho
      clear ho
      have hp' : x ≤ 0 := by omega
      go_enter Try.func35, Try.ntmps35
      go_wp2
      go_ret2
      exact ⟨ret_ib (by rw [hv.out]; omega) HO.out.symm, rfl⟩
  · have ho : Gol.foldOk x = false := decide_eq_false h
    have hv : Hid (Gol.foldV x = 0) := by show _ = _; unfold Gol.foldV; rw [ho]; rfl
    have HO := hide ho
    clear ho
    have hc : x < -2147483647 ∨ (-2147483647 ≤ x ∧ 2147483647 < x) := by omega
    clear h
    rcases hc with h | ⟨h, h'⟩
    all_goals
      go_enter Try.func35, Try.ntmps35
      go_wp2
      go_ret2
      exact ⟨ret_ib hv.out.symm HO.out.symm, rfl⟩

set_option maxRecDepth 100000 in
theorem reffold_calls (x : Int) (w : World) (h0 : -9223372036854775808 ≤ x) (h1 : x ≤ 9223372036854775807) :
    Calls Try.prog 36 #[.int .i64 x] w fun e w' => e = .returned (.tuple #[.int .u64 (Gol.foldV x), .bool (Gol.foldOk x)]) ∧ w = w' := by
  by_cases h : -2147483647 ≤ x ∧ x ≤ 2147483647
  · have ho : Gol.foldOk x = true := decide_eq_true h
    obtain ⟨h2, h3⟩ := h
    by_cases hp : 0 < x
    · have hv : Hid (Gol.foldV x = 2 * x - 1) := by show _ = _; unfold Gol.foldV; rw [ho, if_pos rfl, if_pos hp]
      have HO := hide ho
      clear ho
      go_enter Try.func36, Try.ntmps36
      go_wp2
      go_ret2
      exact ⟨ret_ib (by rw [hv.out]) HO.out.symm, rfl⟩
    · have hv : Hid (Gol.foldV x = -2 * x) := by show _ = _; unfold Gol.foldV; rw [ho, if_pos rfl, if_neg hp]
      have HO := hide ho
      clear ho
      have hp' : x ≤ 0 := by omega
      go_enter Try.func36, Try.ntmps36
      go_wp2
      go_ret2
      exact ⟨ret_ib (by rw [hv.out]) HO.out.symm, rfl⟩
  · have ho : Gol.foldOk x = false := decide_eq_false h
    have hv : Hid (Gol.foldV x = 0) := by show _ = _; unfold Gol.foldV; rw [ho]; rfl
    have HO := hide ho
    clear ho
    have hc : 2147483647 < x ∨ (x ≤ 2147483647 ∧ x < -2147483647) := by omega
    clear h
    rcases hc with h | ⟨h, h'⟩
    all_goals
      go_enter Try.func36, Try.ntmps36
      go_wp2
      go_ret2
      exact ⟨ret_ib hv.out.symm HO.out.symm, rfl⟩

theorem u64_low (v : Nat) (hv : v < 18446744073709551616) : bits BinOp.and IntKind.u64 (v : Int) 1 = ((v % 2 : Nat) : Int) := by
  have := u64_and_nat v 1 hv (by omega)
  rw [Nat.and_one_is_mod] at this
  exact this

set_option maxRecDepth 100000 in
theorem unfold_calls (v : Nat) (w : World) (hv : v < 18446744073709551616) :
    Calls Try.prog 39 #[.int .u64 (v : Int)] w fun e w' => e = .returned (.int .i64 (Gol.unf v)) ∧ w = w' := by
  by_cases h : 4294967294 < v
  · have hu : Hid (Gol.unf v = 0) := by show _ = _; unfold Gol.unf; rw [if_pos (by omega)]
    have d : decide ((4294967294 : Int) < (v : Int)) = true := by simp; omega
    go_enter Try.func39, Try.ntmps39
    go_wp2
    go_ret
    exact ⟨ret_int hu.out.symm, rfl⟩
  · have d : decide ((4294967294 : Int) < (v : Int)) = false := by simp; omega
    have hl := u64_low v hv
    by_cases h2 : v % 2 = 1
    · have hu : Hid (Gol.unf v = (v : Int) / 2 + 1) := by show _ = _; unfold Gol.unf; rw [if_neg (by omega), if_pos (by omega)]; omega
      rw [h2] at hl
      have hl : bits BinOp.and IntKind.u64 (v : Int) 1 = 1 := hl
      clear h2
      go_enter Try.func39, Try.ntmps39
      go_wp2
      go_ret
      exact ⟨ret_int (by rw [hu.out]), rfl⟩
    · have hu : Hid (Gol.unf v = -((v : Int) / 2)) := by show _ = _; unfold Gol.unf; rw [if_neg (by omega), if_neg (by omega)]
      have h20 : v % 2 = 0 := by omega
      rw [h20] at hl
      have hl : bits BinOp.and IntKind.u64 (v : Int) 1 = 0 := hl
      clear h2 h20
      go_enter Try.func39, Try.ntmps39
      go_wp2
      go_ret
      exact ⟨ret_int (by rw [hu.out]), rfl⟩

set_option maxRecDepth 100000 in
theorem refunfold_calls (v : Nat) (w : World) (hv : v < 18446744073709551616) :
    Calls Try.prog 40 #[.int .u64 (v : Int)] w fun e w' => e = .returned (.int .i64 (Gol.unf v)) ∧ w = w' := by
  by_cases h : 4294967294 < v
  · have hu : Hid (Gol.unf v = 0) := by show _ = _; unfold Gol.unf; rw [if_pos (by omega)]
    have d : decide ((4294967294 : Int) < (v : Int)) = true := by simp; omega
    go_enter Try.func40, Try.ntmps40
    go_wp2
    go_ret
    exact ⟨ret_int hu.out.symm, rfl⟩
  · have d : decide ((4294967294 : Int) < (v : Int)) = false := by simp; omega
    by_cases h2 : v % 2 = 1
    · have hu : Hid (Gol.unf v = ((v : Int) + 1) / 2) := by show _ = _; unfold Gol.unf; rw [if_neg (by omega), if_pos (by omega)]
      have hl : ((v : Int) % 2 == 1) = true := by simp; omega
      clear h2
      go_enter Try.func40, Try.ntmps40
      go_wp2
      go_ret
      exact ⟨ret_int (by rw [hu.out]), rfl⟩
    · have hu : Hid (Gol.unf v = -((v : Int) / 2)) := by show _ = _; unfold Gol.unf; rw [if_neg (by omega), if_neg (by omega)]
      have hl : ((v : Int) % 2 == 1) = false := by simp; omega
      clear h2
      go_enter Try.func40, Try.ntmps40
      go_wp2
      go_ret
      exact ⟨ret_int (by rw [hu.out]), rfl⟩

set_option maxRecDepth 100000 in
set_option maxHeartbeats 1000000 in
theorem code_calls (v : Nat) (w : World) (hv : v ≤ 4294967294) :
    Calls Try.prog 34 #[.int .u64 (v : Int)] w (RetBytes w (Bit.zo (Gol.codeB v))) := by
  have hb := Gol.bl_code hv
  have hb1 := hb.1
  have hb2 := hb.2.1
  have HC : Hid (Gol.codeB v = Bit.digits (v + 1) (2 * Gol.bl (v + 1) - 1)) := rfl
  have HZ : Hid (∀ x, x ≤ 4294967295 → 0 < x → Gol.bl x = 1 + Gol.bl (x / 2)) := fun x h1 h2 => Go.Lib.bitLen_half x (by omega) (by omega)
  have HZ0 := hide Gol.bl_zero
  clear hb
  go_enter Try.func34, Try.ntmps34
  go_wp2
  go_loop [3, 4] (fun nv kv => ∃ n x : Nat, x ≤ 4294967295 ∧ n ≤ 32 ∧ nv = .int .i64 (n : Int) ∧ kv = .int .u64 (x : Int) ∧ Hid (n + Gol.bl x = Gol.bl (v + 1))) (fun _ kv => (intOf kv).toNat)
  case atStart => exact ⟨0, v + 1, by omega, by omega, rfl, by go_num, by show _ = _; omega⟩
  case round =>
    obtain ⟨n, x, hx, hn, rfl, rfl, HB⟩ := hrel
    by_cases h0 : 0 < x
    · have HS : Hid (n + 1 + Gol.bl (x / 2) = Gol.bl (v + 1)) := by
        have := HB.out
        have := HZ.out x hx h0
        show _ = _
        omega
      have hn' : n + 1 ≤ 32 := by have := HS.out; omega
      go_wp2
      go_round
      case rel => exact ⟨n + 1, x / 2, by omega, by omega, by go_num, by go_num, HS⟩
      case measure => simp [intOf]; omega
    · obtain rfl : x = 0 := by omega
      have HN : Hid (n = Gol.bl (v + 1)) := by
        have h1 := HB.out
        have h2 := HZ0.out
        show _ = _
        omega
      have hn1 : 1 ≤ n := by rw [HN.out]; exact hb1
      have HC2 : Hid (Gol.codeB v = Bit.digits (v + 1) (2 * n - 1)) := by rw [HC.out, HN.out]; exact rfl
      rw [show (((0 : Nat) : Int)) = 0 from rfl]
      clear hb1 hb2 HB h0
      go_wp2_with fail
      rw [show ((v : Int) + 1) = ((v + 1 : Nat) : Int) from by omega, show (2 * (n : Int) - 1) = ((2 * n - 1 : Nat) : Int) from by omega]
      refine (digits_calls (v + 1) (2 * n - 1) _ (by omega) (by omega)).mono ?_
      rintro e w1 ⟨A1, n1, c1, rfl, o1, g1, b1⟩
      go_wp2
      go_ret
      exact ⟨A1, n1, c1, rfl, by rw [HC2.out]; exact o1, g1, b1⟩
end Go.Proofs.Ytdelaobffbaocaa
