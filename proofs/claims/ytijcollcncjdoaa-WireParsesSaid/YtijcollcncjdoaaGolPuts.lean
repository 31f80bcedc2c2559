/- Golomb codes that are put, the program's and the document's writers, each function by its contract. Conditions: the objects are as the calls leave them; at most 2^40 bits. -/
import Derived.Test.YtijcollcncjdoaaGolWalks
namespace Go.Proofs.Ytijcollcncjdoaa
open Go.RowKit Kin

def gputE (v : Nat) : Int := if v ≤ 4294967294 then 0 else 1
def gputB (B : List Bool) (v : Nat) : List Bool := if v ≤ 4294967294 then B ++ Gol.codeB v else B
theorem gputE_ok {v : Nat} (h : v ≤ 4294967294) : gputE v = 0 := if_pos h
theorem gputB_ok {B : List Bool} {v : Nat} (h : v ≤ 4294967294) : gputB B v = B ++ Gol.codeB v := if_pos h
theorem gputE_no {v : Nat} (h : 4294967294 < v) : gputE v = 1 := if_neg (by omega)
theorem gputB_no {B : List Bool} {v : Nat} (h : 4294967294 < v) : gputB B v = B := if_neg (by omega)
theorem length_gputB (B : List Bool) (v : Nat) : (gputB B v).length ≤ B.length + 63 := by
  by_cases h : v ≤ 4294967294
  · rw [gputB_ok h, List.length_append, Gol.length_codeB h]; have := Gol.gl_le v; omega
  · rw [gputB_no (by omega)]; omega

set_option maxRecDepth 100000 in
theorem gput_nil (v : Int) (w : World) : Calls Try.prog 32 #[.pointer none, .int .u64 v] w fun e w' => e = .returned (.int .i64 1) ∧ w = w' := by
  go_enter Try.func32, Try.ntmps32
  go_wp2
  go_ret
  exact ⟨rfl, rfl⟩
set_option maxRecDepth 100000 in
theorem gput_any (g : Nat) (R : Option Nat) (B : List Bool) (v : Nat) (w : World) (h : WriterIs w g R B) (hB : B.length ≤ 1099511627776) (hv : v < 18446744073709551616) :
    Calls Try.prog 32 #[.pointer (some ⟨g, 0, none⟩), .int .u64 (v : Int)] w
      fun e w' => e = .returned (.int .i64 (gputE v)) ∧ ∃ R', WriterIs w' g R' (gputB B v) ∧ Chg (Foot g R) w w' ∧ RowNew w.heap.size R R' := by
  by_cases hm : v ≤ 4294967294
  · rw [gputE_ok hm, gputB_ok hm]
    have d : decide ((4294967294 : Int) < (v : Int)) = false := by simp; omega
    have HF := hide (Gol.code_fits hm)
    have HC : Hid (Gol.codeB v = Bit.digits (v + 1) (Gol.gl v)) := by rw [Gol.gl_of hm]; exact rfl
    have hgl := Gol.gl_le v
    have HL := hide (glen_calls v)
    rw [HC.out]
    clear HC
    generalize Gol.gl v = L at *
    go_enter Try.func32, Try.ntmps32
    go_wp2_with fail
    refine (HL.out _ hv).mono ?_
    rintro e w1 ⟨rfl, rfl⟩
    go_wp2_with fail
    rw [show ((v : Int) + 1) = ((v + 1 : Nat) : Int) from by omega]
    refine (put_calls g R B (v + 1) L _ h hB (by omega) HF.out).mono ?_
    rintro e w2 ⟨rfl, hh⟩
    go_wp2
    go_ret
    exact ⟨rfl, hh⟩
  · rw [gputE_no (by omega), gputB_no (by omega)]
    have d : decide ((4294967294 : Int) < (v : Int)) = true := by simp; omega
    go_enter Try.func32, Try.ntmps32
    go_wp2
    go_ret
    exact ⟨rfl, R, h, Chg.refl _ _, RowNew.refl _ _⟩

def gsE (x : Int) : Int := if Gol.foldOk x then 0 else 1
def gsB (B : List Bool) (x : Int) : List Bool := if Gol.foldOk x then B ++ Gol.codeB (Gol.foldV x).toNat else B
theorem length_gsB (B : List Bool) (x : Int) : (gsB B x).length ≤ B.length + 63 := by
  unfold gsB
  have hr := Gol.foldV_range x
  split
  · rw [List.length_append, Gol.length_codeB (by omega)]; have := Gol.gl_le (Gol.foldV x).toNat; omega
  · omega
end Go.Proofs.Ytijcollcncjdoaa
