/- Whether a file's last bytes are its sum, by the contract. Conditions: at most 2^30 bytes. -/
import Derived.Test.YtakglalebjkpeaaHSegSeal
import Derived.Test.YtakglalebjkpeaaHLib2
namespace Go.Proofs.Ytakglalebjkpeaa.C17
open Go.RowKit Kin Go.Proofs.Ytakglalebjkpeaa Go.Proofs.Ytakglalebjkpeaa.C16

theorem summed_small {b : List UInt8} (h : b.length < 12) : Sg.summed b = false := by
  unfold Sg.summed
  rw [decide_eq_false (by omega), Bool.false_and]
theorem summed_big {b : List UInt8} (h : 12 ≤ b.length) : Sg.summed b = decide (((Bx.of4 (b.drop (b.length - 4)) : Nat) : Int) = ((Crc.sum (b.take (b.length - 12)) : Nat) : Int)) := by
  unfold Sg.summed
  rw [decide_eq_true h, Bool.true_and]
  apply Bool.eq_iff_iff.2
  rw [decide_eq_true_iff, decide_eq_true_iff]
  omega

set_option maxRecDepth 100000 in
set_option maxHeartbeats 2000000 in
theorem summed_calls (A : Option Addr) (n c : Nat) (l : List UInt8) (w : World) (hn : n = l.length) (hc : n ≤ c) (hm : n ≤ 1000000000) (hA : Byt w w.heap.size A l) :
    Calls Try.prog 45 #[.slice A n c] w (C16.RetBool w (Sg.summed l)) := by
  have HN := hide hn
  have HA := hide hA
  by_cases h12 : n < 12
  · have HR := hide (summed_small (b := l) (by rw [← hn]; exact h12))
    have d1 : decide ((12 : Int) ≤ (n : Int)) = false := by simp; omega
    clear hn hA
    go_enter Try.func45, Try.ntmps45
    go_wp2
    go_region
    all_goals
      go_wp2
      go_ret
      exact ⟨by rw [HR.out]; rfl, (Below.refl _ _).drew⟩
  · have HR := hide (summed_big (b := l) (by rw [← hn]; omega))
    have d1 : decide ((12 : Int) ≤ (n : Int)) = true := by simp; omega
    have hw4 : IntKind.i64.wrap ((n : Int) - 4) = (n : Int) - 4 := by rw [IntKind.wrap_i64]; omega
    have hw12 : IntKind.i64.wrap ((n : Int) - 12) = (n : Int) - 12 := by rw [IntKind.wrap_i64]; omega
    have hs1 : ∀ w', Sem.run Try.prog (Instr.sliceAt 31 (.slice A n c) (some (.int .i64 ((n : Int) - 4))) none none) w' = .ok (.slice (cutA A c (n - 4)) 4 (c - (n - 4))) w' := fun w' => by
      have := run_cut8l (P := Try.prog) bytesT A n c .i64 (n - 4) ((n : Int) - 4) (by omega) (by omega) w'
      rw [show n - (n - 4) = 4 by omega] at this
      exact this
    have hs2 : ∀ w', Sem.run Try.prog (Instr.sliceAt 31 (.slice A n c) none (some (.int .i64 ((n : Int) - 12))) none) w' = .ok (.slice A (n - 12) c) w' := fun w' => run_cut8h bytesT A n c .i64 (n - 12) ((n : Int) - 12) (by omega) (by omega) w'
    have HB1 : Hid (∀ w', Below w.heap.size w w' → Byt w' w.heap.size (cutA A c (n - 4)) (l.drop (n - 4))) := fun w' b => (hA.below b).cut _ (by rw [← hn]; exact hc)
    have HB2 : Hid (∀ w', Below w.heap.size w w' → Byt w' w.heap.size A (l.take (n - 12))) := fun w' b => (hA.below b).take _
    have HL1 : Hid (4 = (l.drop (n - 4)).length) := by rw [List.length_drop, ← hn]; exact (by omega : 4 = n - (n - 4))
    have HL2 : Hid (n - 12 = (l.take (n - 12)).length) := by rw [List.length_take, ← hn]; exact (by omega : n - 12 = min (n - 12) n)
    rw [← hn] at HR
    generalize Sg.summed l = R at *
    generalize l.drop (n - 4) = l1 at *
    generalize l.take (n - 12) = l2 at *
    have HM2 : Hid (l2.length ≤ 9223372036854775807) := by rw [← HL2.out]; exact (by omega : n - 12 ≤ 9223372036854775807)
    have hsum := Crc.sum_lt l2
    have hws : IntKind.i64.wrap ((Crc.sum l2 : Nat) : Int) = ((Crc.sum l2 : Nat) : Int) := by rw [IntKind.wrap_i64]; omega
    generalize hcA : cutA A c (n - 4) = A1 at *
    generalize c - (n - 4) = c1 at *
    clear hn hA hcA
    generalize hn2 : n - 12 = n2 at *
    clear hn2
    go_enter Try.func45, Try.ntmps45
    go_wp2
    go_region_held3 (fun w' => Below w.heap.size w w')
      (first | exact (Below.refl _ _) | exact (Below.refl _ _).drew | exact e1 | exact e2)
      (first
        | (go_at_call 36; ((with_reducible refine (number_calls A1 4 c1 l1 _ HL1.out (by decide) (by decide) (HB1.out _ (Below.refl _ _).drew)).mono ?_)); rintro e t1 ⟨rfl, f1⟩; have e1 : Below w.heap.size w t1 := (Below.refl w.heap.size w).drew.trans f1)
        | (go_at_call 49; ((with_reducible refine (C3.sum_calls A n2 l2 c _ HL2.out HM2.out (HB2.out _ e1)).mono ?_)); rintro e t2 ⟨rfl, f2⟩; have e2 := bnext e1 f2))
    all_goals
      go_wp2
      go_ret
      exact ⟨by rw [HR.out]; rfl, e2⟩
end Go.Proofs.Ytakglalebjkpeaa.C17
