/- Whether a file is sealed, by the contract of the document's function. Conditions: at most 2^30 bytes. -/
import Derived.Test.YtakglalebjkpeaaHSegOpenR
import Derived.Test.YtakglalebjkpeaaHSegSealed
namespace Go.Proofs.Ytakglalebjkpeaa.C17
open Go.RowKit Kin Go.Proofs.Ytakglalebjkpeaa Go.Proofs.Ytakglalebjkpeaa.C16

set_option maxRecDepth 100000 in
set_option maxHeartbeats 4000000 in
theorem refsealed_calls (A : Option Addr) (n c : Nat) (b : List UInt8) (w : World) (hn : n = b.length) (hc : n ≤ c) (hm : n ≤ 900000000) (hA : Byt w w.heap.size A b) :
    Calls Try.prog 25 #[.slice A n c] w (C16.RetBool w (Sg.sealed b)) := by
  have HP := hide (C16.refparse_calls A n c b w hn hc (by omega) hA)
  have HBY : Hid (∀ w', Below w.heap.size w w' → Byt w' w.heap.size A b) := fun w' h => hA.below h
  have HB9 : Hid ((Bx.boxes b).length ≤ 900000000) := by have := Bx.length_boxes b; rw [← hn] at this; exact (by omega : (Bx.boxes b).length ≤ 900000000)
  have HN := hide hn
  clear hn hA
  go_enter Try.func25, Try.ntmps25
  go_wp2_with fail
  refine HP.out.mono ?_
  rintro e w1 (⟨hv, A1, n1, c1, xs, rfl, ow, hxs, g1, b1⟩ | ⟨hv, rfl, b1⟩)
  · have hn1 := ow.len
    have HN1 := hide hn1
    have HXS := hide hxs
    have HEV := hide hv
    have hn9 : n1 ≤ 900000000 := by rw [hn1, ← Bx.length_boxs, hxs]; exact HB9.out
    clear hn1 hxs hv
    rcases Nat.eq_zero_or_pos n1 with h0 | h0
    · subst h0
      have HE := hide (sealed_nil (b := b) (by rw [← HXS.out]; exact List.eq_nil_of_length_eq_zero (by rw [Bx.length_boxs, ← HN1.out])))
      go_wp2
      go_ret
      exact ⟨by rw [HE.out]; rfl, b1⟩
    · obtain ⟨j, hj⟩ : ∃ j, n1 = j + 1 := ⟨n1 - 1, by omega⟩
      subst hj
      have hjx : j < xs.length := by rw [← HN1.out]; omega
      obtain ⟨bb, off, rfl, hbb, q0, q1, hok⟩ := ow.boxes.at_ hjx
      have HLB := hide (last_of HXS.out HN1.out hjx)
      have hlen := hide hok.1
      have hby := hide hok.2.2
      have hmx := hok.2.1
      unfold maxLen at hmx
      generalize hx : xs[j] = x at *
      obtain ⟨xt, xA, xn, xc, xd⟩ := x
      dsimp only at q0 q1 HLB hlen hmx hby
      clear hx hok h0
      have hpos : 0 < (Bx.boxes b).length := by rw [← HXS.out, Bx.length_boxs, ← HN1.out]; omega
      have HPO := hide hpos
      have HSE := hide (sealed_some HEV.out HLB.out hpos)
      rw [← hlen.out] at HSE
      have i0 : (0 : Int) ≤ (j : Int) := by omega
      have i1 : (j : Int) < (j : Int) + 1 := by omega
      have iw : IntKind.i64.wrap (((j + 1 : Nat) : Int) - 1) = (j : Int) := by rw [IntKind.wrap_i64]; omega
      have nz : ¬ (((j + 1 : Nat) : Int) = 0) := by omega
      have bkV := Blk.new w1 53 #[.string xt, .slice xA xn xc]
      have bV : Below w1.heap.size w1 (w1.alloc (.cells #[.string xt, .slice xA xn xc] 53)) := (Below.refl _ _).alloc (Nat.le_refl _) _
      have bel := bnext b1 bV
      have hby2 := (hby.out.below bV).more bV.size
      have HKS : Hid (∀ w', Below (w1.alloc (.cells #[.string xt, .slice xA xn xc] 53)).heap.size (w1.alloc (.cells #[.string xt, .slice xA xn xc] 53)) w' → Below (w1.alloc (.cells #[.string xt, .slice xA xn xc] 53)).heap.size (w1.alloc (.cells #[.string xt, .slice xA xn xc] 53)) w' ∧ w'.cell? ⟨w1.heap.size, 0, none⟩ = some (.string xt) ∧ w'.cell? ⟨w1.heap.size, 1, none⟩ = some (.slice xA xn xc)) := fun w' h => ⟨h, (bkV.below h bkV.lt).cell 0, (bkV.below h bkV.lt).cell 1⟩
      have e0 : Below (w1.alloc (.cells #[.string xt, .slice xA xn xc] 53)).heap.size (w1.alloc (.cells #[.string xt, .slice xA xn xc] 53)) (w1.alloc (.cells #[.string xt, .slice xA xn xc] 53)).drew := (Below.refl _ _).drew
      have HBY2 : Hid (∀ w', Below (w1.alloc (.cells #[.string xt, .slice xA xn xc] 53)).heap.size (w1.alloc (.cells #[.string xt, .slice xA xn xc] 53)) w' → Byt w' w.heap.size A b) := fun w' h => HBY.out w' (bnext bel h)
      have HX1 : Hid (∀ w', Below (w1.alloc (.cells #[.string xt, .slice xA xn xc] 53)).heap.size (w1.alloc (.cells #[.string xt, .slice xA xn xc] 53)) w' → Byt w' (w1.alloc (.cells #[.string xt, .slice xA xn xc] 53)).heap.size xA xd) := fun w' h => hby2.below h
      have k0 := HKS.out _ e0
      go_wp2_with fail
      generalize hg1 : w1.heap.size = gb at *
      generalize w1.alloc (.cells #[.string xt, .slice xA xn xc] 53) = V at *
      clear hg1 bkV bV hby hby2 q0 q1
      by_cases hk : xt = Sg.kSumm
      · subst hk
        have hkk : (Sg.kSumm.toList == [115, 117, 109, 109]) = true := by rw [Lib.toList_data]; rfl
        by_cases h4 : xn = 4
        · subst h4
          have HSE2 : Hid (Sg.sealed b = Sg.summed b) := by rw [HSE.out]; simp [Hid]
          have hsl := summed_last HEV.out HPO.out HLB.out hlen.out.symm
          rw [← HN.out] at hsl
          obtain ⟨h12, hsl⟩ := hsl
          have HSU := hide hsl
          clear hsl
          have hw12 : IntKind.i64.wrap ((n : Int) - 12) = (n : Int) - 12 := by rw [IntKind.wrap_i64]; omega
          have hs2 : ∀ w', Sem.run Try.prog (Instr.sliceAt 31 (.slice A n c) none (some (.int .i64 ((n : Int) - 12))) none) w' = .ok (.slice A (n - 12) c) w' := fun w' => run_cut8h bytesT A n c .i64 (n - 12) ((n : Int) - 12) (by omega) (by omega) w'
          have HL2 : Hid (n - 12 = (b.take (n - 12)).length) := by rw [List.length_take, ← HN.out]; exact (by omega : n - 12 = min (n - 12) n)
          have HL1 : Hid (4 ≤ xd.length) := by rw [← hlen.out]; exact Nat.le_refl _
          have HC1 : Hid (∀ w', Below V.heap.size V w' → _) := fun w' h => C16.of_calls xA xc xd w' HL1.out (HX1.out w' h)
          have HC2 : Hid (∀ w', Below V.heap.size V w' → _) := fun w' h => C3.refSum_calls A (n - 12) c (b.take (n - 12)) w' HL2.out (by omega) ((HBY2.out w' h).take _)
          generalize b.take (n - 12) = l2 at *
          have hsum := Crc.sum_lt l2
          have hws : IntKind.i64.wrap ((Crc.sum l2 : Nat) : Int) = ((Crc.sum l2 : Nat) : Int) := by rw [IntKind.wrap_i64]; omega
          generalize n - 12 = n12 at *
          generalize Crc.sum l2 = v2 at *
          generalize Bx.of4 xd = v1 at *
          by_cases hvv : v1 = v2
          case' pos =>
            subst hvv
            rw [decide_eq_true rfl] at HSU
          case' neg =>
            rw [decide_eq_false hvv] at HSU
            have hvi : ((v1 : Int) == (v2 : Int)) = false := by simp; omega
            clear hvv
          all_goals
            go_region_held3 (fun w' => Below V.heap.size V w' ∧ w'.cell? ⟨gb, 0, none⟩ = some (.string Sg.kSumm) ∧ w'.cell? ⟨gb, 1, none⟩ = some (.slice xA 4 xc))
              (first | with_reducible exact k0 | with_reducible exact k1 | with_reducible exact k2)
              (first
                | (go_at_call 43; ((with_reducible refine (HC1.out _ e0).mono ?_)); rintro e t1 ⟨rfl, f1⟩; have e1 := bnext e0 f1; have k1 := HKS.out _ e1)
                | (go_at_call 47; ((with_reducible refine (HC2.out _ e1).mono ?_)); rintro e t2 ⟨rfl, f2⟩; have e2 := bnext e1 f2; have k2 := HKS.out _ e2))
          all_goals
            go_wp2
            go_ret
            exact ⟨by rw [HSE2.out, HSU.out]; rfl, bnext bel e2⟩
        · have HSE2 : Hid (Sg.sealed b = false) := by rw [HSE.out]; simp [Hid, h4]
          have h4' : ((xn : Int) == 4) = false := by simp; omega
          obtain ⟨_, k01, k02⟩ := k0
          go_region
          all_goals
            go_wp2
            go_ret
            exact ⟨by rw [HSE2.out]; rfl, bnext bel e0⟩
      · have HSE2 : Hid (Sg.sealed b = false) := by rw [HSE.out]; simp [Hid, hk]
        have hkk : (xt.toList == [115, 117, 109, 109]) = false := by
          have := tl_ne' hk
          rwa [show Sg.kSumm.toList = [115, 117, 109, 109] by rw [Lib.toList_data]; rfl] at this
        obtain ⟨_, k01, k02⟩ := k0
        go_region
        all_goals
          go_wp2
          go_ret
          exact ⟨by rw [HSE2.out]; rfl, bnext bel e0⟩
  · have HE := hide (sealed_no hv)
    clear hv
    go_wp2
    go_ret
    exact ⟨by rw [HE.out]; rfl, b1⟩
end Go.Proofs.Ytakglalebjkpeaa.C17
