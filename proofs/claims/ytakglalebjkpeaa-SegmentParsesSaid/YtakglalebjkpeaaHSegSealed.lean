/- Whether a file is sealed, by the contract of the program's function. Conditions: at most 2^30 bytes. -/
import Derived.Test.YtakglalebjkpeaaHSegOpen
namespace Go.Proofs.Ytakglalebjkpeaa.C17
open Go.RowKit Kin Go.Proofs.Ytakglalebjkpeaa Go.Proofs.Ytakglalebjkpeaa.C16

theorem sealed_no {b : List UInt8} (h : Bx.even b = false) : Sg.sealed b = false := by unfold Sg.sealed; rw [h]; rfl
theorem sealed_nil {b : List UInt8} (h : Bx.boxes b = []) : Sg.sealed b = false := by unfold Sg.sealed; rw [h]; simp
theorem sealed_some {b : List UInt8} {t : ByteArray} {d : List UInt8} (h : Bx.even b = true) (h2 : Sg.lastB b = (t, d)) (h3 : 0 < (Bx.boxes b).length) : Sg.sealed b = (decide (t = Sg.kSumm) && decide (d.length = 4) && Sg.summed b) := by
  unfold Sg.sealed
  rw [h, h2]
  have : (Bx.boxes b).isEmpty = false := by
    cases e : Bx.boxes b with
    | nil => rw [e] at h3; simp at h3
    | cons x L => rfl
  rw [this]
  simp

set_option maxRecDepth 100000 in
set_option maxHeartbeats 4000000 in
theorem sealed_calls (A : Option Addr) (n c : Nat) (b : List UInt8) (w : World) (hn : n = b.length) (hc : n ≤ c) (hm : n ≤ 900000000) (hA : Byt w w.heap.size A b) :
    Calls Try.prog 24 #[.slice A n c] w (C16.RetBool w (Sg.sealed b)) := by
  have HP := hide (C16.parse_calls A n c b w hn hc (by omega) hA)
  have HSU : Hid (∀ w', Below w.heap.size w w' → Calls Try.prog 45 #[.slice A n c] w' (C16.RetBool w' (Sg.summed b))) := fun w' h => summed_calls A n c b w' hn hc (by omega) ((hA.below h).more h.size)
  have HB9 : Hid ((Bx.boxes b).length ≤ 900000000) := by have := Bx.length_boxes b; rw [← hn] at this; exact (by omega : (Bx.boxes b).length ≤ 900000000)
  clear hn hA
  go_enter Try.func24, Try.ntmps24
  go_wp2_with fail
  refine HP.out.mono ?_
  rintro e w1 (⟨hv, A1, n1, c1, xs, rfl, ow, hxs, g1, b1⟩ | ⟨hv, rfl, b1⟩)
  · have hn1 := ow.len
    have HN1 := hide hn1
    have HXS := hide hxs
    have HEV := hide hv
    have hn9 : n1 ≤ 900000000 := by rw [hn1, ← Bx.length_boxs, hxs]; exact HB9.out
    clear hn1 hxs hv
    rcases Nat.eq_zero_or_pos n1 with h0 | h0
    · subst h0
      have HE := hide (sealed_nil (b := b) (by rw [← HXS.out]; exact List.eq_nil_of_length_eq_zero (by rw [Bx.length_boxs, ← HN1.out])))
      go_wp2
      go_ret
      exact ⟨by rw [HE.out]; rfl, b1⟩
    · obtain ⟨j, hj⟩ : ∃ j, n1 = j + 1 := ⟨n1 - 1, by omega⟩
      subst hj
      have hjx : j < xs.length := by rw [← HN1.out]; omega
      obtain ⟨bb, off, rfl, hbb, q0, q1, hok⟩ := ow.boxes.at_ hjx
      have HLB := hide (last_of HXS.out HN1.out hjx)
      have hlen := hide hok.1
      have hmx := hok.2.1
      unfold maxLen at hmx
      generalize hx : xs[j] = x at *
      obtain ⟨xt, xA, xn, xc, xd⟩ := x
      dsimp only at q0 q1 HLB hlen hmx
      clear hx hok h0
      have HSE := hide (sealed_some HEV.out HLB.out (by rw [← HXS.out, Bx.length_boxs, ← HN1.out]; omega))
      rw [← hlen.out] at HSE
      have i0 : (0 : Int) ≤ (j : Int) := by omega
      have i1 : (j : Int) < (j : Int) + 1 := by omega
      have iw : IntKind.i64.wrap (((j + 1 : Nat) : Int) - 1) = (j : Int) := by rw [IntKind.wrap_i64]; omega
      have nz : ¬ (((j + 1 : Nat) : Int) = 0) := by omega
      have bkV := Blk.new w1 53 #[.string xt, .slice xA xn xc]
      have bV : Below w1.heap.size w1 (w1.alloc (.cells #[.string xt, .slice xA xn xc] 53)) := (Below.refl _ _).alloc (Nat.le_refl _) _
      have r0 : (w1.alloc (.cells #[.string xt, .slice xA xn xc] 53)).cell? ⟨w1.heap.size, 0, none⟩ = some (.string xt) := bkV.cell 0
      have r1 : (w1.alloc (.cells #[.string xt, .slice xA xn xc] 53)).cell? ⟨w1.heap.size, 1, none⟩ = some (.slice xA xn xc) := bkV.cell 1
      have bel := bnext b1 bV
      by_cases hk : xt = Sg.kSumm
      · subst hk
        have hkk : (Sg.kSumm.toList == [115, 117, 109, 109]) = true := by rw [Lib.toList_data]; rfl
        by_cases h4 : xn = 4
        · subst h4
          have HSE2 : Hid (Sg.sealed b = Sg.summed b) := by rw [HSE.out]; simp [Hid]
          go_wp2_with fail
          refine (HSU.out _ bel).mono ?_
          rintro e w5 ⟨rfl, b5⟩
          go_wp2
          go_ret
          exact ⟨by rw [HSE2.out]; rfl, bnext bel b5⟩
        · have HSE2 : Hid (Sg.sealed b = false) := by rw [HSE.out]; simp [Hid, h4]
          have h4' : ¬ (xn : Int) = 4 := by omega
          go_wp2
          go_ret
          exact ⟨by rw [HSE2.out]; rfl, bel⟩
      · have HSE2 : Hid (Sg.sealed b = false) := by rw [HSE.out]; simp [Hid, hk]
        have hkk : (xt.toList == [115, 117, 109, 109]) = false := by
          have := tl_ne' hk
          rwa [show Sg.kSumm.toList = [115, 117, 109, 109] by rw [Lib.toList_data]; rfl] at this
        go_wp2
        go_ret
        exact ⟨by rw [HSE2.out]; rfl, bel⟩
  · have HE := hide (sealed_no hv)
    clear hv
    go_wp2
    go_ret
    exact ⟨by rw [HE.out]; rfl, b1⟩
end Go.Proofs.Ytakglalebjkpeaa.C17
