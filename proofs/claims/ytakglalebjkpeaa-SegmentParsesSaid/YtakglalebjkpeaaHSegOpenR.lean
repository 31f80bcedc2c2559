/- A file's boxes of just these types with their sum, by the contract of the document's function. Conditions: at most 2^30 bytes. -/
import Derived.Test.YtakglalebjkpeaaHSegOpen
import Derived.Test.YtakglalebjkpeaaHBoxParseRef
import Derived.Test.YtakglalebjkpeaaHCrc
namespace Go.Proofs.Ytakglalebjkpeaa.C17
open Go.RowKit Kin Go.Proofs.Ytakglalebjkpeaa Go.Proofs.Ytakglalebjkpeaa.C16

theorem summed_last {b : List UInt8} {t : ByteArray} {d : List UInt8} (he : Bx.even b = true) (h0 : 0 < (Bx.boxes b).length) (hl : Sg.lastB b = (t, d)) (h4 : d.length = 4) :
    12 ≤ b.length ∧ Sg.summed b = decide (Bx.of4 d = Crc.sum (b.take (b.length - 12))) := by
  obtain ⟨L, x, hb⟩ : ∃ L x, Bx.boxes b = L ++ [x] := by
    rcases List.eq_nil_or_concat (Bx.boxes b) with h | ⟨L, x, h⟩
    · rw [h] at h0; simp at h0
    · exact ⟨L, x, by rw [h, List.concat_eq_append]⟩
  have h1 := Sg.lastB_of hb
  rw [hl] at h1
  subst h1
  obtain ⟨e1, e2, e3, _⟩ := Sg.last_split he hb h4
  rw [Sg.summed_of he hb h4, e1]
  exact ⟨e3, rfl⟩
theorem fsts_at (xs : List Bx.Cel) {i : Nat} (hi : i < xs.length) : ((Bx.boxs xs).map Prod.fst)[i]? = some xs[i].t := by
  rw [List.getElem?_map, Bx.boxs_at xs hi]; rfl

set_option maxRecDepth 100000 in
set_option maxHeartbeats 4000000 in
theorem refopened_calls (A A2 : Option Addr) (n c n2 c2 : Nat) (b : List UInt8) (ks : List ByteArray) (w : World) (hn : n = b.length) (hc : n ≤ c) (hm : n ≤ 900000000) (hA : Byt w w.heap.size A b) (hn2 : n2 = ks.length) (h0 : 0 < ks.length) (hV : Vals w w.heap.size A2 (texts ks)) :
    Calls Try.prog 41 #[.slice A n c, .slice A2 n2 c2] w (RetOp w (opL b ks) (Sg.opE b ks)) := by
  have HP := hide (C16.refparse_calls A n c b w hn hc (by omega) hA)
  have HBY : Hid (∀ w', Below w.heap.size w w' → Byt w' w.heap.size A b) := fun w' h => hA.below h
  have HB9 : Hid ((Bx.boxes b).length ≤ 900000000) := by have := Bx.length_boxes b; rw [← hn] at this; exact (by omega : (Bx.boxes b).length ≤ 900000000)
  have HV : Hid (∀ w', Below w.heap.size w w' → Vals w' w'.heap.size A2 (texts ks)) := fun w' h hl => by
    obtain ⟨b', off, e1, e2, e3⟩ := (hV.below h) hl
    exact ⟨b', off, e1, Nat.lt_of_lt_of_le e2 h.size, e3⟩
  have HN2 := hide hn2
  have HN := hide hn
  have H0 := hide h0
  clear hn hA hn2 h0 hV
  go_enter Try.func41, Try.ntmps41
  go_wp2_with fail
  refine HP.out.mono ?_
  rintro e w1 (⟨hv, A1, n1, c1, xs, rfl, ow, hxs, g1, b1⟩ | ⟨hv, rfl, b1⟩)
  · have hn1 := ow.len
    have HN1 := hide hn1
    have HXS := hide hxs
    have HEV := hide hv
    have hn9 : n1 ≤ 900000000 := by rw [hn1, ← Bx.length_boxs, hxs]; exact HB9.out
    have HGG := hide g1
    clear hn1 hxs hv g1
    by_cases hl : n1 = n2
    · subst hl
      go_wp2_with fail
      go_loopw [8] (fun iv wr => ∃ k : Nat, k ≤ n1 ∧ iv = .int .i64 (k : Int) ∧ Hid (∀ i, i < k → ((Bx.boxs xs).map Prod.fst)[i]? = ks[i]?) ∧ Below w1.heap.size w1 wr) (fun iv _ => n1 - (intOf iv).toNat)
      case atStart => exact ⟨0, by omega, rfl, (by intro i hi; omega), Below.refl _ _⟩
      case round =>
        obtain ⟨k, hk, rfl, hs, belr⟩ := hrel
        have owr := ow.next belr
        have bel := bnext b1 belr
        by_cases hlt : k < n1
        · have hkx : k < xs.length := by rw [← HN1.out]; exact hlt
          obtain ⟨bb, off, rfl, hbb, q0, q1, hok⟩ := owr.boxes.at_ hkx
          obtain ⟨b', off', rfl, hb', p0⟩ := texts_at (HV.out wr bel) (i := k) (by rw [← HN2.out]; exact hlt)
          have HG1 := hide (fsts_at xs hkx)
          have HG2 := hide (List.getElem?_eq_getElem (l := ks) (i := k) (by rw [← HN2.out]; exact hlt))
          generalize ks[k]'(by rw [← HN2.out]; exact hlt) = y at *
          generalize xs[k] = x at *
          obtain ⟨xt, xA, xn, xc, xd⟩ := x
          dsimp only at q0 q1 HG1
          have HO := hide owr
          clear hok owr
          have i0 : (0 : Int) ≤ (k : Int) := by omega
          have i1 : (k : Int) < (n1 : Int) := by omega
          by_cases hxy : xt = y
          · subst hxy
            have HS : Hid (∀ i, i < k + 1 → ((Bx.boxs xs).map Prod.fst)[i]? = ks[i]?) := by
              intro i hi
              by_cases h : i < k
              · exact hs.out i h
              · obtain rfl : i = k := by omega
                rw [HG1.out, HG2.out]
            go_wp2_with fail
            go_quiet (fail)
            go_wp2
            go_roundw
            case rel => exact ⟨k + 1, by omega, by go_num, HS, belr.trans ((dN _ nq).mono belr.size)⟩
            case measure => simp [intOf]; omega
          · have HE := hide (Sg.op_kinds (ks := ks) HEV.out (by
              rw [← HXS.out]
              intro e
              have h1 := HG1.out
              rw [e, HG2.out] at h1
              injection h1 with h1
              exact hxy h1.symm))
            have HO2 := hide (opL_no HE.out (by decide))
            have hne : (xt.toList == y.toList) = false := tl_ne' hxy
            go_wp2_with fail
            go_quiet (fail)
            go_wp2
            go_ret2
            rw [HE.out, HO2.out]
            exact ⟨none, 0, 0, [], rfl, Bx.OwnB.nil _ _ _, rfl, by simp [blkOf], bel.trans ((dN _ nq).mono bel.size)⟩
        · obtain rfl : n1 = k := by omega
          have HK : Hid ((Bx.boxes b).map Prod.fst = ks) := by
            rw [← HXS.out]
            apply List.ext_getElem?
            intro i
            by_cases h : i < n1
            · exact hs.out i h
            · rw [List.getElem?_eq_none (by rw [List.length_map, Bx.length_boxs, ← HN1.out]; omega), List.getElem?_eq_none (by rw [← HN2.out]; omega)]
          clear hlt hk hs
          obtain ⟨j, hj⟩ : ∃ j, n1 = j + 1 := ⟨n1 - 1, by have := H0.out; rw [← HN2.out] at this; omega⟩
          subst hj
          have hjx : j < xs.length := by rw [← HN1.out]; omega
          obtain ⟨bb, off, rfl, hbb, q0, q1, hok⟩ := owr.boxes.at_ hjx
          have HLB := hide (last_of HXS.out HN1.out hjx)
          have hlen := hide hok.1
          have hby := hide hok.2.2
          have hmx := hok.2.1
          unfold maxLen at hmx
          have HO := hide owr
          generalize hx : xs[j] = x at *
          obtain ⟨xt, xA, xn, xc, xd⟩ := x
          dsimp only at q0 q1 HLB hlen hmx hby
          clear hx hok owr
          have i0 : (0 : Int) ≤ (j : Int) := by omega
          have i1 : (j : Int) < (j : Int) + 1 := by omega
          have iw : IntKind.i64.wrap (((j + 1 : Nat) : Int) - 1) = (j : Int) := by rw [IntKind.wrap_i64]; omega
          by_cases h4 : xn = 4
          · subst h4
            have HL4 : Hid ((Sg.lastB b).2.length = 4) := by rw [HLB.out]; exact hlen.out.symm
            have hsl := summed_last HEV.out (by rw [← HXS.out, Bx.length_boxs, ← HN1.out]; omega) HLB.out hlen.out.symm
            rw [← HN.out] at hsl
            obtain ⟨h12, hsl⟩ := hsl
            have HSU := hide hsl
            clear hsl
            have hw12 : IntKind.i64.wrap ((n : Int) - 12) = (n : Int) - 12 := by rw [IntKind.wrap_i64]; omega
            have hs2 : ∀ w', Sem.run Try.prog (Instr.sliceAt 31 (.slice A n c) none (some (.int .i64 ((n : Int) - 12))) none) w' = .ok (.slice A (n - 12) c) w' := fun w' => run_cut8h bytesT A n c .i64 (n - 12) ((n : Int) - 12) (by omega) (by omega) w'
            have HB2 : Hid (∀ w', Below wr.heap.size wr w' → Byt w' w.heap.size A (b.take (n - 12))) := fun w' h => (HBY.out w' (bnext bel h)).take _
            have HL2 : Hid (n - 12 = (b.take (n - 12)).length) := by rw [List.length_take, ← HN.out]; exact (by omega : n - 12 = min (n - 12) n)
            have HB1 : Hid (∀ w', Below wr.heap.size wr w' → Byt w' wr.heap.size xA xd) := fun w' h => hby.out.below h
            have HL1 : Hid (4 ≤ xd.length) := by rw [← hlen.out]; exact Nat.le_refl _
            generalize b.take (n - 12) = l2 at *
            have hsum := Crc.sum_lt l2
            have hws : IntKind.i64.wrap ((Crc.sum l2 : Nat) : Int) = ((Crc.sum l2 : Nat) : Int) := by rw [IntKind.wrap_i64]; omega
            have HC1 : Hid (∀ w', Below wr.heap.size wr w' → _) := fun w' h => C16.of_calls xA xc xd w' HL1.out (HB1.out w' h)
            have HC2 : Hid (∀ w', Below wr.heap.size wr w' → _) := fun w' h => C3.refSum_calls A (n - 12) c l2 w' HL2.out (by omega) (HB2.out w' h)
            generalize n - 12 = n12 at *
            generalize Crc.sum l2 = v2 at *
            generalize Bx.of4 xd = v1 at *
            have e0 : Below wr.heap.size wr wr.drew := (Below.refl _ _).drew
            by_cases hvv : v1 = v2
            case' pos =>
              subst hvv
              rw [decide_eq_true rfl] at HSU
              have HE := hide (Sg.op_yes HEV.out HK.out HL4.out HSU.out)
              have HO2 := hide (opL_yes HE.out)
            case' neg =>
              rw [decide_eq_false hvv] at HSU
              have hvi : ¬ (v1 : Int) = (v2 : Int) := by omega
              clear hvv
              have HE := hide (Sg.op_sum HEV.out HK.out HL4.out HSU.out)
              have HO2 := hide (opL_no HE.out (by decide))
            all_goals
              go_wp2_with fail
              go_region_held3 (fun w' => Below wr.heap.size wr w')
                (first | exact (Below.refl _ _) | exact e0 | exact e1 | exact e2)
                (first
                  | (go_at_call 43; ((with_reducible refine (HC1.out _ e0).mono ?_)); rintro e t1 ⟨rfl, f1⟩; have e1 := bnext e0 f1)
                  | (go_at_call 47; ((with_reducible refine (HC2.out _ e1).mono ?_)); rintro e t2 ⟨rfl, f2⟩; have e2 := bnext e1 f2))
            all_goals
              go_wp2
              go_ret2
              rw [HE.out, HO2.out]
              first
                | exact ⟨_, _, _, xs, rfl, HO.out.next e2, HXS.out, HGG.out, bnext bel e2⟩
                | exact ⟨none, 0, 0, [], rfl, Bx.OwnB.nil _ _ _, rfl, by simp [blkOf], bnext bel e2⟩
          · have HE := hide (Sg.op_last HEV.out HK.out (by rw [HLB.out]; show xd.length ≠ 4; rw [← hlen.out]; exact h4))
            have HO2 := hide (opL_no HE.out (by decide))
            have h4' : ¬ (xn : Int) = 4 := by omega
            go_wp2
            go_ret2
            rw [HE.out, HO2.out]
            exact ⟨none, 0, 0, [], rfl, Bx.OwnB.nil _ _ _, rfl, by simp [blkOf], bel⟩
    · have HE := hide (Sg.op_kinds (ks := ks) HEV.out (fun e => by
        have h1 := congrArg List.length e
        rw [← HXS.out, List.length_map, Bx.length_boxs, ← HN1.out, ← HN2.out] at h1
        exact hl h1))
      have HO2 := hide (opL_no HE.out (by decide))
      have hl' : ¬ (n1 : Int) = (n2 : Int) := by omega
      go_wp2
      go_ret2
      rw [HE.out, HO2.out]
      exact ⟨none, 0, 0, [], rfl, Bx.OwnB.nil _ _ _, rfl, by simp [blkOf], b1⟩
  · have HE := hide (Sg.op_no (ks := ks) hv)
    have HO := hide (opL_no HE.out (by decide))
    clear hv
    go_wp2
    go_ret2
    rw [HE.out, HO.out]
    exact ⟨none, 0, 0, [], rfl, Bx.OwnB.nil _ _ _, rfl, by simp [blkOf], b1⟩
end Go.Proofs.Ytakglalebjkpeaa.C17
