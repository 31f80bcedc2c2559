/- The statement SegmentSizes walked: it answers true. Conditions: all samples' lengths together are at most 2^40. -/
import Derived.Test.YtakglalebjkpeaaHLaw17Alive
namespace Go.Proofs.Ytakglalebjkpeaa.C17
open Go.RowKit Kin Go.Proofs.Ytakglalebjkpeaa Go.Proofs.Ytakglalebjkpeaa.C16

theorem file_data {m : Sg.Med} (h : Sg.rightM m = true) : (Sg.fileM m).length = 48 + 4 * m.L.length + m.L.flatten.length ∧ ((Sg.fileM m).drop (36 + 4 * m.L.length)).take m.L.flatten.length = m.L.flatten := by
  refine ⟨?_, ?_⟩
  · unfold Sg.fileM
    rw [Sg.length_seal (Sg.boxM_right h), Sg.sizes_boxM]; omega
  · obtain ⟨P, hP⟩ : ∃ P, P = Bx.enc (Sg.kHead, Bx.four m.N.toNat ++ Bx.four m.F.toNat ++ Bx.four m.L.length) ++ (Bx.enc (Sg.kTabl, Sg.table m.L) ++ (Bx.four (8 + m.L.flatten.length) ++ Sg.kData.data.toList)) := ⟨_, rfl⟩
    have e : Sg.fileM m = P ++ (m.L.flatten ++ Bx.file [Sg.sumB (Sg.boxM m)]) := by
      show Bx.file (Sg.boxM m) ++ Bx.file [Sg.sumB (Sg.boxM m)] = _
      generalize Bx.file [Sg.sumB (Sg.boxM m)] = R
      rw [hP]
      simp only [Sg.boxM, Bx.file, Bx.enc, List.append_assoc, List.append_nil]
    have hl : P.length = 36 + 4 * m.L.length := by
      have h1 : Sg.kHead.data.toList.length = 4 := rfl
      have h2 : Sg.kTabl.data.toList.length = 4 := rfl
      have h3 : Sg.kData.data.toList.length = 4 := rfl
      rw [hP]
      simp only [Bx.enc, List.length_append, Bx.length_four, Sg.length_table, h1, h2, h3]
      omega
    rw [e, ← hl, List.drop_left, List.take_left]
theorem str_app (a b : List UInt8) : str a ++ str b = str (a ++ b) := by
  apply ByteArray.ext
  simp [str]
theorem flat_snocd {xs : List Sg.Smp} {k : Nat} (hk : k < xs.length) : ((Sg.dats xs).take k).flatten ++ xs[k].d = ((Sg.dats xs).take (k + 1)).flatten := by
  rw [Sg.take_dats xs hk, List.flatten_append]; simp

set_option maxRecDepth 100000 in
set_option maxHeartbeats 8000000 in
theorem segmentSizes_walk (t : ByteArray) (W H G S T N F : Int) (A : Option Addr) (n c : Nat) (xs : List Sg.Smp) (w : World) (ht : t.size ≤ 9223372036854775807) (hn : n = xs.length) (hm : n ≤ 9223372036854775807) (hA : Sg.Samps w w.heap.size A xs) (hT : (Sg.dats xs).flatten.length ≤ 1099511627776) :
    Calls Try.prog 5 #[.agg #[.string t, .int .i64 W, .int .i64 H, .int .i64 G, .int .i64 S, .int .i64 T], .agg #[.int .i64 N, .int .i64 F, .slice A n c]] w (C16.RetBool w true) := by
  have b0 : Below w.heap.size w ((w.alloc (.cells #[.string t, .int .i64 W, .int .i64 H, .int .i64 G, .int .i64 S, .int .i64 T] 25)).alloc (.cells #[.int .i64 N, .int .i64 F, .slice A n c] 28)) := ((Below.refl w.heap.size w).alloc (Nat.le_refl _) _).alloc (by simp) _
  have bI := (Blk.new w 25 #[.string t, .int .i64 W, .int .i64 H, .int .i64 G, .int .i64 S, .int .i64 T]).alloc (.cells #[.int .i64 N, .int .i64 F, .slice A n c] 28)
  have bM := Blk.new (w.alloc (.cells #[.string t, .int .i64 W, .int .i64 H, .int .i64 G, .int .i64 S, .int .i64 T] 25)) 28 #[.int .i64 N, .int .i64 F, .slice A n c]
  rw [World.size_alloc] at bM
  have HS : Hid (∀ w', Below w.heap.size w w' → Sg.Samps w' w'.heap.size A xs) := fun w' h => hA.of_below h
  have HF := hide (fits_calls N F A n c xs _ hn hm (HS.out _ b0) hT)
  have HWI := hide (fun w => writeI_calls ⟨t, W, H, G, S, T⟩ w ht)
  have HWM : Hid (∀ w', Below w.heap.size w w' → _) := fun w' h => writeM_calls N F A n c xs w' hn hm (HS.out w' h) hT
  have HN := hide hn
  have HA := hide hA
  have HQL := hide (Sg.seq_len W H G)
  clear hn hA hT
  obtain ⟨c0, c1, c2, c3, c4, c5⟩ := ini_cells bI
  obtain ⟨d0, d1, d2⟩ := med_cells bM
  go_enter Try.func5, Try.ntmps5
  go_wp2_with fail
  generalize (w.alloc (.cells #[.string t, .int .i64 W, .int .i64 H, .int .i64 G, .int .i64 S, .int .i64 T] 25)).alloc (.cells #[.int .i64 N, .int .i64 F, .slice A n c] 28) = V at *
  refine HF.out.mono ?_
  rintro e w1 ⟨rfl, b1⟩
  have bel1 := bnext b0 b1
  have bI1 := bI.below b1 bI.lt
  have bM1 := bM.below b1 bM.lt
  clear c0 c1 c2 c3 c4 c5 d0 d1 d2 bI bM b0 b1 HF
  obtain ⟨c0, c1, c2, c3, c4, c5⟩ := ini_cells bI1
  cases hf : Sg.fits (Sg.dats xs)
  · go_wp2_with fail
    refine (alive17_calls _).mono ?_
    rintro e w2 ⟨rfl, b2⟩
    go_wp2
    go_ret
    exact ⟨rfl, bnext bel1 b2⟩
  · have hff := Sg.fits_of hf
    have hn80 : n ≤ 80 := by have := hff.1; rw [Sg.length_dats, ← HN.out] at this; exact this
    have HT2 := hide hff.2
    clear hf hff
    by_cases hl : 2000 < t.size
    · have i1 : (2000 : Int) < (t.size : Int) := by omega
      go_wp2_with fail
      refine (alive17_calls _).mono ?_
      rintro e w2 ⟨rfl, b2⟩
      go_wp2
      go_ret
      exact ⟨rfl, bnext bel1 b2⟩
    · have i1 : ¬ (2000 : Int) < (t.size : Int) := by omega
      go_wp2_with fail
      refine (HWI.out w1).mono ?_
      rintro e w2 ⟨A2, n2, k2, rfl, o2, g2, b2⟩
      have bel2 := bnext bel1 b2
      have bI2 := bI1.below b2 bI1.lt
      have bM2 := bM1.below b2 bM1.lt
      clear c0 c1 c2 c3 c4 c5 bI1 bM1
      obtain ⟨c0, c1, c2, c3, c4, c5⟩ := ini_cells bI2
      go_wp2_with fail
      refine (C12.seq_calls W H G _).mono ?_
      rintro e w3 ⟨A3, n3, k3, rfl, o3, g3, b3⟩
      have bel3 := bnext bel2 b3
      have bI3 := bI2.below b3 bI2.lt
      have bM3 := bM2.below b3 bM2.lt
      clear c0 c1 c2 c3 c4 c5 bI2 bM2
      obtain ⟨c0, c1, c2, c3, c4, c5⟩ := ini_cells bI3
      obtain ⟨d0, d1, d2⟩ := med_cells bM3
      have hn3 : n3 ≤ 100 := by rw [o3.1]; exact HQL.out
      have HEI : Hid ((Sg.wiE ⟨t, W, H, G, S, T⟩ = 0 ∧ (n2 : Int) = 36 + (t.size : Int) + (n3 : Int)) ∨ Sg.wiE ⟨t, W, H, G, S, T⟩ = 171) := by
        cases hr : Sg.rightI ⟨t, W, H, G, S, T⟩
        · exact .inr (Sg.wi_no hr).2
        · refine .inl ⟨(Sg.wi_yes hr).2, ?_⟩
          have h1 := o2.1
          rw [(Sg.wi_yes hr).1] at h1
          unfold Sg.fileI at h1
          rw [Sg.length_seal (Sg.boxI_right hr), Sg.sizes_boxI] at h1
          dsimp only at h1
          rw [← o3.1] at h1
          omega
      generalize Sg.wiE ⟨t, W, H, G, S, T⟩ = IE at *
      clear o2 g2 o3 g3 b2 b3 HQL HWI
      rcases HEI.out with ⟨rfl, hq⟩ | rfl
      all_goals
        clear HEI
        go_wp2_with fail
        refine (HWM.out w3 bel3).mono ?_
        rintro e w4 ⟨A4, n4, k4, rfl, o4, g4, b4⟩
        have bel4 := bnext bel3 b4
        have bM4 := bM3.below b4 bM3.lt
        clear c0 c1 c2 c3 c4 c5 d0 d1 d2 bI3 bM3
        obtain ⟨d0, d1, d2⟩ := med_cells bM4
        cases hr : Sg.rightM ⟨N, F, Sg.dats xs⟩
        case' false =>
          rw [(Sg.wm_no hr).2]
          go_wp2_with fail
          refine (alive17_calls _).mono ?_
          rintro e w5 ⟨rfl, b5⟩
          go_wp2
          go_ret
          exact ⟨rfl, bnext bel4 b5⟩
        rw [(Sg.wm_yes hr).2]
        rw [(Sg.wm_yes hr).1] at o4
        have HFD := hide (file_data hr)
        have hz : (Sg.dats xs).flatten.length ≤ 2000 := HT2.out
        obtain ⟨z, hzz⟩ : ∃ z, (Sg.dats xs).flatten.length = z := ⟨_, rfl⟩
        have HZZ := hide hzz
        have hn4 : (n4 : Int) = 48 + 4 * (n : Int) + (z : Int) := by
          have h1 := HFD.out.1
          rw [← o4.1] at h1
          dsimp only at h1
          rw [Sg.length_dats, ← HN.out, hzz] at h1
          omega
        have hz2 : z ≤ 2000 := by rw [← hzz]; exact hz
        clear hz hzz hr
        go_wp2_with fail
        go_loopw [12, 13] (fun sv iv wr => ∃ (k : Nat), k ≤ n ∧ iv = .int .i64 (k : Int) ∧ sv = .string (str ((Sg.dats xs).take k).flatten) ∧ wr = w4) (fun _ iv _ => n - (intOf iv).toNat)
        case atStart => exact ⟨0, by omega, rfl, rfl, rfl⟩
        case round =>
          obtain ⟨k, hk, rfl, rfl, rfl⟩ := hrel
          by_cases hlt : k < n
          · have hkx : k < xs.length := by rw [← HN.out]; exact hlt
            obtain ⟨b, off, rfl, hb, q0, ok0⟩ := samp_cell HA.out bel4 hkx
            have HK := hide (flat_snocd hkx)
            have HZ := hide (Sg.flat_take (Sg.dats xs) (k + 1))
            rw [← HK.out, List.length_append] at HZ
            have cv1 := run_conv8 (P := Try.prog) bytesT Try.underlying9 _ _ xs[k].c _ ok0.2.2 ok0.1
            generalize xs[k] = x at *
            obtain ⟨xA, xn, xc, xd⟩ := x
            dsimp only at q0 cv1 HK HZ
            clear ok0
            have hsz : (str ((Sg.dats xs).take k).flatten).size + (str xd).size ≤ 9223372036854775807 := by
              show ((Sg.dats xs).take k).flatten.length + xd.length ≤ _
              have := HZ.out
              have := HT2.out
              omega
            have i0 : (0 : Int) ≤ (k : Int) := by omega
            have i1 : (k : Int) < (n : Int) := by omega
            go_wp2_with fail
            go_roundw
            case rel => exact ⟨k + 1, by omega, by go_num, by rw [str_app, HK.out], trivial⟩
            case measure => simp [intOf]; omega
          · obtain rfl : n = k := by omega
            rw [List.take_of_length_le (by rw [Sg.length_dats, ← HN.out]; omega)]
            have HD : Hid ((Sg.dats xs).flatten.length = (str (Sg.dats xs).flatten).size) := rfl
            obtain rfl : z = (str (Sg.dats xs).flatten).size := by rw [← HZZ.out]; exact HD.out
            have hk4 := own8_cap o4
            have hb4 : Byt wr wr.heap.size (cutA A4 k4 (36 + 4 * n)) (Sg.dats xs).flatten := by
              have h1 := o4.byt.cut (36 + 4 * n) (c := k4) (by rw [← o4.1]; exact hk4)
              have h2 := h1.take (Sg.dats xs).flatten.length
              have h3 := HFD.out.2
              rw [Sg.length_dats, ← HN.out] at h3
              rw [h3] at h2
              exact h2
            have cv : ∀ w', Below wr.heap.size wr w' → Sem.run Try.prog (convert 31 9 (.slice (cutA A4 k4 (36 + 4 * n)) (str (Sg.dats xs).flatten).size (k4 - (36 + 4 * n)))) w' = .ok (.string (str (Sg.dats xs).flatten)) w' := fun w' h => run_conv8 bytesT Try.underlying9 _ _ _ _ (hb4.below h) HD.out.symm
            generalize str (Sg.dats xs).flatten = D at *
            have hsl : ∀ w', Sem.run Try.prog (Instr.sliceAt 31 (.slice A4 n4 k4) (some (.int .i64 (28 + 4 * (n : Int) + 8))) (some (.int .i64 (28 + 4 * (n : Int) + 8 + (D.size : Int)))) none) w' = .ok (.slice (cutA A4 k4 (36 + 4 * n)) D.size (k4 - (36 + 4 * n))) w' := fun w' => by
              have := run_cut8 (P := Try.prog) bytesT A4 n4 k4 .i64 .i64 (36 + 4 * n) (36 + 4 * n + D.size) (28 + 4 * (n : Int) + 8) (28 + 4 * (n : Int) + 8 + (D.size : Int)) (by omega) (by omega) (by omega) (by omega) w'
              rw [show 36 + 4 * n + D.size - (36 + 4 * n) = D.size by omega] at this
              exact this
            clear HFD HT2 HZZ HD hb4 o4 g4 b4 hlt hk
            go_wp2_with fail
            refine (alive17_calls _).mono ?_
            rintro e w5 ⟨rfl, b5⟩
            have cv5 := cv w5 b5
            have bel5 := bnext bel4 b5
            have bM5 := bM4.below b5 bM4.lt
            clear d0 d1 d2
            obtain ⟨d0, d1, d2⟩ := med_cells bM5
            go_wp2
            go_ret
            exact ⟨rfl, bel5⟩
end Go.Proofs.Ytakglalebjkpeaa.C17
