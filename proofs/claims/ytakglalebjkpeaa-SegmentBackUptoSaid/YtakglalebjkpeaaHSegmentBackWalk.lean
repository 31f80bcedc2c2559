/- The statement SegmentBack walked: it answers true. Conditions: all samples' lengths together are at most 2^40. -/
import Derived.Test.YtakglalebjkpeaaHLaw17Alive
import Derived.Test.YtakglalebjkpeaaHSegSame
namespace Go.Proofs.Ytakglalebjkpeaa.C17
open Go.RowKit Kin Go.Proofs.Ytakglalebjkpeaa Go.Proofs.Ytakglalebjkpeaa.C16

/-- what bytes are taken for: an init, a media, or neither -/
theorem back_ways (b : List UInt8) : (Sg.piE b = 0 ∧ Sg.wiL (Sg.piR b) = b ∧ Sg.wiE (Sg.piR b) = 0 ∧ Sg.rightI (Sg.piR b) = true ∧ ¬ Sg.pmE b = 0) ∨ (¬ Sg.piE b = 0 ∧ Sg.pmE b = 0 ∧ Sg.wmL (Sg.pmR b) = b ∧ Sg.wmE (Sg.pmR b) = 0 ∧ Sg.rightM (Sg.pmR b) = true) ∨ (¬ Sg.piE b = 0 ∧ ¬ Sg.pmE b = 0) := by
  have hm : Sg.pmOk b = false → ¬ Sg.pmE b = 0 := fun h e => by rw [Sg.pm_zero.1 e] at h; cases h
  cases hI : Sg.piOk b
  · have hi : ¬ Sg.piE b = 0 := fun e => by rw [Sg.pi_zero.1 e] at hI; cases hI
    cases hM : Sg.pmOk b
    · exact .inr (.inr ⟨hi, hm hM⟩)
    · have h1 := Sg.pm_yes hM
      have h2 := (Sg.pm_of hM).2.2
      have h3 := Sg.wm_yes h2
      refine .inr (.inl ⟨hi, h1.2, ?_⟩)
      rw [h1.1, h3.1, h3.2, Sg.pm_file hM]
      exact ⟨rfl, rfl, h2⟩
  · have h1 := Sg.pi_yes hI
    have h2 := (Sg.pi_of hI).2.2.2
    have h3 := Sg.wi_yes h2
    refine .inl ⟨h1.2, ?_⟩
    rw [h1.1, h3.1, h3.2, Sg.pi_file hI]
    exact ⟨rfl, rfl, h2, hm (Sg.pi_pm hI)⟩
theorem pir_small (b : List UInt8) : (Sg.piR b).nm.size ≤ 8 := by
  cases hI : Sg.piOk b
  · rw [(Sg.pi_no hI).1]; exact Nat.zero_le _
  · rw [(Sg.pi_yes hI).1]; exact (Sg.rightI_of (Sg.pi_of hI).2.2.2).1.2
theorem pmr_small (b : List UInt8) : (Sg.pmR b).L.flatten.length ≤ 1099511627776 := by
  cases hM : Sg.pmOk b
  · rw [(Sg.pm_no hM).1]; exact Nat.zero_le _
  · rw [(Sg.pm_yes hM).1]; have := (Sg.rightM_of (Sg.pm_of hM).2.2).2.2.2; omega
theorem fileI_len {i : Sg.Ini} (h : Sg.rightI i = true) : (Sg.fileI i).length ≤ 900000 := by
  unfold Sg.fileI
  rw [Sg.length_seal (Sg.boxI_right h), Sg.sizes_boxI]
  have := (Sg.rightI_of h).1.2
  have := Sg.seq_len i.W i.H i.G
  omega
theorem fileM_len {m : Sg.Med} (h : Sg.rightM m = true) : (Sg.fileM m).length ≤ 900000 := by
  unfold Sg.fileM
  rw [Sg.length_seal (Sg.boxM_right h), Sg.sizes_boxM]
  have := Sg.rightM_of h
  omega

set_option maxRecDepth 100000 in
set_option maxHeartbeats 8000000 in
theorem segmentBack_walk (t : ByteArray) (W H G S T N F : Int) (A : Option Addr) (n c : Nat) (xs : List Sg.Smp) (A' : Option Addr) (n' c' : Nat) (b : List UInt8) (w : World) (ht : t.size ≤ 9223372036854775807) (hn : n = xs.length) (hm : n ≤ 9223372036854775807) (hA : Sg.Samps w w.heap.size A xs) (hT : (Sg.dats xs).flatten.length ≤ 1099511627776)
    (hn' : n' = b.length) (hm' : n' ≤ 9223372036854775807) (hc' : n' ≤ c') (hB : Byt w w.heap.size A' b) :
    Calls Try.prog 7 #[.agg #[.string t, .int .i64 W, .int .i64 H, .int .i64 G, .int .i64 S, .int .i64 T], .agg #[.int .i64 N, .int .i64 F, .slice A n c], .slice A' n' c'] w (C16.RetBool w true) := by
  have b0 : Below w.heap.size w ((w.alloc (.cells #[.string t, .int .i64 W, .int .i64 H, .int .i64 G, .int .i64 S, .int .i64 T] 25)).alloc (.cells #[.int .i64 N, .int .i64 F, .slice A n c] 28)) := ((Below.refl w.heap.size w).alloc (Nat.le_refl _) _).alloc (by simp) _
  have bI := (Blk.new w 25 #[.string t, .int .i64 W, .int .i64 H, .int .i64 G, .int .i64 S, .int .i64 T]).alloc (.cells #[.int .i64 N, .int .i64 F, .slice A n c] 28)
  have bM := Blk.new (w.alloc (.cells #[.string t, .int .i64 W, .int .i64 H, .int .i64 G, .int .i64 S, .int .i64 T] 25)) 28 #[.int .i64 N, .int .i64 F, .slice A n c]
  rw [World.size_alloc] at bM
  have HS : Hid (∀ w', Below w.heap.size w w' → Sg.Samps w' w'.heap.size A xs) := fun w' h => hA.of_below h
  have HB : Hid (∀ w', Below w.heap.size w w' → Byt w' w'.heap.size A' b) := fun w' h => (hB.below h).more h.size
  have HF := hide (fits_calls N F A n c xs _ hn hm (HS.out _ b0) hT)
  have HWI := hide (fun w => writeI_calls ⟨t, W, H, G, S, T⟩ w ht)
  have HWM : Hid (∀ w', Below w.heap.size w w' → _) := fun w' h => writeM_calls N F A n c xs w' hn hm (HS.out w' h) hT
  have HTM : Hid (∀ w', Below w.heap.size w w' → _) := fun w' h => rightM_calls N F A n c xs w' hn hm (HS.out w' h) hT
  have HN := hide hn
  have HN' := hide hn'
  clear hn hn' hA hT hB
  obtain ⟨c0, c1, c2, c3, c4, c5⟩ := ini_cells bI
  obtain ⟨d0, d1, d2⟩ := med_cells bM
  go_enter Try.func7, Try.ntmps7
  go_wp2_with fail
  generalize (w.alloc (.cells #[.string t, .int .i64 W, .int .i64 H, .int .i64 G, .int .i64 S, .int .i64 T] 25)).alloc (.cells #[.int .i64 N, .int .i64 F, .slice A n c] 28) = V at *
  refine HF.out.mono ?_
  rintro e w1 ⟨rfl, b1⟩
  have bel1 := bnext b0 b1
  have bI1 := bI.below b1 bI.lt
  have bM1 := bM.below b1 bM.lt
  clear c0 c1 c2 c3 c4 c5 d0 d1 d2 bI bM b0 b1 HF
  obtain ⟨c0, c1, c2, c3, c4, c5⟩ := ini_cells bI1
  cases hf : Sg.fits (Sg.dats xs)
  · go_wp2_with fail
    refine (alive17_calls _).mono ?_
    rintro e w2 ⟨rfl, b2⟩
    go_wp2
    go_ret
    exact ⟨rfl, bnext bel1 b2⟩
  · clear hf
    by_cases hl : 2000 < t.size ∨ 2000 < n'
    · have i1 : (2000 : Int) < (t.size : Int) ∨ ((t.size : Int) ≤ 2000 ∧ (2000 : Int) < (n' : Int)) := by omega
      rcases i1 with i1 | i1
      all_goals
        go_wp2_with fail
        refine (alive17_calls _).mono ?_
        rintro e w2 ⟨rfl, b2⟩
        go_wp2
        go_ret
        exact ⟨rfl, bnext bel1 b2⟩
    · have i1 : (t.size : Int) ≤ 2000 := by omega
      have i2 : (n' : Int) ≤ 2000 := by omega
      have hb2 : n' ≤ 2000 := by omega
      clear hl
      have HPI := hide (parseI_calls A' n' c' b w1 HN'.out hc' (by omega) (HB.out w1 bel1))
      have HPM : Hid (∀ w', Below w.heap.size w w' → _) := fun w' h => parseM_calls A' n' c' b w' HN'.out hc' (by omega) (HB.out w' h)
      have HW := hide (back_ways b)
      have HWx := hide (fun w => writeI_calls (Sg.piR b) w (by have := pir_small b; omega))
      have HRx := hide (fun w => rightI_calls (Sg.piR b) w (by have := pir_small b; omega))
      have HSM := hide (pmr_small b)
      unfold RetIni at HPI
      unfold RetMed at HPM
      generalize Sg.piR b = iR at *
      generalize Sg.pmR b = mR at *
      generalize Sg.piE b = pe at *
      generalize Sg.pmE b = pme at *
      obtain ⟨t1, W1, H1, G1, S1, T1⟩ := iR
      obtain ⟨N1, F1, L1⟩ := mR
      go_wp2_with fail
      refine HPI.out.mono ?_
      rintro e w2 ⟨rfl, b2⟩
      have e2 : Below w2.heap.size w2 (w2.alloc (.cells #[.string t1, .int .i64 W1, .int .i64 H1, .int .i64 G1, .int .i64 S1, .int .i64 T1] 25)) := (Below.refl _ _).alloc (Nat.le_refl _) _
      have bb2 := bnext b2 e2
      have bel2 := bnext bel1 bb2
      have bI2 := bI1.below bb2 bI1.lt
      have bM2 := bM1.below bb2 bM1.lt
      have bX2 := Blk.new w2 25 #[.string t1, .int .i64 W1, .int .i64 H1, .int .i64 G1, .int .i64 S1, .int .i64 T1]
      clear c0 c1 c2 c3 c4 c5 bI1 bM1 b2 e2 bb2 HPI
      go_wp2_with fail
      refine (HPM.out _ bel2).mono ?_
      generalize hg2 : w2.heap.size = g2 at *
      generalize w2.alloc (.cells #[.string t1, .int .i64 W1, .int .i64 H1, .int .i64 G1, .int .i64 S1, .int .i64 T1] 25) = V2 at *
      clear hg2
      rintro e w3 ⟨A3, n3, k3, ys, rfl, hS3, hD3, hn3, hm3, b3⟩
      have hD3 : Sg.dats ys = L1 := hD3
      have e3 : Below w3.heap.size w3 (w3.alloc (.cells #[.int .i64 N1, .int .i64 F1, .slice A3 n3 k3] 28)) := (Below.refl _ _).alloc (Nat.le_refl _) _
      have bb3 := bnext b3 e3
      have bel3 := bnext bel2 bb3
      have bI3 := bI2.below bb3 bI2.lt
      have bM3 := bM2.below bb3 bM2.lt
      have bX3 := bX2.below bb3 bX2.lt
      have bY3 := Blk.new w3 28 #[.int .i64 N1, .int .i64 F1, .slice A3 n3 k3]
      have hS4 := hS3.of_below e3
      have HN3 := hide hn3
      clear b3 e3 bb3 bI2 bM2 bX2 hS3 hn3
      obtain ⟨c0, c1, c2, c3, c4, c5⟩ := ini_cells bI3
      obtain ⟨d0, d1, d2⟩ := med_cells bM3
      obtain ⟨x0, x1, x2, x3, x4, x5⟩ := ini_cells bX3
      obtain ⟨y0, y1, y2⟩ := med_cells bY3
      rcases HW.out with ⟨rfl, hq1, hq2, hq3, hq4⟩ | ⟨hq1, rfl, hq2, hq3, hq4⟩ | ⟨hq1, hq2⟩
      case' inl =>
        rw [hq1, hq2] at HWx
        rw [hq3] at HRx
        clear hq1 hq2 hq3
        go_wp2_with fail
        generalize hg3 : w3.heap.size = g3 at *
        generalize w3.alloc (.cells #[.int .i64 N1, .int .i64 F1, .slice A3 n3 k3] 28) = V3 at *
        clear hg3
        refine (HWx.out V3).mono ?_
        rintro e w4 ⟨A4, n4, k4, rfl, o4, g4, b4⟩
        have bel4 := bnext bel3 b4
        have bI4 := bI3.below b4 bI3.lt
        have bM4 := bM3.below b4 bM3.lt
        have bX4 := bX3.below b4 bX3.lt
        have cv4 := run_conv8 (P := Try.prog) bytesT Try.underlying9 A4 n4 k4 _ o4.byt o4.1
        have cvb := run_conv8 (P := Try.prog) bytesT Try.underlying9 A' n' c' _ (HB.out _ bel4) HN'.out
        clear c0 c1 c2 c3 c4 c5 d0 d1 d2 x0 x1 x2 x3 x4 x5 y0 y1 y2 o4 g4 b4 bI3 bM3 bX3 bY3
        obtain ⟨x0, x1, x2, x3, x4, x5⟩ := ini_cells bX4
        go_wp2_with fail
        refine (HRx.out w4).mono ?_
        rintro e w5 ⟨rfl, b5⟩
        have bel5 := bnext bel4 b5
        have bI5 := bI4.below b5 bI4.lt
        have bM5 := bM4.below b5 bM4.lt
        clear cv4 cvb x0 x1 x2 x3 x4 x5 b5 bI4 bM4 bX4
        obtain ⟨c0, c1, c2, c3, c4, c5⟩ := ini_cells bI5
        obtain ⟨d0, d1, d2⟩ := med_cells bM5
        go_wp2_with fail
      case' inr.inl =>
        have HWy := hide (writeM_calls N1 F1 A3 n3 k3 ys _ HN3.out (by omega) hS4 (by rw [hD3]; exact HSM.out))
        have HRy : Hid (∀ w', Below _ _ w' → _) := fun w' h => rightM_calls N1 F1 A3 n3 k3 ys w' HN3.out (by omega) (hS4.of_below h) (by rw [hD3]; exact HSM.out)
        rw [hD3, hq2, hq3] at HWy
        rw [hD3, hq4] at HRy
        clear hq2 hq3 hq4
        go_wp2_with fail
        generalize hg3 : w3.heap.size = g3 at *
        generalize w3.alloc (.cells #[.int .i64 N1, .int .i64 F1, .slice A3 n3 k3] 28) = V3 at *
        clear hg3
        refine HWy.out.mono ?_
        rintro e w4 ⟨A4, n4, k4, rfl, o4, g4, b4⟩
        have bel4 := bnext bel3 b4
        have bI4 := bI3.below b4 bI3.lt
        have bM4 := bM3.below b4 bM3.lt
        have bY4 := bY3.below b4 bY3.lt
        have HRz := hide (HRy.out w4 b4)
        have cv4 := run_conv8 (P := Try.prog) bytesT Try.underlying9 A4 n4 k4 _ o4.byt o4.1
        have cvb := run_conv8 (P := Try.prog) bytesT Try.underlying9 A' n' c' _ (HB.out _ bel4) HN'.out
        clear c0 c1 c2 c3 c4 c5 d0 d1 d2 x0 x1 x2 x3 x4 x5 y0 y1 y2 o4 g4 b4 bI3 bM3 bX3 bY3 HRy HWy
        obtain ⟨y0, y1, y2⟩ := med_cells bY4
        go_wp2_with fail
        refine HRz.out.mono ?_
        rintro e w5 ⟨rfl, b5⟩
        have bel5 := bnext bel4 b5
        have bI5 := bI4.below b5 bI4.lt
        have bM5 := bM4.below b5 bM4.lt
        clear cv4 cvb y0 y1 y2 b5 bI4 bM4 bY4 HRz
        obtain ⟨c0, c1, c2, c3, c4, c5⟩ := ini_cells bI5
        obtain ⟨d0, d1, d2⟩ := med_cells bM5
        go_wp2_with fail
      case' inr.inr =>
        go_wp2_with fail
        clear c0 c1 c2 c3 c4 c5 d0 d1 d2 x0 x1 x2 x3 x4 x5 y0 y1 y2 bX3 bY3
        generalize hg3 : w3.heap.size = g3 at *
        generalize w3.alloc (.cells #[.int .i64 N1, .int .i64 F1, .slice A3 n3 k3] 28) = w5 at *
        clear hg3
        have bel5 := bel3
        have bI5 := bI3
        have bM5 := bM3
        clear bel3 bI3 bM3
      all_goals
        clear HSM HWx HRx HW HPM HB hS4 HN3 hD3
        refine (HWI.out w5).mono ?_
        rintro e w6 ⟨A6, n6, k6, rfl, o6, g6, b6⟩
        have bel6 := bnext bel5 b6
        have bI6 := bI5.below b6 bI5.lt
        have bM6 := bM5.below b6 bM5.lt
        try clear c0 c1 c2 c3 c4 c5
        try clear d0 d1 d2
        clear bI5 bM5
        cases hr : Sg.rightI ⟨t, W, H, G, S, T⟩
        case' false =>
          rw [(Sg.wi_no hr).2]
          obtain ⟨d0, d1, d2⟩ := med_cells bM6
          go_wp2_with fail
          clear d0 d1 d2
        case' true =>
          rw [(Sg.wi_yes hr).2]
          rw [(Sg.wi_yes hr).1] at o6
          have hpb := Sg.pi_back hr
          have HPI := hide (parseI_calls A6 n6 k6 _ w6 o6.1 (own8_cap o6) (by rw [o6.1]; exact fileI_len hr) o6.byt)
          rw [(Sg.pi_yes hpb.1).1, (Sg.pi_yes hpb.1).2, hpb.2.1] at HPI
          have HSL := hide hpb.2.2
          have HLEN := hide (fileI_len hr)
          clear hpb
          generalize Sg.fileI ⟨t, W, H, G, S, T⟩ = L at *
          go_wp2_with fail
          refine HPI.out.mono ?_
          rintro e w7 ⟨rfl, b7⟩
          have e7 : Below w7.heap.size w7 (w7.alloc (.cells #[.string t, .int .i64 W, .int .i64 H, .int .i64 G, .int .i64 S, .int .i64 T] 25)) := (Below.refl _ _).alloc (Nat.le_refl _) _
          have bb7 := bnext b7 e7
          have bel7 := bnext bel6 bb7
          have bI7 := bI6.below bb7 bI6.lt
          have bM7 := bM6.below bb7 bM6.lt
          have bX7 := Blk.new w7 25 #[.string t, .int .i64 W, .int .i64 H, .int .i64 G, .int .i64 S, .int .i64 T]
          have HSC := hide (sealed_calls A6 n6 k6 L _ o6.1 (own8_cap o6) (by rw [o6.1]; have := HLEN.out; omega) (o6.below bb7 o6.lt).byt)
          rw [HSL.out] at HSC
          clear bI6 bM6 bb7 b7 e7 HPI
          obtain ⟨c0, c1, c2, c3, c4, c5⟩ := ini_cells bI7
          obtain ⟨x0, x1, x2, x3, x4, x5⟩ := ini_cells bX7
          go_wp2_with fail
        case' true =>
          generalize w7.alloc (.cells #[.string t, .int .i64 W, .int .i64 H, .int .i64 G, .int .i64 S, .int .i64 T] 25) = V7 at *
          refine HSC.out.mono ?_
          rintro e w8 ⟨rfl, b8⟩
          have bel8 := bnext bel7 b8
          have bM8 := bM7.below b8 bM7.lt
          clear c0 c1 c2 c3 c4 c5 x0 x1 x2 x3 x4 x5 bI7 bX7 bM7 b8 HSC o6
          obtain ⟨d0, d1, d2⟩ := med_cells bM8
          go_wp2_with fail
          clear d0 d1 d2
        case' false =>
          have bM8 := bM6
          have bel8 := bel6
          clear bM6 bel6 o6
          generalize w6 = w8 at *
        all_goals
          refine (HWM.out w8 bel8).mono ?_
          rintro e w9 ⟨A9, n9, k9, rfl, o9, g9, b9⟩
          have bel9 := bnext bel8 b9
          have bM9 := bM8.below b9 bM8.lt
          clear bM8 b9 g9 hr
          obtain ⟨d0, d1, d2⟩ := med_cells bM9
          cases hr : Sg.rightM ⟨N, F, Sg.dats xs⟩
          · rw [(Sg.wm_no hr).2]
            rw [hr] at HTM
            clear hr o9
            go_wp2_with fail
            refine (alive17_calls _).mono ?_
            rintro e t1 ⟨rfl, f1⟩
            have l1 := bnext bel9 f1
            have bM10 := bM9.below f1 bM9.lt
            clear d0 d1 d2
            obtain ⟨d0, d1, d2⟩ := med_cells bM10
            go_wp2_with fail
            refine (HTM.out _ l1).mono ?_
            rintro e t2 ⟨rfl, f2⟩
            go_wp2
            go_ret
            exact ⟨rfl, bnext l1 f2⟩
          · rw [(Sg.wm_yes hr).2]
            rw [(Sg.wm_yes hr).1] at o9
            have hpb := Sg.pm_back hr
            have HPM := hide (parseM_calls A9 n9 k9 _ w9 o9.1 (own8_cap o9) (by rw [o9.1]; exact fileM_len hr) o9.byt)
            rw [(Sg.pm_yes hpb.1).1, (Sg.pm_yes hpb.1).2, hpb.2.1] at HPM
            unfold RetMed at HPM
            have HSL := hide hpb.2.2
            have HLEN := hide (fileM_len hr)
            clear hpb
            generalize Sg.fileM ⟨N, F, Sg.dats xs⟩ = L9 at *
            clear hr HTM
            go_wp2_with fail
            refine HPM.out.mono ?_
            rintro e w10 ⟨A10, n10, k10, zs, rfl, hS10, hD10, hn10, hm10, b10⟩
            have hD10 : Sg.dats zs = Sg.dats xs := hD10
            have e10 : Below w10.heap.size w10 (w10.alloc (.cells #[.int .i64 N, .int .i64 F, .slice A10 n10 k10] 28)) := (Below.refl _ _).alloc (Nat.le_refl _) _
            have bb10 := bnext b10 e10
            have bel10 := bnext bel9 bb10
            have bM10 := bM9.below bb10 bM9.lt
            have bY10 := Blk.new w10 28 #[.int .i64 N, .int .i64 F, .slice A10 n10 k10]
            have hS11 := hS10.of_below e10
            have o10 := o9.below bb10 o9.lt
            have HN10 := hide hn10
            have HSQ : Hid (sameM N F (Sg.dats zs) N F (Sg.dats xs) = true) := by rw [hD10]; exact decide_eq_true ⟨rfl, rfl, rfl⟩
            clear b10 e10 bb10 hS10 hn10 hD10 d0 d1 d2 bM9 o9 HPM
            go_wp2_with fail
            generalize w10.alloc (.cells #[.int .i64 N, .int .i64 F, .slice A10 n10 k10] 28) = V at *
            have HSM : Hid (∀ w', Below V.heap.size V w' → _) := fun w' h => same_calls N F N F A10 A n10 k10 n c zs xs w' HN10.out (by omega) HN.out (hS11.of_below h) (HS.out w' (bnext bel10 h))
            rw [HSQ.out] at HSM
            have HSC : Hid (∀ w', Below V.heap.size V w' → _) := fun w' h => sealed_calls A9 n9 k9 L9 w' o10.1 (own8_cap o10) (by rw [o10.1]; have := HLEN.out; omega) (o10.below h o10.lt).byt
            rw [HSL.out] at HSC
            refine (alive17_calls _).mono ?_
            rintro e t1 ⟨rfl, f1⟩
            have l1 := bnext bel10 f1
            have bM11 := bM10.below f1 bM10.lt
            have bY11 := bY10.below f1 bY10.lt
            have HSN := hide (HSM.out t1 f1)
            have HSD : Hid (∀ w', Below V.heap.size V w' → _) := fun w' h => HSC.out w' h
            obtain ⟨d0, d1, d2⟩ := med_cells bM11
            obtain ⟨y0, y1, y2⟩ := med_cells bY11
            go_wp2_with fail
            refine HSN.out.mono ?_
            rintro e t2 ⟨rfl, f2⟩
            have l2 := bnext l1 f2
            have HSE := hide (HSD.out t2 (bnext f1 f2))
            clear d0 d1 d2 y0 y1 y2
            go_wp2_with fail
            refine HSE.out.mono ?_
            rintro e t3 ⟨rfl, f3⟩
            go_wp2
            go_ret
            exact ⟨rfl, bnext l2 f3⟩
end Go.Proofs.Ytakglalebjkpeaa.C17
