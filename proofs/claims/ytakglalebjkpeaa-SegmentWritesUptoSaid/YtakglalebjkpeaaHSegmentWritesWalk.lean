/- The statement SegmentWrites walked: it answers true. Conditions: all samples' lengths together are at most 2^40. -/
import Derived.Test.YtakglalebjkpeaaHLaw17Alive
import Derived.Test.YtakglalebjkpeaaHSegWriteMR
namespace Go.Proofs.Ytakglalebjkpeaa.C17
open Go.RowKit Kin Go.Proofs.Ytakglalebjkpeaa Go.Proofs.Ytakglalebjkpeaa.C16

set_option maxRecDepth 100000 in
set_option maxHeartbeats 8000000 in
theorem segmentWrites_walk (t : ByteArray) (W H G S T N F : Int) (A : Option Addr) (n c : Nat) (xs : List Sg.Smp) (w : World) (ht : t.size ≤ 9223372036854775807) (hn : n = xs.length) (hm : n ≤ 9223372036854775807) (hA : Sg.Samps w w.heap.size A xs) (hT : (Sg.dats xs).flatten.length ≤ 1099511627776) :
    Calls Try.prog 3 #[.agg #[.string t, .int .i64 W, .int .i64 H, .int .i64 G, .int .i64 S, .int .i64 T], .agg #[.int .i64 N, .int .i64 F, .slice A n c]] w (C16.RetBool w true) := by
  have b0 : Below w.heap.size w ((w.alloc (.cells #[.string t, .int .i64 W, .int .i64 H, .int .i64 G, .int .i64 S, .int .i64 T] 25)).alloc (.cells #[.int .i64 N, .int .i64 F, .slice A n c] 28)) := ((Below.refl w.heap.size w).alloc (Nat.le_refl _) _).alloc (by simp) _
  have bI := (Blk.new w 25 #[.string t, .int .i64 W, .int .i64 H, .int .i64 G, .int .i64 S, .int .i64 T]).alloc (.cells #[.int .i64 N, .int .i64 F, .slice A n c] 28)
  have bM := Blk.new (w.alloc (.cells #[.string t, .int .i64 W, .int .i64 H, .int .i64 G, .int .i64 S, .int .i64 T] 25)) 28 #[.int .i64 N, .int .i64 F, .slice A n c]
  rw [World.size_alloc] at bM
  have HS : Hid (∀ w', Below w.heap.size w w' → Sg.Samps w' w'.heap.size A xs) := fun w' h => hA.of_below h
  have HF := hide (fits_calls N F A n c xs _ hn hm (HS.out _ b0) hT)
  have HWI := hide (fun w => writeI_calls ⟨t, W, H, G, S, T⟩ w ht)
  have HRI := hide (fun w => refwriteI_calls ⟨t, W, H, G, S, T⟩ w ht)
  have HTI := hide (fun w => rightI_calls ⟨t, W, H, G, S, T⟩ w ht)
  have HTR := hide (fun w => refrightI_calls ⟨t, W, H, G, S, T⟩ w ht)
  have HWM : Hid (∀ w', Below w.heap.size w w' → _) := fun w' h => writeM_calls N F A n c xs w' hn hm (HS.out w' h) hT
  have HRM : Hid (∀ w', Below w.heap.size w w' → _) := fun w' h => refwriteM_calls N F A n c xs w' hn hm (HS.out w' h) hT
  have HTM : Hid (∀ w', Below w.heap.size w w' → _) := fun w' h => rightM_calls N F A n c xs w' hn hm (HS.out w' h) hT
  have HTN : Hid (∀ w', Below w.heap.size w w' → _) := fun w' h => refrightM_calls N F A n c xs w' hn hm (HS.out w' h) hT
  clear hn hA hT
  obtain ⟨c0, c1, c2, c3, c4, c5⟩ := ini_cells bI
  obtain ⟨d0, d1, d2⟩ := med_cells bM
  go_enter Try.func3, Try.ntmps3
  go_wp2_with fail
  generalize (w.alloc (.cells #[.string t, .int .i64 W, .int .i64 H, .int .i64 G, .int .i64 S, .int .i64 T] 25)).alloc (.cells #[.int .i64 N, .int .i64 F, .slice A n c] 28) = V at *
  refine HF.out.mono ?_
  rintro e w1 ⟨rfl, b1⟩
  have bel1 := bnext b0 b1
  have bI1 := bI.below b1 bI.lt
  have bM1 := bM.below b1 bM.lt
  clear c0 c1 c2 c3 c4 c5 d0 d1 d2 bI bM b0 b1 HF
  obtain ⟨c0, c1, c2, c3, c4, c5⟩ := ini_cells bI1
  obtain ⟨d0, d1, d2⟩ := med_cells bM1
  cases hf : Sg.fits (Sg.dats xs)
  · go_wp2_with fail
    refine (alive17_calls _).mono ?_
    rintro e w2 ⟨rfl, b2⟩
    go_wp2
    go_ret
    exact ⟨rfl, bnext bel1 b2⟩
  · clear hf
    by_cases hl : 2000 < t.size
    · have i1 : (2000 : Int) < (t.size : Int) := by omega
      go_wp2_with fail
      refine (alive17_calls _).mono ?_
      rintro e w2 ⟨rfl, b2⟩
      go_wp2
      go_ret
      exact ⟨rfl, bnext bel1 b2⟩
    · have i1 : ¬ (2000 : Int) < (t.size : Int) := by omega
      go_wp2_with fail
      refine (HWI.out w1).mono ?_
      rintro e w2 ⟨A2, n2, k2, rfl, o2, g2, b2⟩
      have bel2 := bnext bel1 b2
      have bI2 := bI1.below b2 bI1.lt
      have bM2 := bM1.below b2 bM1.lt
      clear c0 c1 c2 c3 c4 c5 d0 d1 d2 bI1 bM1
      obtain ⟨c0, c1, c2, c3, c4, c5⟩ := ini_cells bI2
      go_wp2_with fail
      refine (HRI.out w2).mono ?_
      rintro e w3 ⟨A3, n3, k3, rfl, o3, g3, b3⟩
      have bel3 := bnext bel2 b3
      have bI3 := bI2.below b3 bI2.lt
      have bM3 := bM2.below b3 bM2.lt
      have o23 := o2.below b3 o2.lt
      clear c0 c1 c2 c3 c4 c5 bI2 bM2
      obtain ⟨d0, d1, d2⟩ := med_cells bM3
      go_wp2_with fail
      refine (HWM.out w3 bel3).mono ?_
      rintro e w4 ⟨A4, n4, k4, rfl, o4, g4, b4⟩
      have bel4 := bnext bel3 b4
      have bI4 := bI3.below b4 bI3.lt
      have bM4 := bM3.below b4 bM3.lt
      have o24 := o23.below b4 o23.lt
      have o34 := o3.below b4 o3.lt
      clear d0 d1 d2 bI3 bM3
      obtain ⟨d0, d1, d2⟩ := med_cells bM4
      go_wp2_with fail
      refine (HRM.out w4 bel4).mono ?_
      rintro e w5 ⟨A5, n5, k5, rfl, o5, g5, b5⟩
      have bel5 := bnext bel4 b5
      have bI5 := bI4.below b5 bI4.lt
      have bM5 := bM4.below b5 bM4.lt
      have o25 := o24.below b5 o24.lt
      have o35 := o34.below b5 o34.lt
      have o45 := o4.below b5 o4.lt
      clear d0 d1 d2 bI4 bM4 o2 o23 o24 o3 o34 o4 g2 g3 g4 g5 b2 b3 b4 b5 bel1 bel2 bel3 bel4
      generalize Sg.wiL ⟨t, W, H, G, S, T⟩ = IL at *
      generalize Sg.wiE ⟨t, W, H, G, S, T⟩ = IE at *
      generalize Sg.wmL ⟨N, F, Sg.dats xs⟩ = ML at *
      generalize Sg.wmE ⟨N, F, Sg.dats xs⟩ = ME at *
      have cv2 : ∀ w', Below w5.heap.size w5 w' → Sem.run Try.prog (convert 31 9 (.slice A2 n2 k2)) w' = .ok (.string (str IL)) w' := fun w' b => run_conv8 bytesT Try.underlying9 A2 n2 k2 _ (o25.byt.below b) o25.1
      have cv3 : ∀ w', Below w5.heap.size w5 w' → Sem.run Try.prog (convert 31 9 (.slice A3 n3 k3)) w' = .ok (.string (str IL)) w' := fun w' b => run_conv8 bytesT Try.underlying9 A3 n3 k3 _ (o35.byt.below b) o35.1
      have cv4 : ∀ w', Below w5.heap.size w5 w' → Sem.run Try.prog (convert 31 9 (.slice A4 n4 k4)) w' = .ok (.string (str ML)) w' := fun w' b => run_conv8 bytesT Try.underlying9 A4 n4 k4 _ (o45.byt.below b) o45.1
      have cv5 : ∀ w', Below w5.heap.size w5 w' → Sem.run Try.prog (convert 31 9 (.slice A5 n5 k5)) w' = .ok (.string (str ML)) w' := fun w' b => run_conv8 bytesT Try.underlying9 A5 n5 k5 _ (o5.byt.below b) o5.1
      have HKS : Hid (∀ w', Below w5.heap.size w5 w' → Below w5.heap.size w5 w' ∧ (w'.cell? ⟨w.heap.size, 0, none⟩ = some (.string t) ∧ w'.cell? ⟨w.heap.size, 1, none⟩ = some (.int .i64 W) ∧ w'.cell? ⟨w.heap.size, 2, none⟩ = some (.int .i64 H) ∧ w'.cell? ⟨w.heap.size, 3, none⟩ = some (.int .i64 G) ∧ w'.cell? ⟨w.heap.size, 4, none⟩ = some (.int .i64 S) ∧ w'.cell? ⟨w.heap.size, 5, none⟩ = some (.int .i64 T)) ∧ (w'.cell? ⟨w.heap.size + 1, 0, none⟩ = some (.int .i64 N) ∧ w'.cell? ⟨w.heap.size + 1, 1, none⟩ = some (.int .i64 F) ∧ w'.cell? ⟨w.heap.size + 1, 2, none⟩ = some (.slice A n c))) := fun w' h => ⟨h, ini_cells (bI5.below h bI5.lt), med_cells (bM5.below h bM5.lt)⟩
      have e0 : Below w5.heap.size w5 w5.drew := (Below.refl _ _).drew
      have k0 := HKS.out _ e0
      go_wp2_with fail
      go_region_held3 (fun w' => Below w5.heap.size w5 w' ∧ (w'.cell? ⟨w.heap.size, 0, none⟩ = some (.string t) ∧ w'.cell? ⟨w.heap.size, 1, none⟩ = some (.int .i64 W) ∧ w'.cell? ⟨w.heap.size, 2, none⟩ = some (.int .i64 H) ∧ w'.cell? ⟨w.heap.size, 3, none⟩ = some (.int .i64 G) ∧ w'.cell? ⟨w.heap.size, 4, none⟩ = some (.int .i64 S) ∧ w'.cell? ⟨w.heap.size, 5, none⟩ = some (.int .i64 T)) ∧ (w'.cell? ⟨w.heap.size + 1, 0, none⟩ = some (.int .i64 N) ∧ w'.cell? ⟨w.heap.size + 1, 1, none⟩ = some (.int .i64 F) ∧ w'.cell? ⟨w.heap.size + 1, 2, none⟩ = some (.slice A n c)))
        (first | with_reducible exact k0 | with_reducible exact l1 | with_reducible exact l2 | with_reducible exact l3 | with_reducible exact l4 | with_reducible exact l5)
        (first
          | (go_at_call 9; ((with_reducible refine (alive17_calls _).mono ?_)); rintro e t1 ⟨rfl, f1⟩; have e1 := bnext e0 f1; have l1 := HKS.out _ e1)
          | (go_at_call 14; ((with_reducible refine (HTI.out _).mono ?_)); rintro e t2 ⟨rfl, f2⟩; have e2 := bnext e1 f2; have l2 := HKS.out _ e2)
          | (go_at_call 15; ((with_reducible refine (HTR.out _).mono ?_)); rintro e t3 ⟨rfl, f3⟩; have e3 := bnext e2 f3; have l3 := HKS.out _ e3; have q3 := bnext bel5 e3)
          | (go_at_call 16; ((with_reducible refine (HTM.out _ q3).mono ?_)); rintro e t4 ⟨rfl, f4⟩; have e4 := bnext e3 f4; have l4 := HKS.out _ e4; have q4 := bnext bel5 e4)
          | (go_at_call 17; ((with_reducible refine (HTN.out _ q4).mono ?_)); rintro e t5 ⟨rfl, f5⟩; have e5 := bnext e4 f5; have l5 := HKS.out _ e5))
      all_goals
        go_wp2
        go_ret
        exact ⟨rfl, bnext bel5 e5⟩
end Go.Proofs.Ytakglalebjkpeaa.C17
