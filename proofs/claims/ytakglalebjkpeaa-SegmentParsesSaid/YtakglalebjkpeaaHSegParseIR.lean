/- The init of bytes, by the contract of the document's function. Conditions: at most 900000 bytes. -/
import Derived.Test.YtakglalebjkpeaaHSegOpenR
import Derived.Test.YtakglalebjkpeaaHSegParseI
import Derived.Test.YtakglalebjkpeaaHSegSeqR
namespace Go.Proofs.Ytakglalebjkpeaa.C17
open Go.RowKit Kin Go.Proofs.Ytakglalebjkpeaa Go.Proofs.Ytakglalebjkpeaa.C16

set_option maxRecDepth 100000 in
set_option maxHeartbeats 8000000 in
theorem refparseI_calls (A : Option Addr) (n c : Nat) (b : List UInt8) (w : World) (hn : n = b.length) (hc : n ≤ c) (hm : n ≤ 900000) (hA : Byt w w.heap.size A b) :
    Calls Try.prog 21 #[.slice A n c] w (RetIni w (Sg.piR b) (Sg.piE b)) := by
  have b0 : Below w.heap.size w (w.alloc (.cells #[.string ⟨#[]⟩, .int .i64 0, .int .i64 0, .int .i64 0, .int .i64 0, .int .i64 0] 25)) := (Below.refl _ _).alloc (Nat.le_refl _) _
  have bk := Blk.new w 25 #[.string ⟨#[]⟩, .int .i64 0, .int .i64 0, .int .i64 0, .int .i64 0, .int .i64 0]
  have HN := hide hn
  have HA := hide hA
  clear hn hA
  go_enter Try.func21, Try.ntmps21
  go_wp2_with fail
  have HRz : Hid ((w.alloc (.cells #[.string ⟨#[]⟩, .int .i64 0, .int .i64 0, .int .i64 0, .int .i64 0, .int .i64 0] 25)).heap.size = w.heap.size + 1) := World.size_alloc _ _
  generalize w.alloc (.cells #[.string ⟨#[]⟩, .int .i64 0, .int .i64 0, .int .i64 0, .int .i64 0, .int .i64 0] 25) = R at *
  have vK := Vals.newN R #[.string ⟨#[104, 101, 97, 100]⟩, .string ⟨#[115, 101, 113, 117]⟩, .string ⟨#[115, 117, 109, 109]⟩] 9 (0, 0) (texts Sg.kI) rfl
  have hzK : (R.alloc (.cells #[.string ⟨#[104, 101, 97, 100]⟩, .string ⟨#[115, 101, 113, 117]⟩, .string ⟨#[115, 117, 109, 109]⟩] 9)).heap.size = R.heap.size + 1 := by simp
  rw [← hzK] at vK
  have bKK : Below R.heap.size R (R.alloc (.cells #[.string ⟨#[104, 101, 97, 100]⟩, .string ⟨#[115, 101, 113, 117]⟩, .string ⟨#[115, 117, 109, 109]⟩] 9)) := (Below.refl _ _).alloc (Nat.le_refl _) _
  have bkK := bk.below bKK bk.lt
  have belK := b0.trans (bKK.mono b0.size)
  clear hzK bKK
  rw [HRz.out] at vK
  generalize R.alloc (.cells #[.string ⟨#[104, 101, 97, 100]⟩, .string ⟨#[115, 101, 113, 117]⟩, .string ⟨#[115, 117, 109, 109]⟩] 9) = RK at *
  refine (refopened_calls A (some ⟨w.heap.size + 1, 0, none⟩) n c 3 3 b Sg.kI RK HN.out hc (by omega) ((HA.out.below belK).more belK.size) rfl (by decide) vK).mono ?_
  rintro e w2 ⟨A1, n1, c1, xs, rfl, ow, hxs, g1, b1⟩
  have bk2 := bkK.below b1 bkK.lt
  have bel2 := bnext belK b1
  clear vK bkK belK b1 b0 bk
  obtain ⟨z0, z1, z2, z3, z4, z5⟩ := ini_cells bk2
  obtain ⟨f0, f1, f2, f3, f4, f5⟩ := ini_frozen bk2
  have HXS := hide hxs
  clear hxs
  rcases op_small (b := b) (ks := Sg.kI) with hE | hE | hE | hE
  case' inl => skip
  case inr.inl | inr.inr.inl | inr.inr.inr =>
    have HE := hide (pi_err hE (by decide))
    rw [hE]
    have bz := six_blk bk2 (.string ⟨#[]⟩) (.int .i64 0) (.int .i64 0) (.int .i64 0) (.int .i64 0) (.int .i64 0)
    have bez := six_below bel2 (Nat.le_refl _) (.string ⟨#[]⟩) (.int .i64 0) (.int .i64 0) (.int .i64 0) (.int .i64 0) (.int .i64 0)
    unfold six at bz bez
    obtain ⟨y0, y1, y2, y3, y4, y5⟩ := ini_cells bz
    clear hE bz
    go_wp2
    refine bodyPost_ret (v := .tuple #[iniV zini, .int .i64 _]) (by simp [results, Try.results21, go_sem, y0, y1, y2, y3, y4, y5]; rfl) rfl ?_
    rw [HE.out.1, HE.out.2]
    exact ⟨rfl, bez⟩
  rw [opL_yes hE] at HXS
  obtain ⟨hev, hkk, _, _⟩ := Sg.op_of hE
  obtain ⟨x0, x1, x2, rfl, hD0, hD1⟩ := three_of HXS.out hkk
  obtain ⟨g, rfl, q0, q1, rfl, ow0, ow1⟩ := own_three ow
  obtain ⟨t0, A0, n0, k0, d0⟩ := x0
  obtain ⟨t1, A3, n3, k3, d1⟩ := x1
  dsimp only at hD0 hD1 q0 q1
  have ow0 : Own8 w2 5 A0 n0 k0 d0 := ow0
  have ow1 : Own8 w2 5 A3 n3 k3 d1 := ow1
  have HL0 := hide ow0.1
  have HL1 := hide ow1.1
  have hcap := own8_cap ow0
  have hl0 : n0 ≤ 900000 := by have := D_le hev 0; rw [hD0, ← HL0.out, ← HN.out] at this; omega
  have hl1 : n3 ≤ 900000 := by have := D_le hev 1; rw [hD1, ← HL1.out, ← HN.out] at this; omega
  have HD0 := hide hD0
  have HD1 := hide hD1
  have HE := hide hE
  rw [hE]
  clear hE hev hkk ow hD0 hD1
  have hg : g < w2.heap.size := block_lt_of_cell (a := ⟨g, 1, none⟩) q0
  go_wp2_with fail
  refine (C12.refparseSeq_big A3 n3 k3 d1 w2 HL1.out (by omega) ow1.byt).mono ?_
  rintro e w3 ⟨rfl, b3⟩
  have bk3 := bk2.below b3 bk2.lt
  have bel3 := bnext bel2 b3
  have o3 := ow0.below b3 ow0.lt
  clear z0 z1 z2 z3 z4 z5 f0 f1 f2 f3 f4 f5 q0 q1 bk2 bel2 ow0 ow1
  by_cases h8 : n0 < 8
  · have HB := hide (pi_bad HE.out (Sg.pi_false (fun x => by have := x.2.1; rw [HD0.out, ← HL0.out] at this; omega)))
    generalize C12.psRW d1 = vW at *
    generalize C12.psRH d1 = vH at *
    generalize C12.psRG d1 = vG at *
    generalize C12.psRE d1 = vE at *
    have bkV := bk3.alloc (.cells #[.int .i64 vW, .int .i64 vH, .int .i64 vG] 23)
    have belV := bel3.alloc bel3.size (.cells #[.int .i64 vW, .int .i64 vH, .int .i64 vG] 23)
    generalize hV : w3.alloc (.cells #[.int .i64 vW, .int .i64 vH, .int .i64 vG] 23) = V at *
    obtain ⟨z0, z1, z2, z3, z4, z5⟩ := ini_cells bkV
    obtain ⟨f0, f1, f2, f3, f4, f5⟩ := ini_frozen bkV
    have bz := six_blk bkV (.string ⟨#[]⟩) (.int .i64 0) (.int .i64 0) (.int .i64 0) (.int .i64 0) (.int .i64 0)
    have bez := six_below belV (Nat.le_refl _) (.string ⟨#[]⟩) (.int .i64 0) (.int .i64 0) (.int .i64 0) (.int .i64 0) (.int .i64 0)
    unfold six at bz bez
    obtain ⟨y0, y1, y2, y3, y4, y5⟩ := ini_cells bz
    have id : (n0 : Int) < 8 := by omega
    clear bz
    subst hV
    go_wp2
    refine bodyPost_ret (v := .tuple #[iniV zini, .int .i64 171]) (by simp [results, Try.results21, go_sem, y0, y1, y2, y3, y4, y5]) rfl ?_
    rw [HB.out.1, HB.out.2]
    exact ⟨rfl, bez⟩
  · obtain ⟨m, rfl⟩ : ∃ m, n0 = m + 8 := ⟨n0 - 8, by omega⟩
    have iw : IntKind.i64.wrap (((m + 8 : Nat) : Int) - 8) = (m : Int) := by rw [IntKind.wrap_i64]; omega
    have id : decide (((m + 8 : Nat) : Int) < 8) = false := by simp; omega
    have id2 : decide ((m : Int) + 8 < 8) = false := by simp; omega
    clear h8
    cases hps : C12.psOk d1
    · have HB := hide (pi_bad HE.out (Sg.pi_false (fun x => by have := x.2.2.1; rw [HD1.out, hps] at this; cases this)))
      obtain ⟨p1, p2, p3, p4⟩ := C12.psR_no hps
      rw [p1, p2, p3, p4]
      clear hps
      have bkV := bk3.alloc (.cells #[.int .i64 0, .int .i64 0, .int .i64 0] 23)
      have belV := bel3.alloc bel3.size (.cells #[.int .i64 0, .int .i64 0, .int .i64 0] 23)
      generalize hV : w3.alloc (.cells #[.int .i64 0, .int .i64 0, .int .i64 0] 23) = V at *
      obtain ⟨z0, z1, z2, z3, z4, z5⟩ := ini_cells bkV
      obtain ⟨f0, f1, f2, f3, f4, f5⟩ := ini_frozen bkV
      have bz := six_blk bkV (.string ⟨#[]⟩) (.int .i64 0) (.int .i64 0) (.int .i64 0) (.int .i64 0) (.int .i64 0)
      have bez := six_below belV (Nat.le_refl _) (.string ⟨#[]⟩) (.int .i64 0) (.int .i64 0) (.int .i64 0) (.int .i64 0) (.int .i64 0)
      unfold six at bz bez
      obtain ⟨y0, y1, y2, y3, y4, y5⟩ := ini_cells bz
      clear bz
      subst hV
      go_wp2
      refine bodyPost_ret (v := .tuple #[iniV zini, .int .i64 171]) (by simp [results, Try.results21, go_sem, y0, y1, y2, y3, y4, y5]) rfl ?_
      rw [HB.out.1, HB.out.2]
      exact ⟨rfl, bez⟩
    · have HPC := hide (pi_cand HE.out (by rw [HD0.out, ← HL0.out]; omega) (by rw [HD1.out]; exact hps))
      have HRE := hide (C12.psR_yes hps).2.2.2
      have HCI : Hid (Sg.candI b = ⟨str (d0.take m), C12.psRW d1, C12.psRH d1, C12.psRG d1, (Bx.of4 (d0.drop m) : Int), (Bx.of4 (d0.drop (m + 4)) : Int)⟩) := by
        unfold Sg.candI
        rw [HD0.out, HD1.out, ← HL0.out, show m + 8 - 8 = m by omega]
        exact rfl
      rw [HRE.out]
      clear hps
      generalize C12.psRW d1 = vW at *
      generalize C12.psRH d1 = vH at *
      generalize C12.psRG d1 = vG at *
      have bkS := Blk.new w3 23 #[.int .i64 vW, .int .i64 vH, .int .i64 vG]
      have bkR := bk3.alloc (.cells #[.int .i64 vW, .int .i64 vH, .int .i64 vG] 23)
      have belS := bel3.alloc bel3.size (.cells #[.int .i64 vW, .int .i64 vH, .int .i64 vG] 23)
      have oS := o3.alloc (.cells #[.int .i64 vW, .int .i64 vH, .int .i64 vG] 23)
      have hgW := bk3.lt
      have iw4 : IntKind.i64.wrap ((m : Int) + 4) = (m : Int) + 4 := by rw [IntKind.wrap_i64]; omega
      have hs1 : ∀ w', Sem.run Try.prog (Instr.sliceAt 31 (.slice A0 (m + 8) k0) none (some (.int .i64 (m : Int))) none) w' = .ok (.slice A0 m k0) w' := fun w' => run_cut8h bytesT A0 (m + 8) k0 .i64 m (m : Int) rfl (by omega) w'
      have hs2 : ∀ w', Sem.run Try.prog (Instr.sliceAt 31 (.slice A0 (m + 8) k0) (some (.int .i64 (m : Int))) (some (.int .i64 ((m : Int) + 4))) none) w' = .ok (.slice (cutA A0 k0 m) 4 (k0 - m)) w' := fun w' => by
        have := run_cut8 (P := Try.prog) bytesT A0 (m + 8) k0 .i64 .i64 m (m + 4) (m : Int) ((m : Int) + 4) rfl (by omega) (by omega) (by omega) w'
        rw [show m + 4 - m = 4 by omega] at this
        exact this
      have hs3 : ∀ w', Sem.run Try.prog (Instr.sliceAt 31 (.slice A0 (m + 8) k0) (some (.int .i64 ((m : Int) + 4))) none none) w' = .ok (.slice (cutA A0 k0 (m + 4)) 4 (k0 - (m + 4))) w' := fun w' => by
        have := run_cut8l (P := Try.prog) bytesT A0 (m + 8) k0 .i64 (m + 4) ((m : Int) + 4) (by omega) (by omega) w'
        rw [show m + 8 - (m + 4) = 4 by omega] at this
        exact this
      go_wp2_with fail
      generalize hWW : w3.alloc (.cells #[.int .i64 vW, .int .i64 vH, .int .i64 vG] 23) = W at *
      have HBy := hide oS.byt
      have HLd : Hid (d0.length ≤ k0) := by rw [← HL0.out]; exact hcap
      have cv : ∀ w', Below W.heap.size W w' → Sem.run Try.prog (convert 31 9 (.slice A0 m k0)) w' = .ok (.string (str (d0.take m))) w' := fun w' h => run_conv8 bytesT Try.underlying9 A0 m k0 _ ((HBy.out.below h).take m) (by rw [List.length_take, ← HL0.out]; omega)
      have HN1 : Hid (∀ w', Below W.heap.size W w' → Calls Try.prog 43 #[.slice (cutA A0 k0 m) 4 (k0 - m)] w' fun e w'' => e = .returned (.int .i64 (Bx.of4 (d0.drop m) : Int)) ∧ Below w'.heap.size w' w'') := fun w' h => C16.of_calls _ _ _ w' (by rw [List.length_drop, ← HL0.out]; omega) ((HBy.out.below h).cut m HLd.out)
      have HN2 : Hid (∀ w', Below W.heap.size W w' → Calls Try.prog 43 #[.slice (cutA A0 k0 (m + 4)) 4 (k0 - (m + 4))] w' fun e w'' => e = .returned (.int .i64 (Bx.of4 (d0.drop (m + 4)) : Int)) ∧ Below w'.heap.size w' w'') := fun w' h => C16.of_calls _ _ _ w' (by rw [List.length_drop, ← HL0.out]; omega) ((HBy.out.below h).cut (m + 4) HLd.out)
      have HT8 : Hid ((str (d0.take m)).size ≤ 9223372036854775807) := by
        have : (str (d0.take m)).size = (d0.take m).length := rfl
        rw [this, List.length_take]
        exact (by omega : min m d0.length ≤ 9223372036854775807)
      generalize str (d0.take m) = T at *
      generalize Bx.of4 (d0.drop m) = vS at *
      generalize Bx.of4 (d0.drop (m + 4)) = vT at *
      generalize cutA A0 k0 m = Am at *
      generalize cutA A0 k0 (m + 4) = Am4 at *
      generalize k0 - m = km at *
      generalize k0 - (m + 4) = km4 at *
      generalize w3.heap.size = gs at *
      have HKS : Hid (∀ w', Below W.heap.size W w' → Below W.heap.size W w' ∧ w'.cell? ⟨gs, 0, none⟩ = some (.int .i64 vW) ∧ w'.cell? ⟨gs, 1, none⟩ = some (.int .i64 vH) ∧ w'.cell? ⟨gs, 2, none⟩ = some (.int .i64 vG)) := fun w' h => ⟨h, med_cells (bkS.below h bkS.lt)⟩
      have e0 : Below W.heap.size W W.drew := (Below.refl _ _).drew
      have ea : Below W.heap.size W (W.alloc (.cells #[.string ⟨#[]⟩, .int .i64 0, .int .i64 0, .int .i64 0, .int .i64 0, .int .i64 0] 25)).drew := ((Below.refl _ _).alloc (Nat.le_refl _) _).drew
      have bka : Blk (W.alloc (.cells #[.string ⟨#[]⟩, .int .i64 0, .int .i64 0, .int .i64 0, .int .i64 0, .int .i64 0] 25)).drew W.heap.size 25 #[.string ⟨#[]⟩, .int .i64 0, .int .i64 0, .int .i64 0, .int .i64 0, .int .i64 0] := Blk.new W _ _
      clear oS hWW HL0 HLd HBy o3 b3 bk3 bel3 hcap
      have k0' := HKS.out _ e0
      have ka' := HKS.out _ ea
      rw [HCI.out] at HPC
      go_region_held3 (fun w' => Below W.heap.size W w' ∧ w'.cell? ⟨gs, 0, none⟩ = some (.int .i64 vW) ∧ w'.cell? ⟨gs, 1, none⟩ = some (.int .i64 vH) ∧ w'.cell? ⟨gs, 2, none⟩ = some (.int .i64 vG))
        (first | with_reducible exact k0' | with_reducible exact ka' | with_reducible exact k1 | with_reducible exact k1a | with_reducible exact k2 | with_reducible exact k2a | with_reducible exact kV | (trace "KEEP"; trace_state; fail))
        (first
          | (go_at_call 43; ((with_reducible refine (HN1.out W.drew e0).mono ?_)); rintro e v1 ⟨rfl, f1⟩; have e1 : Below W.heap.size W v1 := bnext e0 f1; have k1 := HKS.out _ e1; have e1a : Below W.heap.size W (v1.alloc (.cells #[.string ⟨#[]⟩, .int .i64 0, .int .i64 0, .int .i64 0, .int .i64 0, .int .i64 0] 25)) := e1.alloc e1.size _; have k1a := HKS.out _ e1a; have bk1a := Blk.new v1 25 #[.string ⟨#[]⟩, .int .i64 0, .int .i64 0, .int .i64 0, .int .i64 0, .int .i64 0])
          | (go_at_call 43; ((with_reducible refine (HN1.out (W.alloc (.cells #[.string ⟨#[]⟩, .int .i64 0, .int .i64 0, .int .i64 0, .int .i64 0, .int .i64 0] 25)).drew ea).mono ?_)); rintro e u1 ⟨rfl, f1⟩; have e1 : Below W.heap.size W u1 := bnext ea f1; have k1 := HKS.out _ e1; have bk1 := bka.below f1 bka.lt)
          | (go_at_call 43; ((with_reducible refine (HN2.out v1 e1).mono ?_)); rintro e v2 ⟨rfl, f2⟩; have e2 : Below W.heap.size W v2 := bnext e1 f2; have k2 := HKS.out _ e2; have e2a : Below W.heap.size W (v2.alloc (.cells #[.string ⟨#[]⟩, .int .i64 0, .int .i64 0, .int .i64 0, .int .i64 0, .int .i64 0] 25)) := e2.alloc e2.size _; have k2a := HKS.out _ e2a; have eV : Below W.heap.size W (v2.alloc (.cells #[.string T, .int .i64 vW, .int .i64 vH, .int .i64 vG, .int .i64 (vS : Int), .int .i64 (vT : Int)] 25)) := e2.alloc e2.size _; have kV := HKS.out _ eV; have bkV := Blk.new v2 25 #[.string T, .int .i64 vW, .int .i64 vH, .int .i64 vG, .int .i64 (vS : Int), .int .i64 (vT : Int)])
          | (go_at_call 43; ((with_reducible refine (HN2.out (v1.alloc (.cells #[.string ⟨#[]⟩, .int .i64 0, .int .i64 0, .int .i64 0, .int .i64 0, .int .i64 0] 25)) e1a).mono ?_)); rintro e u2 ⟨rfl, f2⟩; have e2 : Below W.heap.size W u2 := bnext e1a f2; have k2 := HKS.out _ e2; have bk2a := bk1a.below f2 bk1a.lt; obtain ⟨m0, m1, m2, m3, m4, m5⟩ := ini_cells bk2a; obtain ⟨r0, r1, r2, r3, r4, r5⟩ := ini_frozen bk2a; have eV := six_below e2 e1.size (.string T) (.int .i64 vW) (.int .i64 vH) (.int .i64 vG) (.int .i64 (vS : Int)) (.int .i64 (vT : Int)); have bkV := six_blk bk2a (.string T) (.int .i64 vW) (.int .i64 vH) (.int .i64 vG) (.int .i64 (vS : Int)) (.int .i64 (vT : Int)); unfold six at eV bkV; have kV := HKS.out _ eV)
          | (go_at_call 43; ((with_reducible refine (HN2.out u1 e1).mono ?_)); rintro e u2 ⟨rfl, f2⟩; have e2 : Below W.heap.size W u2 := bnext e1 f2; have k2 := HKS.out _ e2; have bk2a := bk1.below f2 bk1.lt; obtain ⟨m0, m1, m2, m3, m4, m5⟩ := ini_cells bk2a; obtain ⟨r0, r1, r2, r3, r4, r5⟩ := ini_frozen bk2a; have eV := six_below e2 (Nat.le_refl _) (.string T) (.int .i64 vW) (.int .i64 vH) (.int .i64 vG) (.int .i64 (vS : Int)) (.int .i64 (vT : Int)); have bkV := six_blk bk2a (.string T) (.int .i64 vW) (.int .i64 vH) (.int .i64 vG) (.int .i64 (vS : Int)) (.int .i64 (vT : Int)); unfold six at eV bkV; have kV := HKS.out _ eV))
      all_goals
        have gW2 : W.heap.size ≤ W.heap.size := Nat.le_refl _
        first
          | (have gY : W.heap.size ≤ v2.heap.size := e2.size
             generalize v2.alloc (.cells #[.string T, .int .i64 vW, .int .i64 vH, .int .i64 vG, .int .i64 (vS : Int), .int .i64 (vT : Int)] 25) = V at *
             obtain ⟨gy, hgy⟩ : ∃ g, g = v2.heap.size := ⟨_, rfl⟩
             rw [← hgy] at bkV gY ⊢
             clear hgy)
          | (have gY : W.heap.size ≤ v1.heap.size := e1.size
             generalize (((((u2.setCell ⟨v1.heap.size, 0, none⟩ (.string T)).setCell ⟨v1.heap.size, 1, none⟩ (.int .i64 vW)).setCell ⟨v1.heap.size, 2, none⟩ (.int .i64 vH)).setCell ⟨v1.heap.size, 3, none⟩ (.int .i64 vG)).setCell ⟨v1.heap.size, 4, none⟩ (.int .i64 (vS : Int))).setCell ⟨v1.heap.size, 5, none⟩ (.int .i64 (vT : Int)) = V at *
             obtain ⟨gy, hgy⟩ : ∃ g, g = v1.heap.size := ⟨_, rfl⟩
             rw [← hgy] at bkV gY ⊢
             clear hgy)
          | (have gY : W.heap.size ≤ W.heap.size := Nat.le_refl _
             generalize (((((u2.setCell ⟨W.heap.size, 0, none⟩ (.string T)).setCell ⟨W.heap.size, 1, none⟩ (.int .i64 vW)).setCell ⟨W.heap.size, 2, none⟩ (.int .i64 vH)).setCell ⟨W.heap.size, 3, none⟩ (.int .i64 vG)).setCell ⟨W.heap.size, 4, none⟩ (.int .i64 (vS : Int))).setCell ⟨W.heap.size, 5, none⟩ (.int .i64 (vT : Int)) = V at *
             obtain ⟨gy, hgy⟩ : ∃ g, g = W.heap.size := ⟨_, rfl⟩
             have gY : W.heap.size ≤ gy := Nat.le_of_eq hgy.symm
             rw [← hgy] at bkV ⊢
             clear hgy)
        have bkRV := bkR.below eV bkR.lt
        have hne : w.heap.size ≠ gy := by have := bkR.lt; omega
        have belV := belS.trans (eV.mono belS.size)
        clear kV k0' ka' hs1 hs2 hs3 cv HN1 HN2 HKS
        try clear k2a
        try clear k1a
        clear k2 k1
        obtain ⟨i0, i1, i2, i3, i4, i5⟩ := ini_cells bkV
        go_wp2_with fail
        refine (refrightI_calls ⟨T, vW, vH, vG, (vS : Int), (vT : Int)⟩ V HT8.out).mono ?_
        rintro e w7 ⟨rfl, b7⟩
        have bkV7 := bkV.below b7 bkV.lt
        have bkR7 := bkRV.below b7 bkRV.lt
        have bel7 := bnext belV b7
        clear i0 i1 i2 i3 i4 i5
        obtain ⟨z0, z1, z2, z3, z4, z5⟩ := ini_cells bkR7
        obtain ⟨f0, f1, f2, f3, f4, f5⟩ := ini_frozen bkR7
        cases hri : Sg.rightI ⟨T, vW, vH, vG, (vS : Int), (vT : Int)⟩
        · have HB := hide (pi_bad HE.out (HPC.out.1.trans hri))
          have bz := six_blk bkR7 (.string ⟨#[]⟩) (.int .i64 0) (.int .i64 0) (.int .i64 0) (.int .i64 0) (.int .i64 0)
          have bez := six_below bel7 (Nat.le_refl _) (.string ⟨#[]⟩) (.int .i64 0) (.int .i64 0) (.int .i64 0) (.int .i64 0) (.int .i64 0)
          unfold six at bz bez
          obtain ⟨y0, y1, y2, y3, y4, y5⟩ := ini_cells bz
          clear bz hri
          go_wp2
          refine bodyPost_ret (v := .tuple #[iniV zini, .int .i64 171]) (by simp [results, Try.results21, go_sem, y0, y1, y2, y3, y4, y5]) rfl ?_
          rw [HB.out.1, HB.out.2]
          exact ⟨rfl, bez⟩
        · have HB := hide (Sg.pi_yes (HPC.out.1.trans hri))
          rw [HCI.out] at HB
          clear hri
          have bz := six_blk bkR7 (.string T) (.int .i64 vW) (.int .i64 vH) (.int .i64 vG) (.int .i64 (vS : Int)) (.int .i64 (vT : Int))
          have bez := six_below bel7 (Nat.le_refl _) (.string T) (.int .i64 vW) (.int .i64 vH) (.int .i64 vG) (.int .i64 (vS : Int)) (.int .i64 (vT : Int))
          unfold six at bz bez
          obtain ⟨y0, y1, y2, y3, y4, y5⟩ := ini_cells bz
          obtain ⟨x0, x1, x2, x3, x4, x5⟩ := ini_cells bkV7
          clear bz
          go_wp2
          refine bodyPost_ret (v := .tuple #[iniV ⟨T, vW, vH, vG, (vS : Int), (vT : Int)⟩, .int .i64 0]) (by simp [results, Try.results21, go_sem, y0, y1, y2, y3, y4, y5]) rfl ?_
          rw [HB.out.1, HB.out.2]
          exact ⟨rfl, bez⟩
end Go.Proofs.Ytakglalebjkpeaa.C17
