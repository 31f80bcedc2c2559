/- The media of bytes, by the contract of the program's function. Conditions: at most 900000 bytes. -/
import Derived.Test.YtakglalebjkpeaaHSegParseM
namespace Go.Proofs.Ytakglalebjkpeaa.C17
open Go.RowKit Kin Go.Proofs.Ytakglalebjkpeaa Go.Proofs.Ytakglalebjkpeaa.C16

set_option maxRecDepth 100000 in
set_option maxHeartbeats 16000000 in
theorem parseM_calls (A : Option Addr) (n c : Nat) (b : List UInt8) (w : World) (hn : n = b.length) (hc : n ≤ c) (hm : n ≤ 900000) (hA : Byt w w.heap.size A b) :
    Calls Try.prog 18 #[.slice A n c] w (RetMed w (Sg.pmR b) (Sg.pmE b)) := by
  have b0 : Below w.heap.size w (w.alloc (.cells #[.int .i64 0, .int .i64 0, .slice none 0 0] 28)) := (Below.refl _ _).alloc (Nat.le_refl _) _
  have bk := Blk.new w 28 #[.int .i64 0, .int .i64 0, .slice none 0 0]
  have HN := hide hn
  have HA := hide hA
  clear hn hA
  go_enter Try.func18, Try.ntmps18
  go_wp2_with fail
  have HRz : Hid ((w.alloc (.cells #[.int .i64 0, .int .i64 0, .slice none 0 0] 28)).heap.size = w.heap.size + 1) := World.size_alloc _ _
  generalize w.alloc (.cells #[.int .i64 0, .int .i64 0, .slice none 0 0] 28) = R at *
  have vK := Vals.newN R #[.string ⟨#[104, 101, 97, 100]⟩, .string ⟨#[116, 97, 98, 108]⟩, .string ⟨#[100, 97, 116, 97]⟩, .string ⟨#[115, 117, 109, 109]⟩] 9 (0, 0) (texts Sg.kM) rfl
  have hzK : (R.alloc (.cells #[.string ⟨#[104, 101, 97, 100]⟩, .string ⟨#[116, 97, 98, 108]⟩, .string ⟨#[100, 97, 116, 97]⟩, .string ⟨#[115, 117, 109, 109]⟩] 9)).heap.size = R.heap.size + 1 := by simp
  rw [← hzK] at vK
  have bKK : Below R.heap.size R (R.alloc (.cells #[.string ⟨#[104, 101, 97, 100]⟩, .string ⟨#[116, 97, 98, 108]⟩, .string ⟨#[100, 97, 116, 97]⟩, .string ⟨#[115, 117, 109, 109]⟩] 9)) := (Below.refl _ _).alloc (Nat.le_refl _) _
  have bkK := bk.below bKK bk.lt
  have belK := b0.trans (bKK.mono b0.size)
  clear hzK bKK
  rw [HRz.out] at vK
  generalize R.alloc (.cells #[.string ⟨#[104, 101, 97, 100]⟩, .string ⟨#[116, 97, 98, 108]⟩, .string ⟨#[100, 97, 116, 97]⟩, .string ⟨#[115, 117, 109, 109]⟩] 9) = RK at *
  refine (open_calls A (some ⟨w.heap.size + 1, 0, none⟩) n c 4 4 b Sg.kM RK HN.out hc (by omega) ((HA.out.below belK).more belK.size) rfl (by decide) vK).mono ?_
  rintro e w2 ⟨A1, n1, c1, xs, rfl, ow, hxs, g1, b1⟩
  have bk2 := bkK.below b1 bkK.lt
  have bel2 := bnext belK b1
  clear vK bkK belK b1 b0 bk g1
  have HXS := hide hxs
  clear hxs
  rcases op_small (b := b) (ks := Sg.kM) with hE | hE | hE | hE
  case' inl => skip
  case inr.inl | inr.inr.inl | inr.inr.inr =>
    obtain ⟨z0, z1, z2⟩ := med_cells bk2
    obtain ⟨f0, f1, f2⟩ := thr_frozen bk2
    have HE := hide (pm_err hE (by decide))
    rw [hE]
    have bz := thr_blk bk2 (.int .i64 0) (.int .i64 0) (.slice none 0 0)
    have bez := thr_below bel2 (Nat.le_refl _) (.int .i64 0) (.int .i64 0) (.slice none 0 0)
    unfold thr at bz bez
    obtain ⟨y0, y1, y2⟩ := med_cells bz
    clear hE bz
    go_wp2
    refine bodyPost_ret (v := .tuple #[medV 0 0 none 0 0, .int .i64 _]) (by simp [results, Try.results18, go_sem, y0, y1, y2]; rfl) rfl ?_
    rw [HE.out.1, HE.out.2]
    exact RetMed.zero _ bez
  rw [opL_yes hE] at HXS
  obtain ⟨hev, hkk, _, _⟩ := Sg.op_of hE
  obtain ⟨x0, x1, x2, x3, rfl, hD0, hD1, hD2⟩ := four_of HXS.out hkk
  obtain ⟨g, rfl, q0, q1, q2, rfl, ow0, ow1, ow2⟩ := own_four ow
  obtain ⟨t0, A0, n0, k0, d0⟩ := x0
  obtain ⟨t1, A3, n3, k3, d1⟩ := x1
  obtain ⟨t2, A4, n4, k4, d2⟩ := x2
  dsimp only at hD0 hD1 hD2 q0 q1 q2
  have oh : Own8 w2 5 A0 n0 k0 d0 := ow0
  have ot : Own8 w2 5 A3 n3 k3 d1 := ow1
  have od : Own8 w2 5 A4 n4 k4 d2 := ow2
  clear ow0 ow1 ow2
  have HLh := hide oh.1
  have HLt := hide ot.1
  have HLd := hide od.1
  have kh := own8_cap oh
  have kt := own8_cap ot
  have kd := own8_cap od
  have hl0 : n0 ≤ 900000 := by have := D_le hev 0; rw [hD0, ← HLh.out, ← HN.out] at this; omega
  have hl1 : n3 ≤ 900000 := by have := D_le hev 1; rw [hD1, ← HLt.out, ← HN.out] at this; omega
  have hl2 : n4 ≤ 900000 := by have := D_le hev 2; rw [hD2, ← HLd.out, ← HN.out] at this; omega
  have HE := hide hE
  rw [hE]
  have HBh := hide oh.byt
  have HBt := hide ot.byt
  have HBd := hide od.byt
  clear hE hev hkk ow oh ot od
  have HPH : Hid (n0 ≠ 12 → Sg.pmOk b = false) := fun h => pm_head (by rw [hD0, ← HLh.out]; exact h)
  have HPL : Hid (256 < n3 → Sg.pmOk b = false) := fun h => pm_long (by rw [hD1, ← HLt.out]; exact h)
  have HPT : Hid (n3 ≠ 4 * Bx.of4 (d0.drop 8) → Sg.pmOk b = false) := fun h => pm_table (by rw [hD0, hD1, ← HLt.out]; exact h)
  have HPN : Hid (Sg.samp (Bx.of4 (d0.drop 8)) d1 d2 = none → Sg.pmOk b = false) := fun h => pm_none (by rw [hD0, hD1, hD2]; exact h)
  have HPD : Hid (n0 = 12 → n3 = 4 * Bx.of4 (d0.drop 8) → ∀ L r, Sg.samp (Bx.of4 (d0.drop 8)) d1 d2 = some (L, r) → _) := fun h1 h2 L r h3 => pm_done (b := b) (L := L) (r := r) HE.out (by rw [hD0, ← HLh.out]; exact h1) (by rw [hD0, hD1, ← HLt.out]; exact h2) (by rw [hD0, hD1, hD2]; exact h3)
  rw [hD0, hD2] at HPD
  clear hD0 hD1 hD2
  have hg : g < w2.heap.size := block_lt_of_cell (a := ⟨g, 1, none⟩) q0
  go_wp2_with fail
  go_quiet (fail)
  have bd := dN w2 nq
  have bk3 := bk2.below bd bk2.lt
  have bel3 := bnext bel2 bd
  replace HBh := hide (HBh.out.below bd)
  replace HBt := hide (HBt.out.below bd)
  replace HBd := hide (HBd.out.below bd)
  replace HBh := hide HBh.out.here
  replace HBt := hide HBt.out.here
  replace HBd := hide HBd.out.here
  clear q0 q1 q2 bk2 bel2 bd hg
  generalize w2.drewN nq = W2 at *
  by_cases h12 : n0 = 12
  · subst h12
    by_cases h256 : 256 < n3
    · have i1 : (256 : Int) < (n3 : Int) := by omega
      obtain ⟨z0, z1, z2⟩ := med_cells bk3
      obtain ⟨f0, f1, f2⟩ := thr_frozen bk3
      have HB := hide (pm_bad HE.out (HPL.out h256))
      have bz := thr_blk bk3 (.int .i64 0) (.int .i64 0) (.slice none 0 0)
      have bez := thr_below bel3 (Nat.le_refl _) (.int .i64 0) (.int .i64 0) (.slice none 0 0)
      unfold thr at bz bez
      obtain ⟨y0, y1, y2⟩ := med_cells bz
      clear bz
      go_wp2
      refine bodyPost_ret (v := .tuple #[medV 0 0 none 0 0, .int .i64 171]) (by simp [results, Try.results18, go_sem, y0, y1, y2]) rfl ?_
      rw [HB.out.1, HB.out.2]
      exact RetMed.zero _ bez
    · have i1 : ¬ (256 : Int) < (n3 : Int) := by omega
      have hs8 : ∀ w', Sem.run Try.prog (Instr.sliceAt 31 (.slice A0 12 k0) (some (.int .i64 8)) none none) w' = .ok (.slice (cutA A0 k0 8) 4 (k0 - 8)) w' := fun w' => run_cut8l bytesT A0 12 k0 .i64 8 8 rfl (by decide) w'
      have hK := of4_lt (d0.drop 8)
      have HLd8 : Hid (d0.length ≤ k0) := by rw [← HLh.out]; exact kh
      go_wp2_with fail
      refine (number_calls (cutA A0 k0 8) 4 (k0 - 8) (d0.drop 8) W2 (by rw [List.length_drop, ← HLh.out]) (by decide) (by decide) (HBh.out.cut 8 HLd8.out)).mono ?_
      rintro e W ⟨rfl, b4⟩
      have bkW := bk3.below b4 bk3.lt
      have belW := bnext bel3 b4
      replace HBh := hide ((HBh.out.below b4).more b4.size)
      replace HBt := hide ((HBt.out.below b4).more b4.size)
      replace HBd := hide ((HBd.out.below b4).more b4.size)
      generalize Bx.of4 (d0.drop 8) = K at *
      clear hs8 bk3 bel3 b4
      have iw4 : IntKind.i64.wrap (4 * (K : Int)) = 4 * (K : Int) := by rw [IntKind.wrap_i64]; omega
      by_cases hnK : n3 = 4 * K
      · have i2 : (n3 : Int) = 4 * (K : Int) := by omega
        have hk64 : K ≤ 64 := by omega
        have HnK := hide hnK
        have HPD2 := hide (HPD.out trivial hnK)
        subst hnK
        have hs4 : ∀ w', Sem.run Try.prog (Instr.sliceAt 31 (.slice A0 12 k0) (some (.int .i64 4)) none none) w' = .ok (.slice (cutA A0 k0 4) 8 (k0 - 4)) w' := fun w' => run_cut8l bytesT A0 12 k0 .i64 4 4 rfl (by decide) w'
        have HN1 : Hid (∀ w', Below W.heap.size W w' → Calls Try.prog 36 #[.slice A0 12 k0] w' fun e w'' => e = .returned (.int .i64 (Bx.of4 d0 : Int)) ∧ Below w'.heap.size w' w'') := fun w' h => number_calls _ 12 _ _ w' HLh.out (by decide) (by decide) (HBh.out.below h)
        have HN2 : Hid (∀ w', Below W.heap.size W w' → Calls Try.prog 36 #[.slice (cutA A0 k0 4) 8 (k0 - 4)] w' fun e w'' => e = .returned (.int .i64 (Bx.of4 (d0.drop 4) : Int)) ∧ Below w'.heap.size w' w'') := fun w' h => number_calls _ 8 _ _ w' (by rw [List.length_drop, ← HLh.out]) (by decide) (by decide) ((HBh.out.below h).cut 4 HLd8.out)
        generalize Bx.of4 d0 = a at *
        generalize Bx.of4 (d0.drop 4) = f at *
        generalize cutA A0 k0 4 = Am at *
        generalize k0 - 4 = km at *
        go_wp2_with fail
        have e0 : Below W.heap.size W W.drew := (Below.refl _ _).drew
        have ea : Below W.heap.size W (W.alloc (.cells #[.int .i64 0, .int .i64 0, .slice none 0 0] 28)).drew := ((Below.refl _ _).alloc (Nat.le_refl _) _).drew
        have bka : Blk (W.alloc (.cells #[.int .i64 0, .int .i64 0, .slice none 0 0] 28)).drew W.heap.size 28 #[.int .i64 0, .int .i64 0, .slice none 0 0] := Blk.new W _ _
        go_region_held3 (fun w' => Below W.heap.size W w')
          (first | with_reducible exact e0 | with_reducible exact ea | with_reducible exact e1 | with_reducible exact e1a | with_reducible exact e2 | with_reducible exact e2a | with_reducible exact eV | (trace "KEEP"; trace_state; fail))
          (first
            | (go_at_call 36; ((with_reducible refine (HN1.out W.drew e0).mono ?_)); rintro e v1 ⟨rfl, f1⟩; have e1 : Below W.heap.size W v1 := bnext e0 f1; have e1a : Below W.heap.size W (v1.alloc (.cells #[.int .i64 0, .int .i64 0, .slice none 0 0] 28)) := e1.alloc e1.size _; have bk1a := Blk.new v1 28 #[.int .i64 0, .int .i64 0, .slice none 0 0])
            | (go_at_call 36; ((with_reducible refine (HN1.out (W.alloc (.cells #[.int .i64 0, .int .i64 0, .slice none 0 0] 28)).drew ea).mono ?_)); rintro e u1 ⟨rfl, f1⟩; have e1 : Below W.heap.size W u1 := bnext ea f1; have bk1 := bka.below f1 bka.lt)
            | (go_at_call 36; ((with_reducible refine (HN2.out v1 e1).mono ?_)); rintro e v2 ⟨rfl, f2⟩; have e2 : Below W.heap.size W v2 := bnext e1 f2; have e2a : Below W.heap.size W (v2.alloc (.cells #[.int .i64 0, .int .i64 0, .slice none 0 0] 28)) := e2.alloc e2.size _; have eV : Below W.heap.size W (v2.alloc (.cells #[.int .i64 (a : Int), .int .i64 (f : Int), .slice none 0 0] 28)) := e2.alloc e2.size _; have bkV := Blk.new v2 28 #[.int .i64 (a : Int), .int .i64 (f : Int), .slice none 0 0])
            | (go_at_call 36; ((with_reducible refine (HN2.out (v1.alloc (.cells #[.int .i64 0, .int .i64 0, .slice none 0 0] 28)) e1a).mono ?_)); rintro e u2 ⟨rfl, f2⟩; have e2 : Below W.heap.size W u2 := bnext e1a f2; have bk2a := bk1a.below f2 bk1a.lt; obtain ⟨m0, m1, m2⟩ := med_cells bk2a; obtain ⟨r0, r1, r2⟩ := thr_frozen bk2a; have eV := thr_below e2 e1.size (.int .i64 (a : Int)) (.int .i64 (f : Int)) (.slice none 0 0); have bkV := thr_blk bk2a (.int .i64 (a : Int)) (.int .i64 (f : Int)) (.slice none 0 0); unfold thr at eV bkV)
            | (go_at_call 36; ((with_reducible refine (HN2.out u1 e1).mono ?_)); rintro e u2 ⟨rfl, f2⟩; have e2 : Below W.heap.size W u2 := bnext e1 f2; have bk2a := bk1.below f2 bk1.lt; obtain ⟨m0, m1, m2⟩ := med_cells bk2a; obtain ⟨r0, r1, r2⟩ := thr_frozen bk2a; have eV := thr_below e2 (Nat.le_refl _) (.int .i64 (a : Int)) (.int .i64 (f : Int)) (.slice none 0 0); have bkV := thr_blk bk2a (.int .i64 (a : Int)) (.int .i64 (f : Int)) (.slice none 0 0); unfold thr at eV bkV))
        all_goals
          first
            | (have gY : W.heap.size ≤ v2.heap.size := e2.size
               generalize v2.alloc (.cells #[.int .i64 (a : Int), .int .i64 (f : Int), .slice none 0 0] 28) = V at *
               obtain ⟨gy, hgy⟩ : ∃ g, g = v2.heap.size := ⟨_, rfl⟩
               rw [← hgy] at bkV gY ⊢
               clear hgy)
            | (have gY : W.heap.size ≤ v1.heap.size := e1.size
               generalize ((u2.setCell ⟨v1.heap.size, 0, none⟩ (.int .i64 (a : Int))).setCell ⟨v1.heap.size, 1, none⟩ (.int .i64 (f : Int))).setCell ⟨v1.heap.size, 2, none⟩ (.slice none 0 0) = V at *
               obtain ⟨gy, hgy⟩ : ∃ g, g = v1.heap.size := ⟨_, rfl⟩
               rw [← hgy] at bkV gY ⊢
               clear hgy)
            | (generalize ((u2.setCell ⟨W.heap.size, 0, none⟩ (.int .i64 (a : Int))).setCell ⟨W.heap.size, 1, none⟩ (.int .i64 (f : Int))).setCell ⟨W.heap.size, 2, none⟩ (.slice none 0 0) = V at *
               obtain ⟨gy, hgy⟩ : ∃ g, g = W.heap.size := ⟨_, rfl⟩
               have gY : W.heap.size ≤ gy := Nat.le_of_eq hgy.symm
               rw [← hgy] at bkV ⊢
               clear hgy)
          clear HN1 HN2 hs4 bka e0 ea
          go_wp2_with fail
          go_loopw [7, 8] (fun tv dv wr => ∃ (k nt ct nd cd ns cs : Nat) (At Ad As : Option Addr) (xs : List Sg.Smp) (t' d' : List UInt8), tv = .slice At nt ct ∧ dv = .slice Ad nd cd ∧ nt = 4 * k ∧ nt ≤ ct ∧ nd ≤ cd ∧ nd ≤ 900000 ∧ ns + k ≤ 64 ∧ Hid (nt = t'.length) ∧ Hid (nd = d'.length) ∧ Hid (∀ w', Below W.heap.size W w' → Byt w' W.heap.size At t') ∧ Hid (∀ w', Below W.heap.size W w' → Byt w' W.heap.size Ad d') ∧ Hid (Sg.samp K d1 d2 = (Sg.samp k t' d').map fun x => (Sg.dats xs ++ x.1, x.2)) ∧ OwnS wr As ns cs xs ∧ (∀ g, blkOf As = some g → W.heap.size ≤ g) ∧ Blk wr gy 28 #[.int .i64 (a : Int), .int .i64 (f : Int), .slice As ns cs] ∧ Below W.heap.size W wr) (fun tv _ _ => slen tv)
          case atStart => exact ⟨K, 4 * K, k3, n4, k4, 0, 0, A3, A4, none, [], d1, d2, rfl, rfl, rfl, kt, kd, hl2, by omega, HLt, HLd, fun w' h => HBt.out.below h, fun w' h => HBd.out.below h, (by show _ = _; cases Sg.samp K d1 d2 <;> simp [Sg.dats]), OwnS.nil _, by intro g hg; simp [blkOf] at hg, bkV, eV⟩
          case round =>
            obtain ⟨k, nt, ct, nd, cd, ns, cs, At, Ad, As, xs, t', d', rfl, rfl, hnt, hct, hcd, hnd, hsk, HLt', HLd', HBt', HBd', HSM, own, gA, bkr, bel⟩ := hrel
            clear bkV eV
            have HNT := hide hnt
            have bkRr := bkW.below bel bkW.lt
            have belr := bnext belW bel
            have hgne : w.heap.size ≠ gy := by have := bkW.lt; omega
            rcases k with _ | k
            · have h0 : nt = 0 := by omega
              subst h0
              clear hnt
              have HSE := hide (samp_end HSM.out)
              obtain ⟨hc1, hc2, hc3, hc4, hc5, hc6, hc7⟩ := HPD2.out (Sg.dats xs) d' HSE.out
              have hn64 : ns ≤ 64 := by omega
              have HTT : Hid ((Sg.dats xs).flatten.length ≤ 1099511627776) := by rw [← HLd.out] at hc2; exact (by omega : (Sg.dats xs).flatten.length ≤ 1099511627776)
              have HCM := hide hc1
              have HC4 := hide hc4
              have HC5 := hide hc5
              rw [hc1] at HC4 HC5
              clear hc1 hc2 hc3 hc4 hc5 hc6 hc7
              obtain ⟨m0, m1, m2⟩ := med_cells bkr
              go_wp2_with fail
              refine (writeM_calls (a : Int) (f : Int) As ns cs xs wr own.len (by omega) own.samps HTT.out).mono ?_
              rintro e w8 ⟨A8, n8, c8, rfl, o8, g8, b8⟩
              have bkR8 := bkRr.below b8 bkRr.lt
              have bel8 := bnext belr b8
              have own8 := own.next b8
              have bkm8 := bkr.below b8 bkr.lt
              clear m0 m1 m2
              cases hri : Sg.rightM ⟨(a : Int), (f : Int), Sg.dats xs⟩
              · rw [(Sg.wm_no hri).2]
                have HQ := hide (HC4.out hri)
                clear hri
                obtain ⟨z0, z1, z2⟩ := med_cells bkR8
                obtain ⟨f0, f1, f2⟩ := thr_frozen bkR8
                have HB := hide (pm_bad HE.out (HQ.out))
                have bz := thr_blk bkR8 (.int .i64 0) (.int .i64 0) (.slice none 0 0)
                have bez := thr_below bel8 (Nat.le_refl _) (.int .i64 0) (.int .i64 0) (.slice none 0 0)
                unfold thr at bz bez
                obtain ⟨y0, y1, y2⟩ := med_cells bz
                clear bz
                go_wp2
                refine bodyPost_ret (v := .tuple #[medV 0 0 none 0 0, .int .i64 171]) (by simp [results, Try.results18, go_sem, y0, y1, y2]) rfl ?_
                rw [HB.out.1, HB.out.2]
                exact RetMed.zero _ bez
              · rw [(Sg.wm_yes hri).2]
                rw [(Sg.wm_yes hri).1] at o8
                have HIF := hide (HC5.out hri)
                have HEq := hide (bytesEqual_calls A8 A n8 c8 n c _ b w8 o8.1 HN.out o8.byt (HA.out.below bel8))
                clear hri
                by_cases hf : Sg.fileM ⟨(a : Int), (f : Int), Sg.dats xs⟩ = b
                · have HB := hide (Sg.pm_yes (HIF.out.1 hf))
                  rw [HCM.out] at HB
                  rw [decide_eq_true hf] at HEq
                  clear hf
                  obtain ⟨z0, z1, z2⟩ := med_cells bkR8
                  obtain ⟨f0, f1, f2⟩ := thr_frozen bkR8
                  obtain ⟨m0, m1, m2⟩ := med_cells bkm8
                  have bz := thr_blk bkR8 (.int .i64 (a : Int)) (.int .i64 (f : Int)) (.slice As ns cs)
                  have bez := thr_below bel8 (Nat.le_refl _) (.int .i64 (a : Int)) (.int .i64 (f : Int)) (.slice As ns cs)
                  have oz := thr_owns own8 bkR8 (.int .i64 (a : Int)) (.int .i64 (f : Int)) (.slice As ns cs)
                  unfold thr at bz bez oz
                  obtain ⟨y0, y1, y2⟩ := med_cells bz
                  clear bz
                  go_wp2_with fail
                  refine HEq.out.mono ?_
                  rintro e w9 ⟨rfl, rfl⟩
                  go_wp2
                  refine bodyPost_ret (v := .tuple #[medV (a : Int) (f : Int) As ns cs, .int .i64 0]) (by simp [results, Try.results18, go_sem, y0, y1, y2]) rfl ?_
                  rw [HB.out.1, HB.out.2]
                  exact ⟨As, ns, cs, xs, rfl, oz.samps, rfl, oz.len, by omega, bez⟩
                · have HQ : Hid (Sg.pmOk b = false) := by
                    cases hq : Sg.pmOk b
                    · exact rfl
                    · exact absurd (HIF.out.2 hq) hf
                  rw [decide_eq_false hf] at HEq
                  clear hf
                  obtain ⟨z0, z1, z2⟩ := med_cells bkR8
                  obtain ⟨f0, f1, f2⟩ := thr_frozen bkR8
                  have HB := hide (pm_bad HE.out HQ.out)
                  have bz := thr_blk bkR8 (.int .i64 0) (.int .i64 0) (.slice none 0 0)
                  have bez := thr_below bel8 (Nat.le_refl _) (.int .i64 0) (.int .i64 0) (.slice none 0 0)
                  unfold thr at bz bez
                  obtain ⟨y0, y1, y2⟩ := med_cells bz
                  clear bz
                  go_wp2_with fail
                  refine HEq.out.mono ?_
                  rintro e w9 ⟨rfl, rfl⟩
                  go_wp2
                  refine bodyPost_ret (v := .tuple #[medV 0 0 none 0 0, .int .i64 171]) (by simp [results, Try.results18, go_sem, y0, y1, y2]) rfl ?_
                  rw [HB.out.1, HB.out.2]
                  exact RetMed.zero _ bez
            · have h4 : 4 ≤ nt := by omega
              have hk' : nt - 4 = 4 * k := by omega
              have HK' := hide hk'
              clear hnt hk'
              have i0 : (0 : Int) < (nt : Int) := by omega
              go_wp2_with fail
              refine (number_calls At nt ct t' wr HLt'.out h4 (by have := hct; have := HNT.out; omega) (HBt'.out wr bel)).mono ?_
              rintro e w5 ⟨rfl, b5⟩
              have bk5 := bkr.below b5 bkr.lt
              have bkR5 := bkRr.below b5 bkRr.lt
              have belr5 := bnext belr b5
              have bel5 := bnext bel b5
              have own5 := own.next b5
              have hv9 := of4_lt t'
              by_cases hv : nd < Bx.of4 t'
              · have HQ := hide (HPN.out (samp_stop HSM.out (by rw [← HLd'.out]; exact hv)))
                have i1' : (nd : Int) < ((Bx.of4 t' : Nat) : Int) := by omega
                obtain ⟨z0, z1, z2⟩ := med_cells bkR5
                obtain ⟨f0, f1, f2⟩ := thr_frozen bkR5
                have HB := hide (pm_bad HE.out (HQ.out))
                have bz := thr_blk bkR5 (.int .i64 0) (.int .i64 0) (.slice none 0 0)
                have bez := thr_below belr5 (Nat.le_refl _) (.int .i64 0) (.int .i64 0) (.slice none 0 0)
                unfold thr at bz bez
                obtain ⟨y0, y1, y2⟩ := med_cells bz
                clear bz
                go_wp2
                refine bodyPost_ret (v := .tuple #[medV 0 0 none 0 0, .int .i64 171]) (by simp [results, Try.results18, go_sem, y0, y1, y2]) rfl ?_
                rw [HB.out.1, HB.out.2]
                exact RetMed.zero _ bez
              · have HST := hide (samp_step HSM.out (by rw [← HLd'.out]; omega))
                have i1' : ¬ (nd : Int) < ((Bx.of4 t' : Nat) : Int) := by omega
                have HTk : Hid (Bx.of4 t' = (d'.take (Bx.of4 t')).length) := by rw [List.length_take, ← HLd'.out]; exact (by omega : Bx.of4 t' = min (Bx.of4 t') nd)
                have HDr : Hid (nd - Bx.of4 t' = (d'.drop (Bx.of4 t')).length) := by rw [List.length_drop, ← HLd'.out]; exact rfl
                have HTr : Hid (nt - 4 = (t'.drop 4).length) := by rw [List.length_drop, ← HLt'.out]; exact rfl
                have HBdt : Hid (∀ w', Below W.heap.size W w' → Byt w' W.heap.size Ad (d'.take (Bx.of4 t'))) := fun w' h => (HBd'.out w' h).take _
                have HBdd : Hid (∀ w', Below W.heap.size W w' → Byt w' W.heap.size (cutA Ad cd (Bx.of4 t')) (d'.drop (Bx.of4 t'))) := fun w' h => (HBd'.out w' h).cut _ (by rw [← HLd'.out]; exact hcd)
                have HBtt : Hid (∀ w', Below W.heap.size W w' → Byt w' W.heap.size (cutA At ct 4) (t'.drop 4)) := fun w' h => (HBt'.out w' h).cut _ (by rw [← HLt'.out]; exact hct)
                have hs1 : ∀ w', Sem.run Try.prog (Instr.sliceAt 31 (.slice Ad nd cd) none (some (.int .i64 ((Bx.of4 t' : Nat) : Int))) none) w' = .ok (.slice Ad (Bx.of4 t') cd) w' := fun w' => run_cut8h bytesT Ad nd cd .i64 _ _ rfl (by omega) w'
                have hs2 : ∀ w', Sem.run Try.prog (Instr.sliceAt 31 (.slice Ad nd cd) (some (.int .i64 ((Bx.of4 t' : Nat) : Int))) none none) w' = .ok (.slice (cutA Ad cd (Bx.of4 t')) (nd - Bx.of4 t') (cd - Bx.of4 t')) w' := fun w' => run_cut8l bytesT Ad nd cd .i64 _ _ rfl (by omega) w'
                have hs3 : ∀ w', Sem.run Try.prog (Instr.sliceAt 31 (.slice At nt ct) (some (.int .i64 4)) none none) w' = .ok (.slice (cutA At ct 4) (nt - 4) (ct - 4)) w' := fun w' => run_cut8l bytesT At nt ct .i64 4 4 rfl h4 w'
                have hnd2 : nd - Bx.of4 t' ≤ 900000 := by omega
                have hcd2 : nd - Bx.of4 t' ≤ cd - Bx.of4 t' := by omega
                have hct2 : nt - 4 ≤ ct - 4 := by omega
                have hv8 : Bx.of4 t' ≤ 900000 := by omega
                have hslt : nt - 4 < nt := by omega
                generalize hvv : Bx.of4 t' = v at *
                clear hvv
                generalize d'.take v = dt at *
                generalize d'.drop v = dd at *
                generalize t'.drop 4 = tt at *
                generalize cutA Ad cd v = Ad2 at *
                generalize cutA At ct 4 = At2 at *
                generalize nd - v = nd2 at *
                generalize cd - v = cd2 at *
                generalize ct - 4 = ct2 at *
                obtain ⟨nt2, hnt2⟩ : ∃ x, x = nt - 4 := ⟨_, rfl⟩
                rw [← hnt2] at hs3 HTr hct2 hslt HK'
                clear hnt2 b5 own
                have bkd := bk5.drew
                have eld : Below W.heap.size W w5.drew := bel5.drew
                have ownd : OwnS w5.drew As ns cs xs := own5
                have cd0 : w5.drew.cell? ⟨gy, 2, none⟩ = some (.slice As ns cs) := bkd.cell 2
                go_wp2_with fail
                go_region_law
                  (first
                    | (go_simp; go_at_call 37; refine (clone_calls Ad v cd dt w5.drew HTk.out (by omega) (HBdt.out _ eld)).mono ?_; rintro e w6 ⟨A6, n6, c6, rfl, o6, g6, b6⟩; have bk6 := bkd.below b6 bkd.lt; have el6 := bnext eld b6; have own6 := ownd.next b6; have c60 : w6.cell? ⟨gy, 2, none⟩ = some (.slice As ns cs) := bk6.cell 2; have bk6a := bk6.alloc (.cells #[.slice A6 n6 c6] 31); have c6a : (w6.alloc (.cells #[.slice A6 n6 c6] 31)).cell? ⟨gy, 2, none⟩ = some (.slice As ns cs) := bk6a.cell 2; have ro6 := own6.1.alloc (.cells #[.slice A6 n6 c6] 31); have rec6 := Recs.new w6 #[.slice A6 n6 c6] 31 (0, 0) 1 [.slice A6 n6 c6] rfl rfl; dsimp only)
                    | (refine step_appendR (by rfl) (.tmp 71) (.tmp 76) 26 31 1 24 (by rfl) smpsT As ns cs (smpRows xs) (by rfl) ro6 (w6.heap.size + 1) (some ⟨w6.heap.size, 0, none⟩) 1 1 [[.slice A6 n6 c6]] (by rfl) rec6 (by rfl) (by simp) (by simp [Value.oneCell']) (by omega) (by unfold maxLen; omega) ?_; intro A7 c7 w7 own7 grow7 at7; obtain ⟨F1, F2, F3, F4⟩ := OwnS.app (i := 2) (x := ⟨A6, n6, c6, dt⟩) own6 o6 bk6 el6 gA gY own7 grow7 at7; have k7 : w7.cell? ⟨gy, 2, none⟩ = some (.slice As ns cs) := F3.cell 2; have k7f := F3.frozen 2; have bk7s := F3.set_ 2 (.slice A7 (ns + 1) c7)))
                all_goals
                  have bkF : Blk (w7.setCell ⟨gy, 2, none⟩ (.slice A7 (ns + 1) c7)) gy 28 #[.int .i64 (a : Int), .int .i64 (f : Int), .slice A7 (ns + 1) c7] := bk7s
                  clear bk7s k7 k7f F3 own7 grow7 at7 c60 c6a ro6 rec6 bk6a bk6 el6 own6 o6 g6 b6 cd0 ownd eld bkd bk5 own5 bel5
                  generalize w7.setCell ⟨gy, 2, none⟩ (.slice A7 (ns + 1) c7) = V7 at *
                  go_wp2
                  go_roundw
                  case rel => exact ⟨k, nt2, ct2, nd2, cd2, ns + 1, c7, At2, Ad2, A7, xs ++ [⟨A6, n6, c6, dt⟩], tt, dd, rfl, rfl, HK'.out, hct2, hcd2, hnd2, by omega, HTr, HDr, HBtt, HBdd, (by rw [HST.out]; simp only [Sg.dats, List.map_append, List.map_cons, List.map_nil]; exact trivial), F1, F2, bkF, F4⟩
                  case measure => simpa [slen] using hslt
      · have i2 : ¬ (n3 : Int) = 4 * (K : Int) := by omega
        obtain ⟨z0, z1, z2⟩ := med_cells bkW
        obtain ⟨f0, f1, f2⟩ := thr_frozen bkW
        have HB := hide (pm_bad HE.out (HPT.out hnK))
        have bz := thr_blk bkW (.int .i64 0) (.int .i64 0) (.slice none 0 0)
        have bez := thr_below belW (Nat.le_refl _) (.int .i64 0) (.int .i64 0) (.slice none 0 0)
        unfold thr at bz bez
        obtain ⟨y0, y1, y2⟩ := med_cells bz
        clear bz
        go_wp2
        refine bodyPost_ret (v := .tuple #[medV 0 0 none 0 0, .int .i64 171]) (by simp [results, Try.results18, go_sem, y0, y1, y2]) rfl ?_
        rw [HB.out.1, HB.out.2]
        exact RetMed.zero _ bez
  · have i1 : ¬ (n0 : Int) = 12 := by omega
    obtain ⟨z0, z1, z2⟩ := med_cells bk3
    obtain ⟨f0, f1, f2⟩ := thr_frozen bk3
    have HB := hide (pm_bad HE.out (HPH.out h12))
    have bz := thr_blk bk3 (.int .i64 0) (.int .i64 0) (.slice none 0 0)
    have bez := thr_below bel3 (Nat.le_refl _) (.int .i64 0) (.int .i64 0) (.slice none 0 0)
    unfold thr at bz bez
    obtain ⟨y0, y1, y2⟩ := med_cells bz
    clear bz
    go_wp2
    refine bodyPost_ret (v := .tuple #[medV 0 0 none 0 0, .int .i64 171]) (by simp [results, Try.results18, go_sem, y0, y1, y2]) rfl ?_
    rw [HB.out.1, HB.out.2]
    exact RetMed.zero _ bez
end Go.Proofs.Ytakglalebjkpeaa.C17
