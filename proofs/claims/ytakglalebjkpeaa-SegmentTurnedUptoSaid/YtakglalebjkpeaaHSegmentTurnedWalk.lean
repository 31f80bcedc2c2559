/- The statement SegmentTurned walked: it answers true. Conditions: all samples' lengths together are at most 2^40. -/
import Derived.Test.YtakglalebjkpeaaHLaw17Alive
import Derived.Test.YtakglalebjkpeaaHSegTurn
namespace Go.Proofs.Ytakglalebjkpeaa.C17
open Go.RowKit Kin Go.Proofs.Ytakglalebjkpeaa Go.Proofs.Ytakglalebjkpeaa.C16

theorem tbit_yes {x j : Nat} (h : (((x : Int) / 2 ^ j).tmod 2 == 1) = true) : x / 2 ^ j % 2 = 1 := by
  have e : (x : Int) / 2 ^ j = ((x / 2 ^ j : Nat) : Int) := by simp
  rw [e] at h
  generalize x / 2 ^ j = y at *
  simp only [beq_iff_eq] at h
  rw [Int.tmod_eq_emod_of_nonneg (by omega)] at h
  omega
theorem tbit_no {x j : Nat} (h : (((x : Int) / 2 ^ j).tmod 2 == 1) = false) : ¬ x / 2 ^ j % 2 = 1 := by
  have e : (x : Int) / 2 ^ j = ((x / 2 ^ j : Nat) : Int) := by simp
  rw [e] at h
  generalize x / 2 ^ j = y at *
  simp only [beq_eq_false_iff_ne, ne_eq] at h
  rw [Int.tmod_eq_emod_of_nonneg (by omega)] at h
  omega
theorem u8_flip (b : UInt8) (i : Nat) : bits BinOp.xor IntKind.u8 (b.toNat : Int) ((2 : Int) ^ (i % 8) % 256) = ((b ^^^ UInt8.ofNat (2 ^ (i % 8))).toNat : Int) := by
  have hp : i % 8 < 8 := Nat.mod_lt _ (by omega)
  have h8 : 2 ^ (i % 8) < 2 ^ 8 := Nat.pow_lt_pow_right (by omega) hp
  have h2 : (UInt8.ofNat (2 ^ (i % 8))).toNat = 2 ^ (i % 8) := by rw [UInt8.toNat_ofNat_of_lt']; exact h8
  have e := u8_xor_nat b.toNat (2 ^ (i % 8)) b.toNat_lt h8
  rw [UInt8.toNat_xor, h2, ← e]
  congr 1
  have : ((2 ^ (i % 8) : Nat) : Int) = (2 : Int) ^ (i % 8) := by simp
  rw [← this]
  omega

theorem u8_flip' (b : UInt8) (i : Nat) : ∃ x : UInt8, bits BinOp.xor IntKind.u8 (b.toNat : Int) ((2 : Int) ^ (i % 8) % 256) = (x.toNat : Int) ∧ Hid (x = b ^^^ UInt8.ofNat (2 ^ (i % 8))) := ⟨_, u8_flip b i, rfl⟩
theorem flip_eq {l : List UInt8} {i : Nat} {b x : UInt8} (hb : l[i / 8]? = some b) (hx : x = b ^^^ UInt8.ofNat (2 ^ (i % 8))) : l.set (i / 8) x = Crc.flip l i := by
  unfold Crc.flip
  rw [hx, List.getD, hb]; rfl
theorem fileM_lens {m : Sg.Med} (h : Sg.rightM m = true) : (Sg.fileM m).length ≤ 800000 ∧ 48 ≤ (Sg.fileM m).length := by
  unfold Sg.fileM
  rw [Sg.length_seal (Sg.boxM_right h), Sg.sizes_boxM]
  have := Sg.rightM_of h
  omega
theorem arr_cells {w : World} {g : Nat} {t : TypeId} {x y : Value} (h : Blk w g t #[x, y]) : w.cell? ⟨g, 0, none⟩ = some x ∧ w.cell? ⟨g, 1, none⟩ = some y := ⟨h.cell 0, h.cell 1⟩

set_option maxRecDepth 100000 in
set_option maxHeartbeats 8000000 in
theorem segmentTurned_walk (N F : Int) (A : Option Addr) (n c : Nat) (xs : List Sg.Smp) (p0 p1 x0 : Int) (w : World) (hn : n = xs.length) (hm : n ≤ 9223372036854775807) (hA : Sg.Samps w w.heap.size A xs) (hT : (Sg.dats xs).flatten.length ≤ 1099511627776)
    (wp0 : (Lit.int .i64 p0).wf = true) (_wp1 : (Lit.int .i64 p1).wf = true) (wx : (Lit.int .u32 x0).wf = true) :
    Calls Try.prog 4 #[.agg #[.int .i64 N, .int .i64 F, .slice A n c], .agg #[.int .i64 p0, .int .i64 p1], .int .u32 x0] w (C16.RetBool w true) := by
  have hbx := bounds_u32 wx
  obtain ⟨x, rfl⟩ := Int.eq_ofNat_of_zero_le (show 0 ≤ x0 by omega)
  have hx32 : x < 4294967296 := by omega
  clear hbx wx
  have b0 : Below w.heap.size w ((w.alloc (.cells #[.int .i64 N, .int .i64 F, .slice A n c] 28)).alloc (.cells #[.int .i64 p0, .int .i64 p1] 38)) := ((Below.refl w.heap.size w).alloc (Nat.le_refl _) _).alloc (by simp) _
  have bM := (Blk.new w 28 #[.int .i64 N, .int .i64 F, .slice A n c]).alloc (.cells #[.int .i64 p0, .int .i64 p1] 38)
  have bP := Blk.new (w.alloc (.cells #[.int .i64 N, .int .i64 F, .slice A n c] 28)) 38 #[.int .i64 p0, .int .i64 p1]
  rw [World.size_alloc] at bP
  have HS : Hid (∀ w', Below w.heap.size w w' → Sg.Samps w' w'.heap.size A xs) := fun w' h => hA.of_below h
  have HF := hide (fits_calls N F A n c xs _ hn hm (HS.out _ b0) hT)
  have HWM : Hid (∀ w', Below w.heap.size w w' → _) := fun w' h => writeM_calls N F A n c xs w' hn hm (HS.out w' h) hT
  have HN := hide hn
  clear hn hA hT
  obtain ⟨d0, d1, d2⟩ := med_cells bM
  obtain ⟨q0, q1⟩ := arr_cells bP
  go_enter Try.func4, Try.ntmps4
  go_wp2_with fail
  generalize (w.alloc (.cells #[.int .i64 N, .int .i64 F, .slice A n c] 28)).alloc (.cells #[.int .i64 p0, .int .i64 p1] 38) = V at *
  refine HF.out.mono ?_
  rintro e w1 ⟨rfl, b1⟩
  have bel1 := bnext b0 b1
  have bM1 := bM.below b1 bM.lt
  have bP1 := bP.below b1 bP.lt
  clear d0 d1 d2 q0 q1 bM bP b0 b1 HF
  obtain ⟨d0, d1, d2⟩ := med_cells bM1
  go_wp2_with fail
  refine (HWM.out w1 bel1).mono ?_
  rintro e w2 ⟨A2, n2, k2, rfl, o2, g2, b2⟩
  have bel2 := bnext bel1 b2
  have bP2 := bP1.below b2 bP1.lt
  clear d0 d1 d2 bM1 bP1 b2
  obtain ⟨q0, q1⟩ := arr_cells bP2
  generalize hff : Sg.fits (Sg.dats xs) = ff at *
  clear hff
  cases hr : Sg.rightM ⟨N, F, Sg.dats xs⟩
  · rw [(Sg.wm_no hr).2]
    cases ff
    all_goals
      go_wp2_with fail
      refine (alive17_calls _).mono ?_
      rintro e w3 ⟨rfl, b3⟩
      go_wp2
      go_ret
      exact ⟨rfl, bnext bel2 b3⟩
  · rw [(Sg.wm_yes hr).2]
    rw [(Sg.wm_yes hr).1] at o2
    obtain ⟨l1, l2⟩ := fileM_lens hr
    have hpk := (Sg.pm_back hr).1
    generalize Sg.fileM ⟨N, F, Sg.dats xs⟩ = l at *
    have HL := hide o2.1
    have h48 : 48 ≤ n2 := by rw [o2.1]; exact l2
    have h9 : n2 ≤ 800000 := by rw [o2.1]; exact l1
    clear l1 l2 hr
    have z12 : decide ((n2 : Int) < 12) = false := by simp; omega
    by_cases hbad : ff = false ∨ p0 < 0 ∨ 8 * (n2 : Int) - 32 < p0 ∨ x = 0
    · have hb4 : ff = false ∨ (ff = true ∧ p0 < 0) ∨ (ff = true ∧ 0 ≤ p0 ∧ 8 * (n2 : Int) - 32 < p0) ∨ (ff = true ∧ 0 ≤ p0 ∧ p0 ≤ 8 * (n2 : Int) - 32 ∧ x = 0) := by
        cases ff
        · exact .inl rfl
        · refine .inr ?_
          rcases hbad with h | h | h | h
          · cases h
          · exact .inl ⟨rfl, h⟩
          · by_cases h0 : p0 < 0
            · exact .inl ⟨rfl, h0⟩
            · exact .inr (.inl ⟨rfl, by omega, h⟩)
          · by_cases h0 : p0 < 0
            · exact .inl ⟨rfl, h0⟩
            · by_cases h1 : 8 * (n2 : Int) - 32 < p0
              · exact .inr (.inl ⟨rfl, by omega, h1⟩)
              · exact .inr (.inr ⟨rfl, by omega, by omega, h⟩)
      clear hbad
      rcases hb4 with hf | ⟨hf, i1⟩ | ⟨hf, i1, i2⟩ | ⟨hf, i1, i2, rfl⟩
      all_goals
        rw [hf]
        go_wp2_with fail
        refine (alive17_calls _).mono ?_
        rintro e w3 ⟨rfl, b3⟩
        go_wp2
        go_ret
        exact ⟨rfl, bnext bel2 b3⟩
    · have hf : ff = true := by
        cases h : ff
        · exact absurd (.inl h) hbad
        · rfl
      obtain ⟨p, rfl⟩ := Int.eq_ofNat_of_zero_le (show 0 ≤ p0 by omega)
      have hx0 : ¬ x = 0 := fun e => hbad (.inr (.inr (.inr e)))
      have hp : p + 32 ≤ 8 * n2 := by omega
      have HTN := hide (Sg.pm_ne (Sg.turned_no hx32 hx0 (by rw [← o2.1]; exact hp) hpk))
      have HCN : Hid (∀ k, k < n2 → ¬ Sg.pmE (l.take k) = 0) := fun k hk => Sg.pm_ne (Sg.cut_no hpk (by rw [← o2.1]; exact hk))
      have HLN := hide (Sg.pm_ne (Sg.long_no hpk))
      have d3 : decide (8 * (n2 : Int) - 32 < (p : Int)) = false := by simp; omega
      have d4 : ((x : Int) == 0) = false := by simp; omega
      clear hbad wp0 hpk
      rw [hf]
      go_wp2_with (at_builtin; refine wpList_append8 (by rfl) (.tmp 59) (.tmp 60) 31 5 (by rfl) bytesT _ _ _ [] (by rfl) (Own8.new w2 #[] 5 0 [] rfl rfl (by decide)) _ _ _ _ l (by rfl) (o2.byt.below ((Below.refl _ _).alloc (Nat.le_refl _) _)) o2.1 (by omega) ?_; intro A3 k3 w3 hown1 hgrow1 hat1; simp only [Nat.zero_add, List.nil_append] at hown1)
      have HB1 : Below w2.heap.size w2 w3 := Below.grown ((Below.refl _ _).alloc (Nat.le_refl _) _) hgrow1 (by simp) (by simp [blkOf])
      have hg : ∀ g, blkOf A3 = some g → w2.heap.size ≤ g := fun g hg => by
        rcases hat1 with h | h
        · rw [hg] at h; simp [blkOf] at h; omega
        · rw [hg] at h; simp at h; omega
      have HG := hide hg
      clear hg hgrow1 hat1
      go_loopw [11] (fun i wr => ∃ (j : Nat) (m : List UInt8), j ≤ 32 ∧ i = .int .i64 j ∧ Own8 wr 5 A3 n2 k3 m ∧ Hid (m = Crc.turn l p x j) ∧ Below w2.heap.size w2 wr) (fun i _ => 32 - (intOf i).toNat)
      case atStart => exact ⟨0, l, by omega, rfl, hown1, rfl, HB1⟩
      case round =>
        obtain ⟨j, m, hj, rfl, hown, hmt, belr⟩ := hrel
        have bPr := bP2.below belr bP2.lt
        clear hown1 HB1 q0 q1
        obtain ⟨q0, q1⟩ := arr_cells bPr
        by_cases hlt : j < 32
        · obtain ⟨g1, b1, rfl, hb1, hc1, hf1⟩ := hown.at_ (k := (p + j) / 8) (by omega)
          have HB1 := hide hb1
          clear hb1
          obtain ⟨x1, hx1, HX1⟩ := u8_flip' b1 (p + j)
          go_wp2
          · go_roundw
            case rel => exact ⟨j + 1, _, by omega, by go_num, hown.set rfl x1, by rw [flip_eq HB1.out HX1.out, hmt.out]; exact (Crc.turn_yes (tbit_yes ‹_›)).symm, belr.setCell (HG.out g1 rfl) _⟩
            case measure => simp [intOf]; omega
          · go_roundw
            case rel => exact ⟨j + 1, m, by omega, by go_num, hown, by rw [hmt.out]; exact (Crc.turn_no (tbit_no ‹_›)).symm, belr⟩
            case measure => simp [intOf]; omega
        · obtain rfl : j = 32 := by omega
          rw [hmt.out] at hown
          have belW := bnext bel2 belr
          have o2r := o2.below belr o2.lt
          have HP1 := hide (parseM_calls A3 n2 k3 _ wr hown.1 (own8_cap hown) (by omega) hown.byt)
          unfold RetMed at HP1
          clear hmt hown hlt hj HG bP2 bel2
          generalize Sg.pmE (Crc.turn l p x 32) = E1 at *
          generalize Sg.pmR (Crc.turn l p x 32) = M1 at *
          obtain ⟨N1, F1, L1⟩ := M1
          have hE1 := HTN.out
          go_wp2_with fail
          refine HP1.out.mono ?_
          rintro e w4 ⟨A4, n4, k4, ys, rfl, hh1, hh2, hh3, hh4, b4⟩
          clear hh1 hh2 hh3 hh4
          have e4 : Below w4.heap.size w4 (w4.alloc (.cells #[.int .i64 N1, .int .i64 F1, .slice A4 n4 k4] 28)) := (Below.refl _ _).alloc (Nat.le_refl _) _
          have bb4 := bnext b4 e4
          have bel4 := bnext belW bb4
          have bP4 := bPr.below bb4 bPr.lt
          have o4 := o2r.below bb4 o2r.lt
          clear b4 e4 bb4 bPr o2r HP1 q0 q1 HTN
          obtain ⟨q0, q1⟩ := arr_cells bP4
          have hk2 := own8_cap o4
          have hr : ∃ q : Nat, q < n2 ∧ (p1.tmod (n2 : Int) = (q : Int) ∨ (p1.tmod (n2 : Int) = -(q : Int) ∧ 0 < q)) := by
            have h1 : (p1.tmod (n2 : Int)).natAbs < n2 := by
              rw [Int.natAbs_tmod]
              exact Nat.mod_lt _ (by omega)
            exact ⟨(p1.tmod (n2 : Int)).natAbs, h1, by omega⟩
          obtain ⟨q, hq, hr⟩ := hr
          have HP2 : Hid (∀ w', Below _ _ w' → _) := fun w' h => parseM_calls A2 q k2 (l.take q) w' (by rw [List.length_take, ← HL.out]; omega) (by omega) (by omega) ((o4.byt.take q).below h |>.more h.size)
          have hE2 := HCN.out q hq
          unfold RetMed at HP2
          generalize Sg.pmE (l.take q) = E2 at *
          generalize Sg.pmR (l.take q) = M2 at *
          obtain ⟨N2, F2, L2⟩ := M2
          rcases hr with hr | ⟨hr, hq0⟩
          all_goals
            clear HCN
            go_wp2_with fail
            generalize w4.alloc (.cells #[.int .i64 N1, .int .i64 F1, .slice A4 n4 k4] 28) = V4 at *
            refine (HP2.out _ (Below.refl _ _)).mono ?_
            rintro e w5 ⟨A5, n5, k5, ys5, rfl, hh1, hh2, hh3, hh4, b5⟩
            have e5 : Below w5.heap.size w5 (w5.alloc (.cells #[.int .i64 N2, .int .i64 F2, .slice A5 n5 k5] 28)) := (Below.refl _ _).alloc (Nat.le_refl _) _
            have bb5 := bnext b5 e5
            have bel5 := bnext bel4 bb5
            have o5 := o4.below bb5 o4.lt
            clear hh1 hh2 hh3 hh4 b5 e5 bb5 bP4 q0 q1 o4 HP2
            go_wp2_with (first
              | (at_builtin; refine wpList_append8 (by rfl) (.tmp 112) (.tmp 113) 31 5 (by rfl) bytesT _ _ _ [] (by rfl) (Own8.newAt _ #[] 5 0 [] _ (by simp) rfl rfl (by decide)) _ _ _ _ l (by rfl) (o5.byt.below ((Below.refl _ _).alloc (Nat.le_refl _) _)) o5.1 (by omega) ?_; intro A6 k6 w6 own6 grow6 at6; simp only [Nat.zero_add, List.nil_append] at own6)
              | (at_builtin; refine wpList_append8 (by rfl) (.tmp 114) (.tmp 115) 31 5 (by rfl) bytesT _ _ _ _ (by rfl) (own6.alloc _) _ _ _ _ [0] (by rfl) (Byt.new w6 #[.int .u8 0] 5 (0, 0) [0] rfl) (by rfl) (by omega) ?_; intro A7 k7 w7 own7 grow7 at7))
            have hz5 : (w5.alloc (.cells #[.int .i64 N2, .int .i64 F2, .slice A5 n5 k5] 28)).heap.size = w5.heap.size + 1 := World.size_alloc _ _
            generalize w5.alloc (.cells #[.int .i64 N2, .int .i64 F2, .slice A5 n5 k5] 28) = V5 at *
            have bel6 : Below V5.heap.size V5 w6 := Below.grown ((Below.refl _ _).alloc (Nat.le_refl _) _) grow6 (by simp) (by simp [blkOf]; omega)
            have bel6' := bel6.alloc bel6.size (.cells #[.int .u8 0] 5)
            have bel7 : Below V5.heap.size V5 w7 := Below.grown bel6' grow7 bel6'.size (fun g hg => by
              rcases at6 with h | h
              · rw [hg] at h; simp [blkOf] at h; omega
              · rw [hg] at h; simp at h; omega)
            have bel8 := bnext bel5 bel7
            have HP3 := hide (parseM_calls A7 (n2 + 1) k7 _ w7 own7.1 (own8_cap own7) (by omega) own7.byt)
            have hE3 := HLN.out
            unfold RetMed at HP3
            clear hz5 own6 grow6 at6 own7 grow7 at7 bel6 bel6' bel7 o5 bel5 HLN
            generalize Sg.pmE (l ++ [0]) = E3 at *
            generalize Sg.pmR (l ++ [0]) = M3 at *
            obtain ⟨N3, F3, L3⟩ := M3
            refine HP3.out.mono ?_
            rintro e w8 ⟨A8, n8, k8, ys8, rfl, hh1, hh2, hh3, hh4, b8⟩
            have e8 : Below w8.heap.size w8 (w8.alloc (.cells #[.int .i64 N3, .int .i64 F3, .slice A8 n8 k8] 28)) := (Below.refl _ _).alloc (Nat.le_refl _) _
            have bel9 := bnext bel8 (bnext b8 e8)
            clear hh1 hh2 hh3 hh4 b8 e8 HP3
            go_wp2_with fail
            refine (alive17_calls _).mono ?_
            rintro e w9 ⟨rfl, b9⟩
            have f1 : (E1 != 0) = true := bne_iff_ne.2 hE1
            have f2 : (E2 != 0) = true := bne_iff_ne.2 hE2
            have f3 : (E3 != 0) = true := bne_iff_ne.2 hE3
            clear hE1 hE2 hE3
            go_wp2
            go_ret
            exact ⟨rfl, bnext bel9 b9⟩
end Go.Proofs.Ytakglalebjkpeaa.C17
