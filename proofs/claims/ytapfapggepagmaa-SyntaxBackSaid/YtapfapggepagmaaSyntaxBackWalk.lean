/- The statement SyntaxBack, walked: it returns true and changes nothing that was there. Conditions: the slice reads as bytes. -/
import Derived.Test.YtapfapggepagmaaLaw12Alive
import Derived.Test.YtapfapggepagmaaSynEq
import Derived.Test.YtapfapggepagmaaSynSeq
import Derived.Test.YtapfapggepagmaaConv
import Derived.Test.YtapfapggepagmaaCut
namespace Go.Proofs.Ytapfapggepagmaa
open Go.RowKit Kin

theorem seq_pre {W H G W' H' G' : Int} (h1 : Syn.rightB W H G = true) (h2 : Syn.rightB W' H' G' = true) (h : Syn.seqL W H G <+: Syn.seqL W' H' G') : W = W' ∧ H = H' ∧ G = G' := by
  rw [Syn.seqL_yes h1, Syn.seqL_yes h2] at h
  obtain ⟨T, T', e⟩ := Syn.bits_of_pre h
  exact (Syn.seq_cancel h1 h2 e).1
theorem ps_less {W H G : Int} {k : Nat} (h : Syn.rightB W H G = true) (hk : k + 1 = (Syn.seqL W H G).length) : psOk ((Syn.seqL W H G).take k) = false := by
  cases e : psOk ((Syn.seqL W H G).take k)
  · rfl
  · obtain ⟨r, hl⟩ := ps_spec e
    have hp : (Syn.seqL W H G).take k <+: Syn.seqL W H G := List.take_prefix _ _
    have hlen : ((Syn.seqL W H G).take k).length = k := by rw [List.length_take]; omega
    generalize (Syn.seqL W H G).take k = m at *
    rw [hl] at hp hlen
    obtain ⟨e1, e2, e3⟩ := seq_pre r h hp
    rw [e1, e2, e3] at hlen
    omega
theorem ps_more {W H G : Int} {b : UInt8} (h : Syn.rightB W H G = true) : psOk (Syn.seqL W H G ++ [b]) = false := by
  cases e : psOk (Syn.seqL W H G ++ [b])
  · rfl
  · obtain ⟨r, hl⟩ := ps_spec e
    have hp : Syn.seqL W H G <+: Syn.seqL W H G ++ [b] := List.prefix_append _ _
    have hlen : (Syn.seqL W H G ++ [b]).length = (Syn.seqL W H G).length + 1 := by simp
    generalize Syn.seqL W H G ++ [b] = m at *
    rw [hl] at hp hlen
    obtain ⟨e1, e2, e3⟩ := seq_pre h r hp
    rw [← e1, ← e2, ← e3] at hlen
    omega
theorem len_seqL (W H G : Int) : (Syn.seqL W H G).length ≤ 100 := by
  cases h : Syn.rightB W H G
  · rw [Syn.seqL_no h]; simp
  · obtain ⟨a1, a2, a3⟩ := Syn.right_of h
    rw [Syn.seqL_yes h, Bit.length_pack]
    unfold Syn.seqB
    simp only [List.length_append, Bit.length_digits, Gol.length_codeB (show (W / 16 - 1).toNat ≤ 4294967294 by omega), Gol.length_codeB (show (H / 16 - 1).toNat ≤ 4294967294 by omega), Gol.length_codeB (show (G - 1).toNat ≤ 4294967294 by omega)]
    have := Gol.gl_le (W / 16 - 1).toNat
    have := Gol.gl_le (H / 16 - 1).toNat
    have := Gol.gl_le (G - 1).toNat
    omega

set_option maxRecDepth 100000 in
set_option maxHeartbeats 2000000 in
theorem syntaxBack_bad (W H G : Int) (A : Option Addr) (n c : Nat) (w : World) (hm : n ≤ 9223372036854775807) (h : 100 < n) :
    Calls Try.prog 5 #[seqV W H G, .slice A n c] w fun e w' => e = .returned (.bool true) ∧ Below w.heap.size w w' := by
  have bb0 : Below w.heap.size w (w.alloc (.cells #[.int .i64 W, .int .i64 H, .int .i64 G] 23)) := (Below.refl w.heap.size w).alloc (Nat.le_refl _) _
  go_enter Try.func5, Try.ntmps5
  go_wp2_with (go_at_call 12; refine (alive12_calls _).mono ?_; rintro e w1 ⟨rfl, hb⟩)
  go_ret
  exact ⟨rfl, bnext bb0 hb⟩

set_option maxRecDepth 100000 in
set_option maxHeartbeats 8000000 in
theorem syntaxBack_good (W H G : Int) (A : Option Addr) (n c : Nat) (l : List UInt8) (w : World) (hn : n = l.length) (hm : n ≤ 100) (hA : Byt w w.heap.size A l) :
    Calls Try.prog 5 #[seqV W H G, .slice A n c] w fun e w' => e = .returned (.bool true) ∧ Below w.heap.size w w' := by
  have HN := hide hn
  clear hn
  have d1 : decide ((100 : Int) < (n : Int)) = false := by simp; omega
  have bb0 : Below w.heap.size w (w.alloc (.cells #[.int .i64 W, .int .i64 H, .int .i64 G] 23)) := (Below.refl w.heap.size w).alloc (Nat.le_refl _) _
  have bS := Blk.new w 23 #[.int .i64 W, .int .i64 H, .int .i64 G]
  go_enter Try.func5, Try.ntmps5
  go_wp2_with fail
  generalize w.alloc (.cells #[.int .i64 W, .int .i64 H, .int .i64 G] 23) = W0 at *
  refine (parseSeq_calls A n c l _ HN.out (by omega) (hA.below bb0) bb0.size).mono ?_
  rintro e w1 ⟨rfl, b1⟩
  have bS1 := bS.below b1 bS.lt
  have bb1 := bb0.trans (b1.mono bb0.size)
  clear bS bb0 b1
  cases hok : psOk l
  case' false =>
    obtain ⟨r1, r2, r3, r4⟩ := psR_no hok
    rw [r1, r2, r3, r4]
    have hb2 : Below w1.heap.size w1 (w1.alloc (.cells #[.int .i64 0, .int .i64 0, .int .i64 0] 23)) := (Below.refl _ _).alloc (Nat.le_refl _) _
    have bSv := bS1.below hb2 bS1.lt
    have bbv := bb1.trans (hb2.mono bb1.size)
    have s0 : (w1.alloc (.cells #[.int .i64 0, .int .i64 0, .int .i64 0] 23)).cell? ⟨w.heap.size, 0, none⟩ = some (.int .i64 W) := bSv.cell 0
    have s1 : (w1.alloc (.cells #[.int .i64 0, .int .i64 0, .int .i64 0] 23)).cell? ⟨w.heap.size, 1, none⟩ = some (.int .i64 H) := bSv.cell 1
    have s2 : (w1.alloc (.cells #[.int .i64 0, .int .i64 0, .int .i64 0] 23)).cell? ⟨w.heap.size, 2, none⟩ = some (.int .i64 G) := bSv.cell 2
    clear bS1 bb1 r1 r2 r3 r4 hok hb2
    go_wp2_with fail
    generalize w1.alloc (.cells #[.int .i64 0, .int .i64 0, .int .i64 0] 23) = V at *
  case' true =>
    obtain ⟨r1, r2, r3, r4⟩ := psR_yes hok
    obtain ⟨hri, hls⟩ := ps_spec hok
    rw [r1, r2, r3, r4]
    have HSC := hide (seq_calls (16 * psW l) (16 * psH l) (psG l))
    rw [Syn.seqE_yes hri, ← hls] at HSC
    have HRC := hide (right_calls (16 * psW l) (16 * psH l) (psG l))
    rw [hri] at HRC
    clear r1 r2 r3 r4 hok hri hls
    generalize 16 * psW l = vW at *
    generalize 16 * psH l = vH at *
    generalize psG l = vG at *
    have hb2 : Below w1.heap.size w1 (w1.alloc (.cells #[.int .i64 vW, .int .i64 vH, .int .i64 vG] 23)) := (Below.refl _ _).alloc (Nat.le_refl _) _
    have bN := Blk.new w1 23 #[.int .i64 vW, .int .i64 vH, .int .i64 vG]
    have bS2 := bS1.below hb2 bS1.lt
    have bb2 := bb1.trans (hb2.mono bb1.size)
    go_wp2_with fail
    generalize w1.alloc (.cells #[.int .i64 vW, .int .i64 vH, .int .i64 vG] 23) = W2 at *
    refine (HSC.out _).mono ?_
    rintro e w3 ⟨A3, n3, c3, rfl, o3, g3, b3⟩
    have bS3 := bS2.below b3 bS2.lt
    have bN3 := bN.below b3 bN.lt
    have bb3 := bb2.trans (b3.mono bb2.size)
    have m0 : w3.cell? ⟨w1.heap.size, 0, none⟩ = some (.int .i64 vW) := bN3.cell 0
    have m1 : w3.cell? ⟨w1.heap.size, 1, none⟩ = some (.int .i64 vH) := bN3.cell 1
    have m2 : w3.cell? ⟨w1.heap.size, 2, none⟩ = some (.int .i64 vG) := bN3.cell 2
    have cv1 : Sem.run Try.prog (convert 26 9 (.slice A3 n3 c3)) w3 = .ok (.string (str l)) w3 := run_conv8 bytesT Try.underlying9 A3 n3 c3 _ o3.byt o3.1
    have cv2 : Sem.run Try.prog (convert 26 9 (.slice A n c)) w3 = .ok (.string (str l)) w3 := run_conv8 bytesT Try.underlying9 A n c _ (hA.below bb3) HN.out
    clear bS1 bS2 bN bb1 bb2 hb2 b3 g3
    go_wp2_with fail
    refine (HRC.out _).mono ?_
    rintro e V ⟨rfl, b4⟩
    have bSv := bS3.below b4 bS3.lt
    have bbv := bb3.trans (b4.mono bb3.size)
    have s0 : V.cell? ⟨w.heap.size, 0, none⟩ = some (.int .i64 W) := bSv.cell 0
    have s1 : V.cell? ⟨w.heap.size, 1, none⟩ = some (.int .i64 H) := bSv.cell 1
    have s2 : V.cell? ⟨w.heap.size, 2, none⟩ = some (.int .i64 G) := bSv.cell 2
    clear bS3 bN3 bb3 m0 m1 m2 cv1 cv2 o3 b4
    go_wp2_with fail
  all_goals
    clear s0 s1 s2 d1 hA HN
    refine (seq_calls W H G _).mono ?_
    rintro e w5 ⟨A5, n5, c5, rfl, o5, g5, b5⟩
    have bS5 := bSv.below b5 bSv.lt
    have bb5 := bbv.trans (b5.mono bbv.size)
    have s0 : w5.cell? ⟨w.heap.size, 0, none⟩ = some (.int .i64 W) := bS5.cell 0
    have s1 : w5.cell? ⟨w.heap.size, 1, none⟩ = some (.int .i64 H) := bS5.cell 1
    have s2 : w5.cell? ⟨w.heap.size, 2, none⟩ = some (.int .i64 G) := bS5.cell 2
    have ll := len_seqL W H G
    clear bSv bbv b5 g5
    cases hri : Syn.rightB W H G
    · rw [Syn.seqE_no hri]
      have HRC := hide (right_calls W H G)
      rw [hri] at HRC
      clear hri s0 s1 s2
      go_wp2_with fail
      refine (alive12_calls _).mono ?_
      rintro e w6 ⟨rfl, b6⟩
      have bS6 := bS5.below b6 bS5.lt
      have bb6 := bb5.trans (b6.mono bb5.size)
      have s0 : w6.cell? ⟨w.heap.size, 0, none⟩ = some (.int .i64 W) := bS6.cell 0
      have s1 : w6.cell? ⟨w.heap.size, 1, none⟩ = some (.int .i64 H) := bS6.cell 1
      have s2 : w6.cell? ⟨w.heap.size, 2, none⟩ = some (.int .i64 G) := bS6.cell 2
      go_wp2_with fail
      refine (HRC.out _).mono ?_
      rintro e w7 ⟨rfl, b7⟩
      go_wp2
      go_ret
      exact ⟨rfl, bb6.trans (b7.mono bb6.size)⟩
    · rw [Syn.seqE_yes hri]
      obtain ⟨hok, p1, p2, p3⟩ := ps_of hri
      obtain ⟨r1, r2, r3, r4⟩ := psR_yes hok
      rw [p1] at r1
      rw [p2] at r2
      rw [p3] at r3
      have hlen3 := Syn.len_seq hri
      rw [← Syn.seqL_yes hri] at hlen3
      obtain ⟨m, hmm⟩ : ∃ m, m + 1 = (Syn.seqL W H G).length := ⟨(Syn.seqL W H G).length - 1, by omega⟩
      have hno := psR_no (ps_less hri hmm)
      have hno2 := psR_no (ps_more (b := 0) hri)
      have HP1 : Hid (∀ w' A n c, n = (Syn.seqL W H G).length → Byt w' w'.heap.size A (Syn.seqL W H G) → Calls Try.prog 17 #[.slice A n c] w' (RetSeq w' W H G 0)) := by
        intro w' A n c h1 h2
        have := parseSeq_calls A n c _ w' h1 (by omega) h2 (Nat.le_refl _)
        rw [r1, r2, r3, r4] at this
        exact this
      have HP2 : Hid (∀ w' A c, Byt w' w'.heap.size A (Syn.seqL W H G) → Calls Try.prog 17 #[.slice A m c] w' (RetSeq w' 0 0 0 121)) := by
        intro w' A c h2
        have := parseSeq_calls A m c ((Syn.seqL W H G).take m) w' (by rw [List.length_take]; omega) (by omega) (h2.take m) (Nat.le_refl _)
        rw [hno.1, hno.2.1, hno.2.2.1, hno.2.2.2] at this
        exact this
      have HP3 : Hid (∀ w' A n c, n = (Syn.seqL W H G ++ [0]).length → Byt w' w'.heap.size A (Syn.seqL W H G ++ [0]) → Calls Try.prog 17 #[.slice A n c] w' (RetSeq w' 0 0 0 121)) := by
        intro w' A n c h1 h2
        have := parseSeq_calls A n c _ w' h1 (by rw [List.length_append, List.length_singleton] at h1; omega) h2 (Nat.le_refl _)
        rw [hno2.1, hno2.2.1, hno2.2.2.1, hno2.2.2.2] at this
        exact this
      have hn5 : n5 = m + 1 := by rw [o5.1]; exact hmm.symm
      have hcap := Own8.cap o5
      have HMM := hide hmm
      clear hok p1 p2 p3 r1 r2 r3 r4 hno hno2 hri hlen3 hmm
      subst hn5
      have hse := seq_eq W H G W H G
      have heq : (W == W && H == H && G == G) = true := by simp
      rw [heq] at hse
      generalize Syn.seqL W H G = L at *
      have hm100 : m ≤ 100 := by have := HMM.out; omega
      clear s0 s1 s2 heq ll
      go_wp2_with fail
      refine (HP1.out _ _ _ _ HMM.out o5.byt).mono ?_
      rintro e w6 ⟨rfl, b6⟩
      have hb7 : Below w6.heap.size w6 (w6.alloc (.cells #[.int .i64 W, .int .i64 H, .int .i64 G] 23)) := (Below.refl _ _).alloc (Nat.le_refl _) _
      have bY := Blk.new w6 23 #[.int .i64 W, .int .i64 H, .int .i64 G]
      have bS7 := (bS5.below b6 bS5.lt).below hb7 (bS5.below b6 bS5.lt).lt
      have o7 := (o5.below b6 o5.lt).below hb7 (o5.below b6 o5.lt).lt
      have bb7 := (bb5.trans (b6.mono bb5.size)).trans (hb7.mono (bb5.trans (b6.mono bb5.size)).size)
      have hsl := run_cut8h bytesT A5 (m + 1) c5 .i64 m m rfl (by omega)
      clear bS5 o5 bb5 b6 hb7 HP1
      go_wp2_with fail
      generalize w6.alloc (.cells #[.int .i64 W, .int .i64 H, .int .i64 G] 23) = W7 at *
      refine (HP2.out _ _ _ o7.byt).mono ?_
      rintro e w8 ⟨rfl, b8⟩
      have hb9 : Below w8.heap.size w8 (w8.alloc (.cells #[.int .i64 0, .int .i64 0, .int .i64 0] 23)) := (Below.refl _ _).alloc (Nat.le_refl _) _
      have b89 := b8.trans (hb9.mono b8.size)
      have bS9 := bS7.below b89 bS7.lt
      have bY9 := bY.below b89 bY.lt
      have o9 := o7.below b89 o7.lt
      have bb9 := bb7.trans (b89.mono bb7.size)
      clear bS7 bY o7 bb7 b8 hb9 b89 HP2 hsl
      have bbe := bb9.alloc bb9.size (.cells #[] 5)
      have o9e := o9.alloc (.cells #[] 5)
      have bS9e := bS9.alloc (.cells #[] 5)
      have bY9e := bY9.alloc (.cells #[] 5)
      have ownE := Own8.newAt (w8.alloc (.cells #[.int .i64 0, .int .i64 0, .int .i64 0] 23)) #[] 5 0 [] (w8.heap.size + 1) (by simp) rfl rfl (by decide)
      have geE : w.heap.size ≤ w8.heap.size + 1 := by have := bb9.size; simpa using this
      go_wp2_with (first
        | (at_builtin; refine wpList_append8 (by rfl) (.tmp 75) (.tmp 76) 26 5 (by rfl) bytesT _ _ _ [] (by rfl) ownE _ _ _ _ L (by rfl) o9e.byt HMM.out (by omega) ?_; intro A10 c10 w10 own10 grow10 at10; simp only [Nat.zero_add, List.nil_append] at own10)
        | (at_builtin; refine wpList_append8 (by rfl) (.tmp 77) (.tmp 78) 26 5 (by rfl) bytesT _ _ _ _ (by rfl) (own10.alloc _) _ _ _ _ [0] (by rfl) (Byt.new _ _ _ _ _ rfl) (by rfl) (by simp; omega) ?_; intro A11 c11 w11 own11 grow11 at11))
      have zS := bS9.lt
      have zY := bY9.lt
      simp only [World.size_alloc] at zS zY
      have bS10 := bS9e.grown grow10 (by simp [blkOf]; omega)
      have bY10 := bY9e.grown grow10 (by simp [blkOf]; omega)
      have bb10 := bbe.grown grow10 bbe.size (by intro q hq; simp [blkOf] at hq; omega)
      have gA10 : ∀ q, blkOf A10 = some q → w.heap.size ≤ q := by
        intro q hq
        rcases at10 with e | e
        · rw [hq] at e; simp [blkOf] at e; omega
        · rw [hq] at e; injection e with e; have := bbe.size; omega
      have nS : blkOf A10 ≠ some w.heap.size := by have := own_blk_ne own10.2 bS10 (by decide); rwa [ownBlock_slice] at this
      have nY : blkOf A10 ≠ some w6.heap.size := by have := own_blk_ne own10.2 bY10 (by decide); rwa [ownBlock_slice] at this
      have bS11 := (bS10.alloc (.cells #[.int .u8 0] 5)).grown grow11 (Ne.symm nS)
      have bY11 := (bY10.alloc (.cells #[.int .u8 0] 5)).grown grow11 (Ne.symm nY)
      have bb11 := (bb10.alloc bb10.size (.cells #[.int .u8 0] 5)).grown grow11 (bb10.alloc bb10.size (.cells #[.int .u8 0] 5)).size gA10
      have HO := hide own11.1
      clear bS9 bY9 o9 bb9 bbe o9e bS9e bY9e ownE bS10 bY10 bb10 gA10 nS nY grow10 at10 grow11 at11 own10
      refine (HP3.out _ _ _ _ HO.out own11.byt).mono ?_
      rintro e w12 ⟨rfl, b12⟩
      have hb13 : Below w12.heap.size w12 (w12.alloc (.cells #[.int .i64 0, .int .i64 0, .int .i64 0] 23)) := (Below.refl _ _).alloc (Nat.le_refl _) _
      have b1213 := b12.trans (hb13.mono b12.size)
      have bS13 := bS11.below b1213 bS11.lt
      have bY13 := bY11.below b1213 bY11.lt
      have bb13 := bb11.trans (b1213.mono bb11.size)
      clear bS11 bY11 bb11 b12 hb13 b1213 own11 HP3
      go_wp2_with fail
      generalize w12.alloc (.cells #[.int .i64 0, .int .i64 0, .int .i64 0] 23) = W13 at *
      refine (alive12_calls _).mono ?_
      rintro e w14 ⟨rfl, b14⟩
      have bS14 := bS13.below b14 bS13.lt
      have bY14 := bY13.below b14 bY13.lt
      have bb14 := bb13.trans (b14.mono bb13.size)
      have s0 : w14.cell? ⟨w.heap.size, 0, none⟩ = some (.int .i64 W) := bS14.cell 0
      have s1 : w14.cell? ⟨w.heap.size, 1, none⟩ = some (.int .i64 H) := bS14.cell 1
      have s2 : w14.cell? ⟨w.heap.size, 2, none⟩ = some (.int .i64 G) := bS14.cell 2
      have y0 : w14.cell? ⟨w6.heap.size, 0, none⟩ = some (.int .i64 W) := bY14.cell 0
      have y1 : w14.cell? ⟨w6.heap.size, 1, none⟩ = some (.int .i64 H) := bY14.cell 1
      have y2 : w14.cell? ⟨w6.heap.size, 2, none⟩ = some (.int .i64 G) := bY14.cell 2
      go_wp2
      go_ret
      exact ⟨rfl, bb14⟩

theorem syntaxBack_walk (W H G : Int) (A : Option Addr) (n c : Nat) (l : List UInt8) (w : World) (hn : n = l.length) (hm : n ≤ maxLen) (hA : Byt w w.heap.size A l) :
    Calls Try.prog 5 #[seqV W H G, .slice A n c] w fun e w' => e = .returned (.bool true) ∧ Below w.heap.size w w' := by
  by_cases h : 100 < n
  · exact syntaxBack_bad W H G A n c w (Nat.le_trans hm (by decide)) h
  · exact syntaxBack_good W H G A n c l w hn (by omega) hA
end Go.Proofs.Ytapfapggepagmaa
