/- The statement SyntaxHeads, walked: it returns true and changes nothing that was there. Conditions: the slice reads as bytes. -/
import Derived.Test.YtapfapggepagmaaLaw12Alive
import Derived.Test.YtapfapggepagmaaSynEq
import Derived.Test.YtapfapggepagmaaSynHeadSeq
import Derived.Test.YtapfapggepagmaaConv
import Derived.Test.YtapfapggepagmaaCut
import Derived.Test.YtapfapggepagmaaHeld
import Derived.Deep.RegionLaw
import Derived.Outline
namespace Go.Proofs.Ytapfapggepagmaa
open Go.RowKit Kin

theorem len_headL (K : Bool) (N Q W H G : Int) : (Syn.headL K N Q W H G).length ≤ 100 := by
  cases h : Syn.fitsB K N Q W H G
  · rw [Syn.headL_no h]; simp
  · obtain ⟨hri, ⟨q1, q2, n1, n2⟩, hk⟩ := Syn.fits_of h
    obtain ⟨_, _, g1, g2⟩ := Syn.right_of hri
    rw [Syn.headL_yes h, Bit.length_pack]
    unfold Syn.headB
    rw [List.length_append, List.length_append, Bit.length_digits, Bit.length_digits, Gol.length_codeB (by omega)]
    have := Gol.gl_le N.toNat
    omega
theorem str_size (a : List UInt8) : (str a).size = a.length := rfl
theorem str_app (a b : List UInt8) : str a ++ str b = str (a ++ b) := by
  apply ByteArray.ext
  simp [str, ByteArray.data_append]
theorem str_add (a b : List UInt8) : (str a).toList ++ (str b).toList = (str (a ++ b)).toList := by rw [str_toList, str_toList, str_toList]

theorem seq_cells {w : World} {g : Nat} {t : TypeId} {W H G : Int} (h : Blk w g t #[.int .i64 W, .int .i64 H, .int .i64 G]) : w.cell? ⟨g, 0, none⟩ = some (.int .i64 W) ∧ w.cell? ⟨g, 1, none⟩ = some (.int .i64 H) ∧ w.cell? ⟨g, 2, none⟩ = some (.int .i64 G) := ⟨h.cell 0, h.cell 1, h.cell 2⟩
theorem hd_cells {w : World} {g : Nat} {t : TypeId} {K : Bool} {N Q : Int} (h : Blk w g t #[.bool K, .int .i64 N, .int .i64 Q]) : w.cell? ⟨g, 0, none⟩ = some (.bool K) ∧ w.cell? ⟨g, 1, none⟩ = some (.int .i64 N) ∧ w.cell? ⟨g, 2, none⟩ = some (.int .i64 Q) := ⟨h.cell 0, h.cell 1, h.cell 2⟩
/-- the two boxes of the arguments, and what was there -/
def Hk (w V : World) (W H G : Int) (K : Bool) (N Q : Int) : Prop :=
  Blk V (w.heap.size + 1) 23 #[.int .i64 W, .int .i64 H, .int .i64 G] ∧ Blk V w.heap.size 25 #[.bool K, .int .i64 N, .int .i64 Q] ∧ Below w.heap.size w V
theorem farH {w : World} {A : Option Addr} {n c g : Nat} {l : List UInt8} {t : TypeId} {cs : Array Value} {e : TypeId} (o : Own8 w e A n c l) (b : Blk w g t cs) (hne : e ≠ t := by decide) : blkOf A ≠ some g := by
  have := own_blk_ne o.2 b hne
  rwa [ownBlock_slice] at this
section
variable {w V V' : World} {W H G : Int} {K : Bool} {N Q : Int}
theorem Hk.cells (h : Hk w V W H G K N Q) : V.cell? ⟨w.heap.size + 1, 0, none⟩ = some (.int .i64 W) ∧ V.cell? ⟨w.heap.size + 1, 1, none⟩ = some (.int .i64 H) ∧ V.cell? ⟨w.heap.size + 1, 2, none⟩ = some (.int .i64 G) := seq_cells h.1
theorem Hk.alloc (h : Hk w V W H G K N Q) (o : Obj) : Hk w (V.alloc o) W H G K N Q := ⟨h.1.alloc o, h.2.1.alloc o, h.2.2.alloc h.2.2.size o⟩
theorem Hk.drew (h : Hk w V W H G K N Q) : Hk w V.drew W H G K N Q := ⟨h.1, h.2.1, h.2.2.drew⟩
theorem Hk.below (h : Hk w V W H G K N Q) (hb : Below V.heap.size V V') : Hk w V' W H G K N Q := ⟨h.1.below hb h.1.lt, h.2.1.below hb h.2.1.lt, h.2.2.trans (hb.mono h.2.2.size)⟩
theorem Hk.app {A A' : Option Addr} {n c : Nat} {l : List UInt8} (h : Hk w V W H G K N Q) (o : Own8 V 5 A n c l) (gA : ∀ k, blkOf A = some k → w.heap.size ≤ k) (grow : V.grownBy V' (blkOf A)) (at1 : blkOf A' = blkOf A ∨ blkOf A' = some V.heap.size) : Hk w V' W H G K N Q ∧ (∀ k, blkOf A' = some k → w.heap.size ≤ k) := by
  refine ⟨⟨h.1.grown grow (Ne.symm (farH o h.1)), h.2.1.grown grow (Ne.symm (farH o h.2.1)), h.2.2.grown grow h.2.2.size gA⟩, fun k hk => ?_⟩
  rcases at1 with e | e
  · exact gA k (by rw [← e]; exact hk)
  · rw [hk] at e; injection e with e; rw [e]; exact h.2.2.size
/-- a new header is stored into a box that lay there -/
theorem Hk.store {gy : Nat} {A : Option Addr} {n c : Nat} {l : List UInt8} (h : Hk w V W H G K N Q) (y : Blk V gy 25 #[.bool false, .int .i64 0, .int .i64 0]) (o : Own8 V 5 A n c l) (a : Bool) (b d : Int) (hgy : w.heap.size + 1 < gy) :
    Hk w (((V.setCell ⟨gy, 0, none⟩ (.bool a)).setCell ⟨gy, 1, none⟩ (.int .i64 b)).setCell ⟨gy, 2, none⟩ (.int .i64 d)) W H G K N Q ∧
    Blk (((V.setCell ⟨gy, 0, none⟩ (.bool a)).setCell ⟨gy, 1, none⟩ (.int .i64 b)).setCell ⟨gy, 2, none⟩ (.int .i64 d)) gy 25 #[.bool a, .int .i64 b, .int .i64 d] ∧
    Own8 (((V.setCell ⟨gy, 0, none⟩ (.bool a)).setCell ⟨gy, 1, none⟩ (.int .i64 b)).setCell ⟨gy, 2, none⟩ (.int .i64 d)) 5 A n c l := by
  have n1 : w.heap.size + 1 ≠ gy := by omega
  have n2 : w.heap.size ≠ gy := by omega
  refine ⟨⟨((h.1.far (p := ⟨gy, 0, none⟩) n1 _).far (p := ⟨gy, 1, none⟩) n1 _).far (p := ⟨gy, 2, none⟩) n1 _, ((h.2.1.far (p := ⟨gy, 0, none⟩) n2 _).far (p := ⟨gy, 1, none⟩) n2 _).far (p := ⟨gy, 2, none⟩) n2 _, ((h.2.2.setCell (p := ⟨gy, 0, none⟩) (show w.heap.size ≤ gy by omega) _).setCell (p := ⟨gy, 1, none⟩) (show w.heap.size ≤ gy by omega) _).setCell (p := ⟨gy, 2, none⟩) (show w.heap.size ≤ gy by omega) _⟩,
    ((y.set_ 0 (.bool a)).set_ 1 (.int .i64 b)).set_ 2 (.int .i64 d), ((o.setFar (p := ⟨gy, 0, none⟩) (farH o y) _).setFar (p := ⟨gy, 1, none⟩) (farH o y) _).setFar (p := ⟨gy, 2, none⟩) (farH o y) _⟩
theorem Hk.fresh {A : Option Addr} {n c : Nat} {l : List UInt8} (h : Hk w V W H G K N Q) (o : Own8 V 5 A n c l) (a : Bool) (b d : Int) :
    Hk w (V.alloc (.cells #[.bool a, .int .i64 b, .int .i64 d] 25)) W H G K N Q ∧ Blk (V.alloc (.cells #[.bool a, .int .i64 b, .int .i64 d] 25)) V.heap.size 25 #[.bool a, .int .i64 b, .int .i64 d] ∧ Own8 (V.alloc (.cells #[.bool a, .int .i64 b, .int .i64 d] 25)) 5 A n c l :=
  ⟨h.alloc _, Blk.new _ _ _, o.alloc _⟩
end

set_option maxRecDepth 100000 in
set_option maxHeartbeats 2000000 in
theorem syntaxHeads_bad (K : Bool) (N Q W H G : Int) (A : Option Addr) (n c : Nat) (w : World) (hm : n ≤ 9223372036854775807) (h : 100 < n) :
    Calls Try.prog 6 #[headV K N Q, seqV W H G, .slice A n c] w fun e w' => e = .returned (.bool true) ∧ Below w.heap.size w w' := by
  have bb0 : Below w.heap.size w ((w.alloc (.cells #[.bool K, .int .i64 N, .int .i64 Q] 25)).alloc (.cells #[.int .i64 W, .int .i64 H, .int .i64 G] 23)) := ((Below.refl w.heap.size w).alloc (Nat.le_refl _) _).alloc (by simp) _
  go_enter Try.func6, Try.ntmps6
  go_wp2_with (go_at_call 12; refine (alive12_calls _).mono ?_; rintro e w1 ⟨rfl, hb⟩)
  go_ret
  exact ⟨rfl, bnext bb0 hb⟩

set_option maxRecDepth 100000 in
set_option maxHeartbeats 8000000 in
theorem syntaxHeads_good (K : Bool) (N Q W H G : Int) (A : Option Addr) (n c : Nat) (l : List UInt8) (w : World) (hn : n = l.length) (hm : n ≤ 100) (hA : Byt w w.heap.size A l) :
    Calls Try.prog 6 #[headV K N Q, seqV W H G, .slice A n c] w fun e w' => e = .returned (.bool true) ∧ Below w.heap.size w w' := by
  have HN := hide hn
  clear hn
  have d1 : decide ((100 : Int) < (n : Int)) = false := by simp; omega
  have bb0 : Below w.heap.size w ((w.alloc (.cells #[.bool K, .int .i64 N, .int .i64 Q] 25)).alloc (.cells #[.int .i64 W, .int .i64 H, .int .i64 G] 23)) := ((Below.refl w.heap.size w).alloc (Nat.le_refl _) _).alloc (by simp) _
  have bH := (Blk.new w 25 #[.bool K, .int .i64 N, .int .i64 Q]).alloc (.cells #[.int .i64 W, .int .i64 H, .int .i64 G] 23)
  have bS := Blk.new (w.alloc (.cells #[.bool K, .int .i64 N, .int .i64 Q] 25)) 23 #[.int .i64 W, .int .i64 H, .int .i64 G]
  rw [World.size_alloc] at bS
  go_enter Try.func6, Try.ntmps6
  go_wp2_with fail
  generalize (w.alloc (.cells #[.bool K, .int .i64 N, .int .i64 Q] 25)).alloc (.cells #[.int .i64 W, .int .i64 H, .int .i64 G] 23) = W0 at *
  refine (parseHead_calls A n c l W H G _ HN.out (by omega) (hA.below bb0) bb0.size).mono ?_
  rintro e w1 ⟨A1, n1, c1, rfl, o1, g1, b1⟩
  have bH1 := bH.below b1 bH.lt
  have bS1 := bS.below b1 bS.lt
  have bb1 := bb0.trans (b1.mono bb0.size)
  clear bH bS bb0 b1 g1
  cases hok : phOk l W H G
  case' false =>
    obtain ⟨r1, r2, r3, r4, r5⟩ := phR_no hok
    rw [r1, r2, r3, r4]
    have hb2 : Below w1.heap.size w1 (w1.alloc (.cells #[.bool false, .int .i64 0, .int .i64 0] 25)) := (Below.refl _ _).alloc (Nat.le_refl _) _
    have bHv := bH1.below hb2 bH1.lt
    have bSv := bS1.below hb2 bS1.lt
    have bbv := bb1.trans (hb2.mono bb1.size)
    have t0 : (w1.alloc (.cells #[.bool false, .int .i64 0, .int .i64 0] 25)).cell? ⟨w.heap.size, 0, none⟩ = some (.bool K) := bHv.cell 0
    have t1 : (w1.alloc (.cells #[.bool false, .int .i64 0, .int .i64 0] 25)).cell? ⟨w.heap.size, 1, none⟩ = some (.int .i64 N) := bHv.cell 1
    have t2 : (w1.alloc (.cells #[.bool false, .int .i64 0, .int .i64 0] 25)).cell? ⟨w.heap.size, 2, none⟩ = some (.int .i64 Q) := bHv.cell 2
    have s0 : (w1.alloc (.cells #[.bool false, .int .i64 0, .int .i64 0] 25)).cell? ⟨w.heap.size + 1, 0, none⟩ = some (.int .i64 W) := bSv.cell 0
    have s1 : (w1.alloc (.cells #[.bool false, .int .i64 0, .int .i64 0] 25)).cell? ⟨w.heap.size + 1, 1, none⟩ = some (.int .i64 H) := bSv.cell 1
    have s2 : (w1.alloc (.cells #[.bool false, .int .i64 0, .int .i64 0] 25)).cell? ⟨w.heap.size + 1, 2, none⟩ = some (.int .i64 G) := bSv.cell 2
    clear bH1 bS1 bb1 r1 r2 r3 r4 r5 hok hb2 o1
    go_wp2_with fail
    generalize w1.alloc (.cells #[.bool false, .int .i64 0, .int .i64 0] 25) = V at *
  case' true =>
    obtain ⟨r1, r2, r3, r4, r5⟩ := phR_yes hok
    obtain ⟨hfi, hls⟩ := ph_spec hok
    rw [r1, r2, r3, r4]
    rw [r5] at o1
    have HSC := hide (head_calls (phKey l) (phN l) (phQ l) W H G)
    rw [Syn.headE_yes hfi] at HSC
    have HRC := hide (fits_calls (phKey l) (phN l) (phQ l) W H G)
    rw [hfi] at HRC
    have HLS := hide hls
    clear r1 r2 r3 r4 r5 hok hfi hls
    generalize phKey l = vK at *
    generalize phN l = vN at *
    generalize phQ l = vQ at *
    generalize Syn.headL vK vN vQ W H G = L1 at *
    generalize l.drop ((phK3 l + 7) / 8) = L2 at *
    have hb2 : Below w1.heap.size w1 (w1.alloc (.cells #[.bool vK, .int .i64 (vN : Int), .int .i64 (vQ : Int)] 25)) := (Below.refl _ _).alloc (Nat.le_refl _) _
    have bN := Blk.new w1 25 #[.bool vK, .int .i64 (vN : Int), .int .i64 (vQ : Int)]
    have bH2 := bH1.below hb2 bH1.lt
    have bS2 := bS1.below hb2 bS1.lt
    have o2 := o1.below hb2 o1.lt
    have bb2 := bb1.trans (hb2.mono bb1.size)
    have s0 : (w1.alloc (.cells #[.bool vK, .int .i64 (vN : Int), .int .i64 (vQ : Int)] 25)).cell? ⟨w.heap.size + 1, 0, none⟩ = some (.int .i64 W) := bS2.cell 0
    have s1 : (w1.alloc (.cells #[.bool vK, .int .i64 (vN : Int), .int .i64 (vQ : Int)] 25)).cell? ⟨w.heap.size + 1, 1, none⟩ = some (.int .i64 H) := bS2.cell 1
    have s2 : (w1.alloc (.cells #[.bool vK, .int .i64 (vN : Int), .int .i64 (vQ : Int)] 25)).cell? ⟨w.heap.size + 1, 2, none⟩ = some (.int .i64 G) := bS2.cell 2
    go_wp2_with fail
    generalize w1.alloc (.cells #[.bool vK, .int .i64 (vN : Int), .int .i64 (vQ : Int)] 25) = W2 at *
    refine (HSC.out _).mono ?_
    rintro e w3 ⟨A3, n3, c3, rfl, o3, g3, b3⟩
    have bH3 := bH2.below b3 bH2.lt
    have bS3 := bS2.below b3 bS2.lt
    have bN3 := bN.below b3 bN.lt
    have o23 := o2.below b3 o2.lt
    have bb3 := bb2.trans (b3.mono bb2.size)
    clear s0 s1 s2
    have m0 : w3.cell? ⟨w1.heap.size, 0, none⟩ = some (.bool vK) := bN3.cell 0
    have m1 : w3.cell? ⟨w1.heap.size, 1, none⟩ = some (.int .i64 (vN : Int)) := bN3.cell 1
    have m2 : w3.cell? ⟨w1.heap.size, 2, none⟩ = some (.int .i64 (vQ : Int)) := bN3.cell 2
    have s0 : w3.cell? ⟨w.heap.size + 1, 0, none⟩ = some (.int .i64 W) := bS3.cell 0
    have s1 : w3.cell? ⟨w.heap.size + 1, 1, none⟩ = some (.int .i64 H) := bS3.cell 1
    have s2 : w3.cell? ⟨w.heap.size + 1, 2, none⟩ = some (.int .i64 G) := bS3.cell 2
    have cv1 : Sem.run Try.prog (convert 26 9 (.slice A3 n3 c3)) w3 = .ok (.string (str L1)) w3 := run_conv8 bytesT Try.underlying9 A3 n3 c3 _ o3.byt o3.1
    have cv2 : Sem.run Try.prog (convert 26 9 (.slice A1 n1 c1)) w3 = .ok (.string (str L2)) w3 := run_conv8 bytesT Try.underlying9 A1 n1 c1 _ o23.byt o23.1
    have cv3 : Sem.run Try.prog (convert 26 9 (.slice A n c)) w3 = .ok (.string (str l)) w3 := run_conv8 bytesT Try.underlying9 A n c _ (hA.below bb3) HN.out
    clear bH1 bH2 bS1 bS2 bN bb1 bb2 hb2 b3 g3 o1 o2
    have hl12 : L1.length + L2.length ≤ 100 := by have := congrArg List.length HLS.out; rw [List.length_append] at this; have := HN.out; omega
    have hsz : (str L1).size + (str L2).size ≤ 9223372036854775807 := by rw [str_size, str_size]; omega
    have hcat : str L1 ++ str L2 = str l := by rw [str_app, ← HLS.out]
    generalize str L1 = S1 at *
    generalize str L2 = S2 at *
    generalize str l = S3 at *
    go_wp2_with fail
    refine (HRC.out _).mono ?_
    rintro e V ⟨rfl, b4⟩
    have bHv := bH3.below b4 bH3.lt
    have bSv := bS3.below b4 bS3.lt
    have bbv := bb3.trans (b4.mono bb3.size)
    clear s0 s1 s2
    have t0 : V.cell? ⟨w.heap.size, 0, none⟩ = some (.bool K) := bHv.cell 0
    have t1 : V.cell? ⟨w.heap.size, 1, none⟩ = some (.int .i64 N) := bHv.cell 1
    have t2 : V.cell? ⟨w.heap.size, 2, none⟩ = some (.int .i64 Q) := bHv.cell 2
    have s0 : V.cell? ⟨w.heap.size + 1, 0, none⟩ = some (.int .i64 W) := bSv.cell 0
    have s1 : V.cell? ⟨w.heap.size + 1, 1, none⟩ = some (.int .i64 H) := bSv.cell 1
    have s2 : V.cell? ⟨w.heap.size + 1, 2, none⟩ = some (.int .i64 G) := bSv.cell 2
    clear bH3 bS3 bN3 bb3 m0 m1 m2 cv1 cv2 cv3 o3 o23 b4 hcat hsz hl12 HLS
    go_wp2_with fail
  all_goals
    clear t0 t1 t2 s0 s1 s2 d1
    refine (head_calls K N Q W H G _).mono ?_
    rintro e w5 ⟨A5, n5, c5, rfl, o5, g5, b5⟩
    have bH5 := bHv.below b5 bHv.lt
    have bS5 := bSv.below b5 bSv.lt
    have bb5 := bbv.trans (b5.mono bbv.size)
    have ll := len_headL K N Q W H G
    clear bHv bSv bbv b5 g5
    cases hfi : Syn.fitsB K N Q W H G
    · rw [Syn.headE_no hfi]
      have HRC := hide (fits_calls K N Q W H G)
      rw [hfi] at HRC
      clear hfi
      go_wp2_with fail
      refine (alive12_calls _).mono ?_
      rintro e w6 ⟨rfl, b6⟩
      have bH6 := bH5.below b6 bH5.lt
      have bS6 := bS5.below b6 bS5.lt
      have bb6 := bb5.trans (b6.mono bb5.size)
      have t0 : w6.cell? ⟨w.heap.size, 0, none⟩ = some (.bool K) := bH6.cell 0
      have t1 : w6.cell? ⟨w.heap.size, 1, none⟩ = some (.int .i64 N) := bH6.cell 1
      have t2 : w6.cell? ⟨w.heap.size, 2, none⟩ = some (.int .i64 Q) := bH6.cell 2
      have s0 : w6.cell? ⟨w.heap.size + 1, 0, none⟩ = some (.int .i64 W) := bS6.cell 0
      have s1 : w6.cell? ⟨w.heap.size + 1, 1, none⟩ = some (.int .i64 H) := bS6.cell 1
      have s2 : w6.cell? ⟨w.heap.size + 1, 2, none⟩ = some (.int .i64 G) := bS6.cell 2
      go_wp2_with fail
      refine (HRC.out _).mono ?_
      rintro e w7 ⟨rfl, b7⟩
      go_wp2
      go_ret
      exact ⟨rfl, bb6.trans (b7.mono bb6.size)⟩
    · rw [Syn.headE_yes hfi]
      obtain ⟨hok, p1, p2, p3, p4⟩ := ph_of hfi l
      obtain ⟨r1, r2, r3, r4, r5⟩ := phR_yes hok
      rw [p1] at r1
      rw [p2] at r2
      rw [p3] at r3
      rw [p4, List.drop_left] at r5
      have HP1 : Hid (∀ w' A n c, n = (Syn.headL K N Q W H G ++ l).length → n ≤ 1000000 → Byt w' w'.heap.size A (Syn.headL K N Q W H G ++ l) → Calls Try.prog 18 #[.slice A n c, seqV W H G] w' (RetHead w' K N Q l 0)) := by
        intro w' A n c h1 h3 h2
        have := parseHead_calls A n c _ W H G w' h1 h3 h2 (Nat.le_refl _)
        rw [r1, r2, r3, r4, r5] at this
        exact this
      clear hok p1 p2 p3 p4 r1 r2 r3 r4 r5 hfi
      have hse := head_eq K N Q K N Q
      have heq : (K == K && N == N && Q == Q) = true := by simp
      rw [heq] at hse
      clear heq
      generalize Syn.headL K N Q W H G = L at *
      go_wp2
      have hn5 : n5 ≤ 100 := by rw [o5.1]; exact ll
      have hn5l := hide o5.1
      have h5 : Hk w w5 W H G K N Q := ⟨bS5, bH5, bb5⟩
      have hD : Hk w w5.drew W H G K N Q := h5.drew
      have hE : Hk w (w5.alloc (.cells #[] 5)).drew W H G K N Q := Hk.drew (h5.alloc (.cells #[] 5))
      have hZ : Hk w (w5.alloc (.cells #[.bool false, .int .i64 0, .int .i64 0] 25)).drew W H G K N Q := Hk.drew (h5.alloc (.cells #[.bool false, .int .i64 0, .int .i64 0] 25))
      have hEZ : Hk w ((w5.alloc (.cells #[] 5)).alloc (.cells #[.bool false, .int .i64 0, .int .i64 0] 25)).drew W H G K N Q := Hk.drew ((h5.alloc (.cells #[] 5)).alloc (.cells #[.bool false, .int .i64 0, .int .i64 0] 25))
      have hZE : Hk w ((w5.alloc (.cells #[.bool false, .int .i64 0, .int .i64 0] 25)).alloc (.cells #[] 5)).drew W H G K N Q := Hk.drew ((h5.alloc (.cells #[.bool false, .int .i64 0, .int .i64 0] 25)).alloc (.cells #[] 5))
      have z5 : w.heap.size ≤ w5.heap.size := bb5.size
      have kD := hD.cells
      have kE := hE.cells
      have kZ := hZ.cells
      have kEZ := hEZ.cells
      have kZE := hZE.cells
      have oE : Own8 (w5.alloc (.cells #[] 5)).drew 5 (some ⟨w5.heap.size, 0, none⟩) 0 0 [] := Own8.new w5 #[] 5 0 [] rfl rfl (by decide)
      have oEZ : Own8 ((w5.alloc (.cells #[] 5)).alloc (.cells #[.bool false, .int .i64 0, .int .i64 0] 25)).drew 5 (some ⟨w5.heap.size, 0, none⟩) 0 0 [] := (Own8.new w5 #[] 5 0 [] rfl rfl (by decide)).alloc _
      have oZE : Own8 ((w5.alloc (.cells #[.bool false, .int .i64 0, .int .i64 0] 25)).alloc (.cells #[] 5)).drew 5 (some ⟨w5.heap.size + 1, 0, none⟩) 0 0 [] := Own8.newAt (w5.alloc (.cells #[.bool false, .int .i64 0, .int .i64 0] 25)) #[] 5 0 [] (w5.heap.size + 1) (by simp) rfl rfl (by decide)
      have yEZ : Blk ((w5.alloc (.cells #[] 5)).alloc (.cells #[.bool false, .int .i64 0, .int .i64 0] 25)).drew (w5.heap.size + 1) 25 #[.bool false, .int .i64 0, .int .i64 0] := by
        have := Blk.new (w5.alloc (.cells #[] 5)) 25 #[.bool false, .int .i64 0, .int .i64 0]
        rwa [World.size_alloc] at this
      have yZE : Blk ((w5.alloc (.cells #[.bool false, .int .i64 0, .int .i64 0] 25)).alloc (.cells #[] 5)).drew w5.heap.size 25 #[.bool false, .int .i64 0, .int .i64 0] := (Blk.new w5 25 #[.bool false, .int .i64 0, .int .i64 0]).alloc _
      have vE : Byt (w5.alloc (.cells #[] 5)).drew w5.heap.size A5 L := o5.byt.below ((Below.refl _ _).alloc (Nat.le_refl _) _).drew
      have vEZ : Byt ((w5.alloc (.cells #[] 5)).alloc (.cells #[.bool false, .int .i64 0, .int .i64 0] 25)).drew w5.heap.size A5 L := o5.byt.below (((Below.refl _ _).alloc (Nat.le_refl _) _).alloc (by simp) _).drew
      have vZE : Byt ((w5.alloc (.cells #[.bool false, .int .i64 0, .int .i64 0] 25)).alloc (.cells #[] 5)).drew w5.heap.size A5 L := o5.byt.below (((Below.refl _ _).alloc (Nat.le_refl _) _).alloc (by simp) _).drew
      have gE : ∀ k, blkOf (some (⟨w5.heap.size, 0, none⟩ : Addr)) = some k → w.heap.size ≤ k := by intro k hk; simp [blkOf] at hk; omega
      have gE1 : ∀ k, blkOf (some (⟨w5.heap.size + 1, 0, none⟩ : Addr)) = some k → w.heap.size ≤ k := by intro k hk; simp [blkOf] at hk; omega
      go_region_held3 (fun w' => w'.cell? ⟨w.heap.size + 1, 0, none⟩ = some (.int .i64 W) ∧ w'.cell? ⟨w.heap.size + 1, 1, none⟩ = some (.int .i64 H) ∧ w'.cell? ⟨w.heap.size + 1, 2, none⟩ = some (.int .i64 G))
        (first | with_reducible exact kD | with_reducible exact kE | with_reducible exact kZ | with_reducible exact kEZ | with_reducible exact kZE | with_reducible exact k10 | with_reducible exact k10a | with_reducible exact k11 | with_reducible exact k11a | with_reducible exact k12 | with_reducible exact k12a | with_reducible exact k12s | (trace "K(.cells #[] 5)P"; trace_state; fail))
        (first
          | (refine step_append8 (by rfl) (.tmp 70) (.tmp 71) 26 5 (by rfl) bytesT _ _ _ [] (by rfl) oE _ _ _ _ L (by rfl) vE hn5l.out (by omega) ?_; intro A10 c10 w10 own10 grow10 at10; simp only [Nat.zero_add, List.nil_append] at own10 ⊢; have F10 := Hk.app hE oE gE grow10 at10; have k10 := F10.1.cells; have h10a := F10.1.alloc (.cells #[.bool false, .int .i64 0, .int .i64 0] 25); have k10a := h10a.cells; have own10a := own10.alloc (.cells #[.bool false, .int .i64 0, .int .i64 0] 25); have y10a := Blk.new w10 25 #[.bool false, .int .i64 0, .int .i64 0])
          | (refine step_append8 (by rfl) (.tmp 70) (.tmp 71) 26 5 (by rfl) bytesT _ _ _ [] (by rfl) oEZ _ _ _ _ L (by rfl) vEZ hn5l.out (by omega) ?_; intro A10 c10 w10 own10 grow10 at10; simp only [Nat.zero_add, List.nil_append] at own10 ⊢; have F10 := Hk.app hEZ oEZ gE grow10 at10; have k10 := F10.1.cells; have y10 := yEZ.grown grow10 (by simp [blkOf]); have gy10 := Nat.lt_succ_of_lt bS5.lt)
          | (refine step_append8 (by rfl) (.tmp 70) (.tmp 71) 26 5 (by rfl) bytesT _ _ _ [] (by rfl) oZE _ _ _ _ L (by rfl) vZE hn5l.out (by omega) ?_; intro A10 c10 w10 own10 grow10 at10; simp only [Nat.zero_add, List.nil_append] at own10 ⊢; have F10 := Hk.app hZE oZE gE1 grow10 at10; have k10 := F10.1.cells; have y10 := yZE.grown grow10 (by simp [blkOf]); have gy10 := bS5.lt)
          | (refine step_append8 (by rfl) (.tmp 72) (.tmp 73) 26 5 (by rfl) bytesT _ _ _ _ (by rfl) own10 _ _ _ _ l (by rfl) (hA.below F10.1.2.2) HN.out (by omega) ?_; intro A11 c11 w11 own11 grow11 at11; have F11 := Hk.app F10.1 own10 F10.2 grow11 at11; have HO11 := hide own11.1; have k11 := F11.1.cells; have y11 := y10.grown grow11 (Ne.symm (farH own10 y10)); have gy11 := gy10)
          | (refine step_append8 (by rfl) (.tmp 72) (.tmp 73) 26 5 (by rfl) bytesT _ _ _ _ (by rfl) own10 _ _ _ _ l (by rfl) (hA.below F10.1.2.2) HN.out (by omega) ?_; intro A11 c11 w11 own11 grow11 at11; have F11 := Hk.app F10.1 own10 F10.2 grow11 at11; have HO11 := hide own11.1; have k11 := F11.1.cells; have h11a := F11.1.alloc (.cells #[.bool false, .int .i64 0, .int .i64 0] 25); have k11a := h11a.cells; have own11a := own11.alloc (.cells #[.bool false, .int .i64 0, .int .i64 0] 25); have y11a := Blk.new w11 25 #[.bool false, .int .i64 0, .int .i64 0]; have gy11a := F11.1.1.lt)
          | (refine step_append8 (by rfl) (.tmp 72) (.tmp 73) 26 5 (by rfl) bytesT _ _ _ _ (by rfl) own10a _ _ _ _ l (by rfl) (hA.below h10a.2.2) HN.out (by omega) ?_; intro A11 c11 w11 own11 grow11 at11; have F11 := Hk.app h10a own10a F10.2 grow11 at11; have HO11 := hide own11.1; have k11 := F11.1.cells; have y11 := y10a.grown grow11 (Ne.symm (farH own10a y10a)); have gy11 := F10.1.1.lt)
          | (go_at_call 18; ((with_reducible refine (HP1.out w11 A11 (n5 + n) c11 HO11.out (by omega) own11.byt).mono ?_)); rintro e w12 ⟨A12, n12, c12, rfl, o12, g12, b12⟩; have h12 := F11.1.below b12; have k12 := h12.cells; have y12 := y11.below b12 y11.lt; have y0 := (hd_cells y12).1; have y1 := (hd_cells y12).2.1; have y2 := (hd_cells y12).2.2; have yf0 := y12.frozen 0; have yf1 := y12.frozen 1; have yf2 := y12.frozen 2; have R12 := Hk.store h12 y12 o12 K N Q gy11; have k12s := R12.1.cells)
          | (go_at_call 18; ((with_reducible refine (HP1.out w11 A11 (n5 + n) c11 HO11.out (by omega) own11.byt).mono ?_)); rintro e w12 ⟨A12, n12, c12, rfl, o12, g12, b12⟩; have h12 := F11.1.below b12; have k12 := h12.cells; have k12a := (h12.alloc (.cells #[.bool false, .int .i64 0, .int .i64 0] 25)).cells; have R12 := Hk.fresh h12 o12 K N Q; have k12s := R12.1.cells)
          | (go_at_call 18; ((with_reducible refine (HP1.out (w11.alloc (.cells #[.bool false, .int .i64 0, .int .i64 0] 25)) A11 (n5 + n) c11 HO11.out (by omega) own11a.byt).mono ?_)); rintro e w12 ⟨A12, n12, c12, rfl, o12, g12, b12⟩; have h12 := h11a.below b12; have k12 := h12.cells; have y12 := y11a.below b12 y11a.lt; have y0 := (hd_cells y12).1; have y1 := (hd_cells y12).2.1; have y2 := (hd_cells y12).2.2; have yf0 := y12.frozen 0; have yf1 := y12.frozen 1; have yf2 := y12.frozen 2; have R12 := Hk.store h12 y12 o12 K N Q gy11a; have k12s := R12.1.cells))
      all_goals
        clear hD hE hZ hEZ hZE kD kE kZ kEZ kZE oE oEZ oZE yEZ yZE vE vEZ vZE gE gE1 h5
        obtain ⟨hV, yV, oV⟩ := R12
        clear k12s
        first
          | (generalize w12.alloc (.cells #[.bool K, .int .i64 N, .int .i64 Q] 25) = V at *
             obtain ⟨gy, hgy⟩ : ∃ g, g = w12.heap.size := ⟨_, rfl⟩
             rw [← hgy] at yV ⊢
             clear hgy)
          | (generalize ((w12.setCell ⟨w5.heap.size + 1, 0, none⟩ (.bool K)).setCell ⟨w5.heap.size + 1, 1, none⟩ (.int .i64 N)).setCell ⟨w5.heap.size + 1, 2, none⟩ (.int .i64 Q) = V at *
             obtain ⟨gy, hgy⟩ : ∃ g, g = w5.heap.size + 1 := ⟨_, rfl⟩
             rw [← hgy] at yV ⊢
             clear hgy)
          | (generalize ((w12.setCell ⟨w5.heap.size, 0, none⟩ (.bool K)).setCell ⟨w5.heap.size, 1, none⟩ (.int .i64 N)).setCell ⟨w5.heap.size, 2, none⟩ (.int .i64 Q) = V at *
             obtain ⟨gy, hgy⟩ : ∃ g, g = w5.heap.size := ⟨_, rfl⟩
             rw [← hgy] at yV ⊢
             clear hgy)
          | (generalize ((w12.setCell ⟨w10.heap.size, 0, none⟩ (.bool K)).setCell ⟨w10.heap.size, 1, none⟩ (.int .i64 N)).setCell ⟨w10.heap.size, 2, none⟩ (.int .i64 Q) = V at *
             obtain ⟨gy, hgy⟩ : ∃ g, g = w10.heap.size := ⟨_, rfl⟩
             rw [← hgy] at yV ⊢
             clear hgy)
          | (generalize ((w12.setCell ⟨w11.heap.size, 0, none⟩ (.bool K)).setCell ⟨w11.heap.size, 1, none⟩ (.int .i64 N)).setCell ⟨w11.heap.size, 2, none⟩ (.int .i64 Q) = V at *
             obtain ⟨gy, hgy⟩ : ∃ g, g = w11.heap.size := ⟨_, rfl⟩
             rw [← hgy] at yV ⊢
             clear hgy)
        clear k12 h12 o12 b12 F10 F11 own10 own11 k10 k11 grow10 grow11 at10 at11
        go_wp2_with fail
        refine (alive12_calls _).mono ?_
        rintro e w13 ⟨rfl, b13⟩
        have hV3 := hV.below b13
        have y13 := yV.below b13 yV.lt
        have o13 := oV.below b13 oV.lt
        have p0 := (hd_cells y13).1
        have p1 := (hd_cells y13).2.1
        have p2 := (hd_cells y13).2.2
        have q0 := (hd_cells hV3.2.1).1
        have q1 := (hd_cells hV3.2.1).2.1
        have q2 := (hd_cells hV3.2.1).2.2
        have cv1 : Sem.run Try.prog (convert 26 9 (.slice A12 n12 c12)) w13 = .ok (.string (str l)) w13 := run_conv8 bytesT Try.underlying9 A12 n12 c12 _ o13.byt o13.1
        have cv2 : Sem.run Try.prog (convert 26 9 (.slice A n c)) w13 = .ok (.string (str l)) w13 := run_conv8 bytesT Try.underlying9 A n c _ (hA.below hV3.2.2) HN.out
        have sd : ((str l).toList == (str l).toList) = true := by simp
        generalize str l = SL at *
        have belF := hV3.2.2
        clear hV hV3 yV y13 oV o13 hA HN
        go_wp2
        go_ret
        exact ⟨rfl, belF⟩

theorem syntaxHeads_walk (K : Bool) (N Q W H G : Int) (A : Option Addr) (n c : Nat) (l : List UInt8) (w : World) (hn : n = l.length) (hm : n ≤ maxLen) (hA : Byt w w.heap.size A l) :
    Calls Try.prog 6 #[headV K N Q, seqV W H G, .slice A n c] w fun e w' => e = .returned (.bool true) ∧ Below w.heap.size w w' := by
  by_cases h : 100 < n
  · exact syntaxHeads_bad K N Q W H G A n c w (Nat.le_trans hm (by decide)) h
  · exact syntaxHeads_good K N Q W H G A n c l w hn (by omega) hA
end Go.Proofs.Ytapfapggepagmaa
