/- The document's header with which bytes begin, by its contract: it answers as the program does. Conditions: at most 300 bytes. -/
import Derived.Test.YtapfapggepagmaaSynRefSeq
import Derived.Test.YtapfapggepagmaaSynHeadSeq
import Derived.Test.YtapfapggepagmaaSynWrites
import Derived.Test.YtapfapggepagmaaConv
import Derived.Test.YtapfapggepagmaaCut
import Derived.Test.YtapfapggepagmaaHeld
import Derived.Outline
namespace Go.Proofs.Ytapfapggepagmaa
open Go.RowKit Kin

/-- the header's bytes of a number and a quantizer -/
def hx (W H G : Int) (i j : Nat) : List UInt8 := Syn.headL ((i : Int) == 0) (i : Int) (j : Int) W H G
/-- the bytes begin with it -/
def mat (l : List UInt8) (W H G : Int) (i j : Nat) : Prop := hx W H G i j = l.take (hx W H G i j).length
theorem kz (x : Int) : (x == 0) = decide (x = 0) := by
  by_cases h : x = 0
  · subst h; rfl
  · rw [decide_eq_false h]; simpa using h
theorem rh_fits {W H G : Int} {i j : Nat} (hr : Syn.rightB W H G = true) (hi : (i : Int) < G) (hj : j ≤ 31) : Syn.fitsB ((i : Int) == 0) (i : Int) (j : Int) W H G = true := by
  unfold Syn.fitsB
  rw [hr, kz, decide_eq_true (by omega : 0 ≤ (j : Int) ∧ (j : Int) ≤ 31 ∧ 0 ≤ (i : Int) ∧ (i : Int) < G)]
  simp
theorem rh_yes {l : List UInt8} {W H G : Int} {i j : Nat} (hf : Syn.fitsB ((i : Int) == 0) (i : Int) (j : Int) W H G = true) (h : mat l W H G i j) :
    phRK l W H G = ((i : Int) == 0) ∧ phRN l W H G = (i : Int) ∧ phRQ l W H G = (j : Int) ∧ phRE l W H G = 0 ∧ phRest l W H G = l.drop (hx W H G i j).length := by
  have e : l = hx W H G i j ++ l.drop (hx W H G i j).length := by
    have := List.take_append_drop (hx W H G i j).length l
    rw [← h] at this
    exact this.symm
  obtain ⟨p0, p1, p2, p3, p4⟩ := ph_of hf (l.drop (hx W H G i j).length)
  have e' : Syn.headL ((i : Int) == 0) (i : Int) (j : Int) W H G ++ l.drop (hx W H G i j).length = l := e.symm
  rw [e'] at p0 p1 p2 p3 p4
  obtain ⟨r1, r2, r3, r4, r5⟩ := phR_yes p0
  rw [r1, r2, r3, r4, r5, p1, p2, p3, p4]
  exact ⟨rfl, rfl, rfl, rfl, rfl⟩
theorem rh_no {l : List UInt8} {W H G : Int} (h : ∀ i j : Nat, (i : Int) < G → j ≤ 31 → ¬ mat l W H G i j) : phOk l W H G = false := by
  cases e : phOk l W H G
  · rfl
  · obtain ⟨hf, hl⟩ := ph_spec e
    obtain ⟨_, ⟨q1, q2, n1, n2⟩, hk⟩ := Syn.fits_of hf
    refine absurd ?_ (h (phN l) (phQ l) n2 (by omega))
    have hx' : hx W H G (phN l) (phQ l) = Syn.headL (phKey l) (phN l) (phQ l) W H G := by unfold hx; rw [kz, ← hk]
    unfold mat
    rw [hx']
    have key : ∀ X R : List UInt8, l = X ++ R → X = l.take X.length := fun X R h => by rw [h]; exact List.take_left.symm
    exact key _ _ hl
theorem rh_bad {l : List UInt8} {W H G : Int} (h : Syn.rightB W H G = false) : phOk l W H G = false := by
  cases e : phOk l W H G
  · rfl
  · obtain ⟨hf, _⟩ := ph_spec e
    rw [(Syn.fits_of hf).1] at h; cases h
/-- the sequence's box and the answer's -/
def Hr (w V : World) (W H G : Int) : Prop :=
  Blk V w.heap.size 23 #[.int .i64 W, .int .i64 H, .int .i64 G] ∧ Blk V (w.heap.size + 1) 25 #[.bool false, .int .i64 0, .int .i64 0] ∧ Below w.heap.size w V
theorem Hr.below {w V V' : World} {W H G : Int} (h : Hr w V W H G) (hb : Below V.heap.size V V') : Hr w V' W H G := ⟨h.1.below hb h.1.lt, h.2.1.below hb h.2.1.lt, h.2.2.trans (hb.mono h.2.2.size)⟩
theorem Hr.alloc {w V : World} {W H G : Int} (h : Hr w V W H G) (o : Obj) : Hr w (V.alloc o) W H G := h.below ((Below.refl _ _).alloc (Nat.le_refl _) _)
theorem head_cells' {w : World} {g : Nat} {t : TypeId} {x y z : Value} (h : Blk w g t #[x, y, z]) : w.cell? ⟨g, 0, none⟩ = some x ∧ w.cell? ⟨g, 1, none⟩ = some y ∧ w.cell? ⟨g, 2, none⟩ = some z := ⟨h.cell 0, h.cell 1, h.cell 2⟩
theorem farR {w : World} {A : Option Addr} {n c g : Nat} {l : List UInt8} {t : TypeId} {cs : Array Value} {e : TypeId} (o : Own8 w e A n c l) (b : Blk w g t cs) (hne : e ≠ t := by decide) : blkOf A ≠ some g := by
  have := own_blk_ne o.2 b hne
  rwa [ownBlock_slice] at this
theorem dN' (w : World) (k : Nat) : Below w.heap.size w (w.drewN k) := ⟨rfl, rfl, rfl, Nat.le_refl _, fun _ _ => rfl⟩

set_option maxRecDepth 100000 in
set_option maxHeartbeats 8000000 in
theorem refparseHead_calls (A : Option Addr) (n c : Nat) (l : List UInt8) (W H G : Int) (w : World) (hn : n = l.length) (hc : n ≤ c) (hm : n ≤ 300) (hA : Byt w w.heap.size A l) :
    Calls Try.prog 20 #[.slice A n c, seqV W H G] w (RetHead w (phRK l W H G) (phRN l W H G) (phRQ l W H G) (phRest l W H G) (phRE l W H G)) := by
  have HN := hide hn
  clear hn
  have h0 : Hr w ((w.alloc (.cells #[.int .i64 W, .int .i64 H, .int .i64 G] 23)).alloc (.cells #[.bool false, .int .i64 0, .int .i64 0] 25)) W H G := by
    have b1 := Blk.new (w.alloc (.cells #[.int .i64 W, .int .i64 H, .int .i64 G] 23)) 25 #[.bool false, .int .i64 0, .int .i64 0]
    rw [World.size_alloc] at b1
    exact ⟨(Blk.new w 23 #[.int .i64 W, .int .i64 H, .int .i64 G]).alloc _, b1, ((Below.refl _ _).alloc (Nat.le_refl _) _).alloc (by simp) _⟩
  have HRI := hide (refright_calls W H G)
  go_enter Try.func20, Try.ntmps20
  go_wp2_with fail
  generalize (w.alloc (.cells #[.int .i64 W, .int .i64 H, .int .i64 G] 23)).alloc (.cells #[.bool false, .int .i64 0, .int .i64 0] 25) = W0 at *
  refine (HRI.out _).mono ?_
  rintro e w1 ⟨rfl, b1⟩
  have h1 := h0.below b1
  clear h0 b1 HRI
  cases hr : Syn.rightB W H G
  · have HRR := hide (phR_no (rh_bad (l := l) hr))
    obtain ⟨k0, k1, k2⟩ := head_cells' h1.1
    obtain ⟨m0, m1, m2⟩ := head_cells' h1.2.1
    have f0 := h1.2.1.frozen 0
    have f1 := h1.2.1.frozen 1
    have f2 := h1.2.1.frozen 2
    obtain ⟨zk, zb⟩ := head_set h1.2.1 h1.2.2 (by omega) (.bool false) (.int .i64 0) (.int .i64 0)
    obtain ⟨z0, z1, z2⟩ := head_cells' zk
    clear hr
    go_wp2
    go_loopw [8] (fun iv wr => iv = .int .i64 0 ∧ wr = w1) (fun _ _ => 0)
    case atStart => exact ⟨rfl, rfl⟩
    case round =>
      obtain ⟨rfl, rfl⟩ := hrel
      by_cases hg : (0 : Int) < G
      case' neg => have hgd : decide ((0 : Int) < G) = false := by simpa using hg
      all_goals
        go_wp2
        refine bodyPost_ret (v := .tuple #[headV false 0 0, .slice none 0 0, .int .i64 121]) (by simp [results, Try.results20, go_sem, z0, z1, z2]) rfl ?_
        refine ⟨none, 0, 0, by rw [HRR.out.1, HRR.out.2.1, HRR.out.2.2.1, HRR.out.2.2.2.1], by rw [HRR.out.2.2.2.2]; exact Own8.nil _ _, by simp [blkOf], zb⟩
  · obtain ⟨_, _, g1, g2⟩ := Syn.right_of hr
    have HR := hide hr
    obtain ⟨Gn, rfl⟩ : ∃ k : Nat, G = k := ⟨G.toNat, by omega⟩
    have gg2 : Gn ≤ 64 := by omega
    clear hr g1
    go_wp2
    go_loopw [8] (fun iv wr => ∃ i : Nat, i ≤ Gn ∧ iv = .int .i64 (i : Int) ∧ Hid (∀ i' j' : Nat, i' < i → j' ≤ 31 → ¬ mat l W H Gn i' j') ∧ Hr w wr W H Gn) (fun iv _ => Gn - (intOf iv).toNat)
    case atStart => exact ⟨0, by omega, rfl, fun _ _ h => absurd h (by omega), h1⟩
    case round =>
      obtain ⟨i, hi, rfl, hno, hh⟩ := hrel
      obtain ⟨k0, k1, k2⟩ := head_cells' hh.1
      by_cases hlt : i < Gn
      · have hlt' : (i : Int) < (Gn : Int) := by omega
        go_wp2
        clear k0 k1 k2
        go_loopw [9] (fun iv wr' => ∃ j : Nat, j ≤ 32 ∧ iv = .int .i64 (j : Int) ∧ Hid (∀ j' : Nat, j' < j → ¬ mat l W H Gn i j') ∧ Hr w wr' W H Gn) (fun iv _ => 32 - (intOf iv).toNat)
        case atStart => exact ⟨0, by omega, rfl, fun _ h => absurd h (by omega), hh⟩
        case round =>
          obtain ⟨j, hj, rfl, hnj, hj2⟩ := hrel
          by_cases hj31 : j ≤ 31
          · have hj31' : (j : Int) ≤ 31 := by omega
            have HF := hide (rh_fits HR.out hlt' hj31)
            have HGX := hide hj2.2.1.lt
            obtain ⟨k0, k1, k2⟩ := head_cells' hj2.1
            have bX : Below wr.heap.size wr (wr.alloc (.cells #[.bool ((i : Int) == 0), .int .i64 (i : Int), .int .i64 (j : Int)] 25)) := (Below.refl _ _).alloc (Nat.le_refl _) _
            have kX := Blk.new wr 25 #[.bool ((i : Int) == 0), .int .i64 (i : Int), .int .i64 (j : Int)]
            have hX := hj2.below bX
            obtain ⟨q0, q1, q2⟩ := head_cells' hX.1
            have HRC := hide (refhead_calls ((i : Int) == 0) (i : Int) (j : Int) W H Gn)
            go_wp2_with fail
            generalize wr.alloc (.cells #[.bool ((i : Int) == 0), .int .i64 (i : Int), .int .i64 (j : Int)] 25) = VX at *
            refine (HRC.out _).mono ?_
            rintro e w2 ⟨A2, n2, c2, rfl, o2, gg, b2⟩
            have h2 := hX.below b2
            have kX2 := kX.below b2 kX.lt
            have hXe : Syn.headL ((i : Int) == 0) (i : Int) (j : Int) W H Gn = hx W H Gn i j := rfl
            rw [hXe] at o2
            have HM : Hid (mat l W H Gn i j ↔ hx W H Gn i j = l.take (hx W H Gn i j).length) := Iff.rfl
            have HYes := hide (fun h => rh_yes (l := l) HF.out h)
            have HO2 := hide o2.1
            clear hXe k0 k1 k2 q0 q1 q2 hX kX bX b2 gg hj2 HRC HF
            generalize hx W H Gn i j = X at *
            have HNext : Hid (¬ mat l W H Gn i j → ∀ j' : Nat, j' < j + 1 → ¬ mat l W H Gn i j') := fun hn j' hj' => by
              by_cases e : j' = j
              · rw [e]; exact hn
              · exact hnj.out j' (by omega)
            by_cases hle : n2 ≤ n
            · have hs : ∀ w', Sem.run Try.prog (Instr.sliceAt 26 (.slice A n c) none (some (.int .i64 (n2 : Int))) none) w' = .ok (.slice A n2 c) w' := fun w' => run_cut8h bytesT A n c .i64 n2 _ rfl (by omega) w'
              have hlen : Hid (n2 = (l.take n2).length) := by show _ = _; rw [List.length_take, ← HN.out]; omega
              have cvA : ∀ q, Sem.run Try.prog (convert 26 9 (.slice A n2 c)) (w2.drewN q) = .ok (.string (str (l.take n2))) (w2.drewN q) := fun q => run_conv8 bytesT Try.underlying9 A n2 c _ ((hA.below h2.2.2).take n2) hlen.out
              have cvB : ∀ q, Sem.run Try.prog (convert 26 9 (.slice A2 n2 c2)) (w2.drewN q) = .ok (.string (str X)) (w2.drewN q) := fun q => run_conv8 bytesT Try.underlying9 A2 n2 c2 _ o2.byt HO2.out
              have hle' : (n2 : Int) ≤ (n : Int) := by omega
              by_cases hmt : l.take n2 = X
              · have hmat : mat l W H Gn i j := HM.out.2 (by rw [← HO2.out]; exact hmt.symm)
                have HYY := hide (HYes.out hmat)
                rw [hmt] at cvA
                have hse : ((str X).toList == (str X).toList) = true := by simp
                generalize str X = SX at *
                clear hmt hmat HNext HYes HM
                go_wp2_with fail
                go_quiet (fail)
                have h3 := h2.below (dN' _ nq)
                have kX3 := kX2.below (dN' _ nq) kX2.lt
                clear h2 kX2 cvA cvB hse hs o2
                generalize w2.drewN nq = V at *
                have hs3 : ∀ w', Sem.run Try.prog (Instr.sliceAt 26 (.slice A n c) (some (.int .i64 (n2 : Int))) none none) w' = .ok (.slice (cutA A c n2) (n - n2) (c - n2)) w' := fun w' => run_cut8l bytesT A n c .i64 n2 _ rfl hle w'
                have hl3 : Hid (n - n2 = (l.drop n2).length) := by show _ = _; rw [List.length_drop, ← HN.out]
                have hE := h3.alloc (.cells #[] 5)
                have yE : Byt (V.alloc (.cells #[] 5)).drew w.heap.size (cutA A c n2) (l.drop n2) := (hA.below hE.2.2).cut n2 (by rw [← HN.out]; exact hc)
                have oE : Own8 (V.alloc (.cells #[] 5)).drew 5 (some ⟨V.heap.size, 0, none⟩) 0 0 [] := Own8.new V #[] 5 0 [] rfl rfl (by decide)
                have kXD : Blk V.drew wr.heap.size 25 #[.bool ((i : Int) == 0), .int .i64 (i : Int), .int .i64 (j : Int)] := kX3
                have kXE : Blk (V.alloc (.cells #[] 5)).drew wr.heap.size 25 #[.bool ((i : Int) == 0), .int .i64 (i : Int), .int .i64 (j : Int)] := kX3.alloc _
                have rE : Blk (V.alloc (.cells #[] 5)).drew (w.heap.size + 1) 25 #[.bool false, .int .i64 0, .int .i64 0] := hE.2.1
                have bE : Below w.heap.size w (V.alloc (.cells #[] 5)).drew := hE.2.2.drew
                have zV : w.heap.size ≤ V.heap.size := h3.2.2.size
                have cD := head_cells' kXD
                have cE := head_cells' kXE
                generalize cutA A c n2 = AC at *
                clear hE h3 kX3 h1 hh
                go_wp2_with fail
                go_region_held3 (fun w' => w'.cell? ⟨wr.heap.size, 0, none⟩ = some (.bool ((i : Int) == 0)) ∧ w'.cell? ⟨wr.heap.size, 1, none⟩ = some (.int .i64 (i : Int)) ∧ w'.cell? ⟨wr.heap.size, 2, none⟩ = some (.int .i64 (j : Int)))
                  (first | with_reducible exact cD | with_reducible exact cE | with_reducible exact c9 | with_reducible exact c9s | (trace "K(.cells #[] 5)P"; trace_state; fail))
                  (first
                    | (refine step_append8 (by rfl) (.tmp 55) (.tmp 59) 26 5 (by rfl) bytesT _ _ _ [] (by rfl) oE _ _ _ _ (l.drop n2) (by rfl) yE hl3.out (by omega) ?_; intro A9 cc9 w9 own9 grow9 at9; simp only [Nat.zero_add, List.nil_append] at own9 ⊢; have k9 := kXE.grown grow9 (Ne.symm (farR oE kXE)); have r9 := rE.grown grow9 (Ne.symm (farR oE rE)); have b9 : Below w.heap.size w w9 := bE.grown grow9 bE.size (by intro k hk; simp [blkOf] at hk; omega); have c9 := head_cells' k9; have m0 := (head_cells' r9).1; have m1 := (head_cells' r9).2.1; have m2 := (head_cells' r9).2.2; have f0 := r9.frozen 0; have f1 := r9.frozen 1; have f2 := r9.frozen 2; have c9s := head_cells' (((k9.far (p := ⟨w.heap.size + 1, 0, none⟩) (Nat.ne_of_gt HGX.out) (.bool ((i : Int) == 0))).far (p := ⟨w.heap.size + 1, 1, none⟩) (Nat.ne_of_gt HGX.out) (.int .i64 (i : Int))).far (p := ⟨w.heap.size + 1, 2, none⟩) (Nat.ne_of_gt HGX.out) (.int .i64 (j : Int)))))
                all_goals
                  obtain ⟨zk, zb⟩ := head_set r9 b9 (by omega) (.bool ((i : Int) == 0)) (.int .i64 (i : Int)) (.int .i64 (j : Int))
                  obtain ⟨z0, z1, z2⟩ := head_cells' zk
                  have oz := ((own9.setFar (p := ⟨w.heap.size + 1, 0, none⟩) (farR own9 r9) (.bool ((i : Int) == 0))).setFar (p := ⟨w.heap.size + 1, 1, none⟩) (farR own9 r9) (.int .i64 (i : Int))).setFar (p := ⟨w.heap.size + 1, 2, none⟩) (farR own9 r9) (.int .i64 (j : Int))
                  have gA9 : ∀ k, blkOf A9 = some k → w.heap.size ≤ k := by
                    intro k hk
                    rcases at9 with e | e
                    · rw [hk] at e; simp [blkOf] at e; omega
                    · rw [hk] at e; injection e with e; rw [e]; exact bE.size
                  clear m0 m1 m2 f0 f1 f2 c9 c9s k9 r9 own9
                  go_wp2
                  refine bodyPost_ret (v := .tuple #[headV ((i : Int) == 0) i j, .slice A9 (n - n2) cc9, .int .i64 0]) (by simp [results, Try.results20, go_sem, z0, z1, z2]) rfl ?_
                  refine ⟨A9, n - n2, cc9, by rw [HYY.out.1, HYY.out.2.1, HYY.out.2.2.1, HYY.out.2.2.2.1], ?_, gA9, zb⟩
                  rw [HYY.out.2.2.2.2, ← HO2.out]
                  exact oz
              · have hnm : ¬ mat l W H Gn i j := fun h => hmt (by have := HM.out.1 h; rw [← HO2.out] at this; exact this.symm)
                have HNN := hide (HNext.out hnm)
                have hne : ¬ str (l.take n2) = str X := fun e => hmt (str_inj e)
                have hsf := tl_ne hne
                clear hmt hnm hne
                generalize str X = SX at *
                generalize str (l.take n2) = SL at *
                go_wp2_with fail
                go_quiet (fail)
                have h3 := h2.below (dN' _ nq)
                go_wp2
                go_roundw
                case rel => exact ⟨j + 1, by omega, by go_num, HNN, h3⟩
                case measure => simp [intOf]; omega
            · have hnm : ¬ mat l W H Gn i j := fun h => by
                have h5 := congrArg List.length (HM.out.1 h)
                rw [List.length_take, ← HO2.out, ← HN.out] at h5
                omega
              have HNN := hide (HNext.out hnm)
              have hled : decide ((n2 : Int) ≤ (n : Int)) = false := by simp; omega
              have hled2 : decide (n2 ≤ n) = false := by simp; omega
              clear hnm
              go_wp2_with fail
              go_quiet (fail)
              have h3 := h2.below (dN' _ nq)
              go_wp2
              go_roundw
              case rel => exact ⟨j + 1, by omega, by go_num, HNN, h3⟩
              case measure => simp [intOf]; omega
          · obtain rfl : j = 32 := by omega
            have hjj : decide (((32 : Nat) : Int) ≤ 31) = false := by decide
            have HNN : Hid (∀ i' j' : Nat, i' < i + 1 → j' ≤ 31 → ¬ mat l W H Gn i' j') := fun i' j' h5 h6 => by
              by_cases e : i' = i
              · rw [e]; exact hnj.out j' (by omega)
              · exact hno.out i' j' (by omega) h6
            go_wp2
            go_roundw
            case rel => exact ⟨i + 1, by omega, by go_num, HNN, hj2⟩
            case measure => simp [intOf]; omega
      · obtain rfl : i = Gn := by omega
        have HRR := hide (phR_no (rh_no (l := l) (W := W) (H := H) (G := i) (fun i' j' h5 h6 => hno.out i' j' (by omega) h6)))
        obtain ⟨m0, m1, m2⟩ := head_cells' hh.2.1
        have f0 := hh.2.1.frozen 0
        have f1 := hh.2.1.frozen 1
        have f2 := hh.2.1.frozen 2
        obtain ⟨zk, zb⟩ := head_set hh.2.1 hh.2.2 (by omega) (.bool false) (.int .i64 0) (.int .i64 0)
        obtain ⟨z0, z1, z2⟩ := head_cells' zk
        have hid : decide ((i : Int) < (i : Int)) = false := by simp
        clear hlt hno
        go_wp2
        refine bodyPost_ret (v := .tuple #[headV false 0 0, .slice none 0 0, .int .i64 121]) (by simp [results, Try.results20, go_sem, z0, z1, z2]) rfl ?_
        refine ⟨none, 0, 0, by rw [HRR.out.1, HRR.out.2.1, HRR.out.2.2.1, HRR.out.2.2.2.1], by rw [HRR.out.2.2.2.2]; exact Own8.nil _ _, by simp [blkOf], zb⟩
end Go.Proofs.Ytapfapggepagmaa
