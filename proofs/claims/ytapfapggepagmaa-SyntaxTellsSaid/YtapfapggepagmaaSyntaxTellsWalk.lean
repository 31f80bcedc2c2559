/- The statement SyntaxTells, walked: it returns true and changes nothing that was there. No conditions. -/
import Derived.Test.YtapfapggepagmaaLaw12Alive
import Derived.Test.YtapfapggepagmaaConv
import Derived.Test.YtapfapggepagmaaHeld
namespace Go.Proofs.Ytapfapggepagmaa
open Go.RowKit Kin

set_option maxRecDepth 100000 in
set_option maxHeartbeats 8000000 in
theorem syntaxTells_walk (W H G : Int) (K : Bool) (N Q : Int) (w : World) :
    Calls Try.prog 3 #[seqV W H G, headV K N Q] w fun e w' => e = .returned (.bool true) ∧ Below w.heap.size w w' := by
  have bb0 : Below w.heap.size w ((w.alloc (.cells #[.int .i64 W, .int .i64 H, .int .i64 G] 23)).alloc (.cells #[.bool K, .int .i64 N, .int .i64 Q] 25)) := ((Below.refl w.heap.size w).alloc (Nat.le_refl _) _).alloc (by simp) _
  have bS := (Blk.new w 23 #[.int .i64 W, .int .i64 H, .int .i64 G]).alloc (.cells #[.bool K, .int .i64 N, .int .i64 Q] 25)
  have bA := Blk.new (w.alloc (.cells #[.int .i64 W, .int .i64 H, .int .i64 G] 23)) 25 #[.bool K, .int .i64 N, .int .i64 Q]
  rw [World.size_alloc] at bA
  have H1 := hide (seq_calls W H G)
  have H2 := hide (refseq_calls W H G)
  have H3 := hide (head_calls K N Q W H G)
  have H4 := hide (refhead_calls K N Q W H G)
  have H5 := hide (right_calls W H G)
  have H6 := hide (refright_calls W H G)
  have H7 := hide (fits_calls K N Q W H G)
  have H8 := hide (reffits_calls K N Q W H G)
  have qE : (Syn.seqE W H G == Syn.seqE W H G) = true := by simp
  have qF : (Syn.headE K N Q W H G == Syn.headE K N Q W H G) = true := by simp
  have qR : (Syn.rightB W H G == Syn.rightB W H G) = true := by simp
  have qT : (Syn.fitsB K N Q W H G == Syn.fitsB K N Q W H G) = true := by simp
  generalize Syn.seqE W H G = SE at *
  generalize Syn.headE K N Q W H G = HE at *
  generalize Syn.rightB W H G = RB at *
  generalize Syn.fitsB K N Q W H G = FB at *
  generalize Syn.seqL W H G = SL at *
  generalize Syn.headL K N Q W H G = HL at *
  go_enter Try.func3, Try.ntmps3
  go_wp2_with fail
  generalize (w.alloc (.cells #[.int .i64 W, .int .i64 H, .int .i64 G] 23)).alloc (.cells #[.bool K, .int .i64 N, .int .i64 Q] 25) = W0 at *
  refine (H1.out _).mono ?_
  rintro e w1 ⟨A1, n1, c1, rfl, o1, g1, b1⟩
  have bS1 := bS.below b1 bS.lt
  have bA1 := bA.below b1 bA.lt
  have s0 : w1.cell? ⟨w.heap.size, 0, none⟩ = some (.int .i64 W) := bS1.cell 0
  have s1 : w1.cell? ⟨w.heap.size, 1, none⟩ = some (.int .i64 H) := bS1.cell 1
  have s2 : w1.cell? ⟨w.heap.size, 2, none⟩ = some (.int .i64 G) := bS1.cell 2
  go_wp2_with fail
  refine (H2.out _).mono ?_
  rintro e w2 ⟨A2, n2, c2, rfl, o2, g2, b2⟩
  have bS2 := bS1.below b2 bS1.lt
  have bA2 := bA1.below b2 bA1.lt
  have s0 : w2.cell? ⟨w.heap.size, 0, none⟩ = some (.int .i64 W) := bS2.cell 0
  have s1 : w2.cell? ⟨w.heap.size, 1, none⟩ = some (.int .i64 H) := bS2.cell 1
  have s2 : w2.cell? ⟨w.heap.size, 2, none⟩ = some (.int .i64 G) := bS2.cell 2
  have h0 : w2.cell? ⟨w.heap.size + 1, 0, none⟩ = some (.bool K) := bA2.cell 0
  have h1 : w2.cell? ⟨w.heap.size + 1, 1, none⟩ = some (.int .i64 N) := bA2.cell 1
  have h2 : w2.cell? ⟨w.heap.size + 1, 2, none⟩ = some (.int .i64 Q) := bA2.cell 2
  have o12 := o1.below b2 o1.lt
  clear o1 bS1 bA1
  go_wp2_with fail
  refine (H3.out _).mono ?_
  rintro e w3 ⟨A3, n3, c3, rfl, o3, g3, b3⟩
  have bS3 := bS2.below b3 bS2.lt
  have bA3 := bA2.below b3 bA2.lt
  have s0 : w3.cell? ⟨w.heap.size, 0, none⟩ = some (.int .i64 W) := bS3.cell 0
  have s1 : w3.cell? ⟨w.heap.size, 1, none⟩ = some (.int .i64 H) := bS3.cell 1
  have s2 : w3.cell? ⟨w.heap.size, 2, none⟩ = some (.int .i64 G) := bS3.cell 2
  have h0 : w3.cell? ⟨w.heap.size + 1, 0, none⟩ = some (.bool K) := bA3.cell 0
  have h1 : w3.cell? ⟨w.heap.size + 1, 1, none⟩ = some (.int .i64 N) := bA3.cell 1
  have h2 : w3.cell? ⟨w.heap.size + 1, 2, none⟩ = some (.int .i64 Q) := bA3.cell 2
  have o13 := o12.below b3 o12.lt
  have o23 := o2.below b3 o2.lt
  clear o12 o2 bS2 bA2
  go_wp2_with fail
  refine (H4.out _).mono ?_
  rintro e w4 ⟨A4, n4, c4, rfl, o4, g4, b4⟩
  have bS4 := bS3.below b4 bS3.lt
  have bA4 := bA3.below b4 bA3.lt
  have o14 := o13.below b4 o13.lt
  have o24 := o23.below b4 o23.lt
  have o34 := o3.below b4 o3.lt
  have o44 := o4
  have bSd := bS4
  have bAd := bA4
  have beld : Below w.heap.size w w4 := bb0.trans ((bnext (bnext (bnext b1 b2) b3) b4).mono bb0.size)
  clear o13 o23 o3 o4 bS3 bA3 bS4 bA4 b1 b2 b3 b4 g1 g2 g3 g4 s0 s1 s2 h0 h1 h2 bb0 bS bA
  have cv1 : ∀ w', Below w4.heap.size w4 w' → Sem.run Try.prog (convert 26 9 (.slice A1 n1 c1)) w' = .ok (.string (str SL)) w' := fun w' b => run_conv8 bytesT Try.underlying9 A1 n1 c1 _ (o14.byt.below b) o14.1
  have cv2 : ∀ w', Below w4.heap.size w4 w' → Sem.run Try.prog (convert 26 9 (.slice A2 n2 c2)) w' = .ok (.string (str SL)) w' := fun w' b => run_conv8 bytesT Try.underlying9 A2 n2 c2 _ (o24.byt.below b) o24.1
  have cv3 : ∀ w', Below w4.heap.size w4 w' → Sem.run Try.prog (convert 26 9 (.slice A3 n3 c3)) w' = .ok (.string (str HL)) w' := fun w' b => run_conv8 bytesT Try.underlying9 A3 n3 c3 _ (o34.byt.below b) o34.1
  have cv4 : ∀ w', Below w4.heap.size w4 w' → Sem.run Try.prog (convert 26 9 (.slice A4 n4 c4)) w' = .ok (.string (str HL)) w' := fun w' b => run_conv8 bytesT Try.underlying9 A4 n4 c4 _ (o44.byt.below b) o44.1
  go_wp2
  go_region_held3 (fun w' => Below w4.heap.size w4 w' ∧ w'.cell? ⟨w.heap.size, 0, none⟩ = some (.int .i64 W) ∧ w'.cell? ⟨w.heap.size, 1, none⟩ = some (.int .i64 H) ∧ w'.cell? ⟨w.heap.size, 2, none⟩ = some (.int .i64 G) ∧ w'.cell? ⟨w.heap.size + 1, 0, none⟩ = some (.bool K) ∧ w'.cell? ⟨w.heap.size + 1, 1, none⟩ = some (.int .i64 N) ∧ w'.cell? ⟨w.heap.size + 1, 2, none⟩ = some (.int .i64 Q))
    (first | exact ⟨(Below.refl _ _).drew, bSd.cell 0, bSd.cell 1, bSd.cell 2, bAd.cell 0, bAd.cell 1, bAd.cell 2⟩ | exact ⟨d1, (bSd.below d1 bSd.lt).cell 0, (bSd.below d1 bSd.lt).cell 1, (bSd.below d1 bSd.lt).cell 2, (bAd.below d1 bAd.lt).cell 0, (bAd.below d1 bAd.lt).cell 1, (bAd.below d1 bAd.lt).cell 2⟩ | exact ⟨d2, (bSd.below d2 bSd.lt).cell 0, (bSd.below d2 bSd.lt).cell 1, (bSd.below d2 bSd.lt).cell 2, (bAd.below d2 bAd.lt).cell 0, (bAd.below d2 bAd.lt).cell 1, (bAd.below d2 bAd.lt).cell 2⟩ | exact ⟨d3, (bSd.below d3 bSd.lt).cell 0, (bSd.below d3 bSd.lt).cell 1, (bSd.below d3 bSd.lt).cell 2, (bAd.below d3 bAd.lt).cell 0, (bAd.below d3 bAd.lt).cell 1, (bAd.below d3 bAd.lt).cell 2⟩ | exact ⟨d4, (bSd.below d4 bSd.lt).cell 0, (bSd.below d4 bSd.lt).cell 1, (bSd.below d4 bSd.lt).cell 2, (bAd.below d4 bAd.lt).cell 0, (bAd.below d4 bAd.lt).cell 1, (bAd.below d4 bAd.lt).cell 2⟩ | exact ⟨d5, (bSd.below d5 bSd.lt).cell 0, (bSd.below d5 bSd.lt).cell 1, (bSd.below d5 bSd.lt).cell 2, (bAd.below d5 bAd.lt).cell 0, (bAd.below d5 bAd.lt).cell 1, (bAd.below d5 bAd.lt).cell 2⟩)
    (first
      | (go_at_call 12; ((with_reducible refine (alive12_calls _).mono ?_)); rintro e t1 ⟨rfl, f1⟩; have d1 : Below w4.heap.size w4 t1 := (Below.refl w4.heap.size w4).drew.trans f1)
      | (go_at_call 13; ((with_reducible refine (H5.out _).mono ?_)); rintro e t2 ⟨rfl, f2⟩; have d2 := bnext d1 f2)
      | (go_at_call 14; ((with_reducible refine (H6.out _).mono ?_)); rintro e t3 ⟨rfl, f3⟩; have d3 := bnext d2 f3)
      | (go_at_call 15; ((with_reducible refine (H7.out _).mono ?_)); rintro e t4 ⟨rfl, f4⟩; have d4 := bnext d3 f4)
      | (go_at_call 16; ((with_reducible refine (H8.out _).mono ?_)); rintro e t5 ⟨rfl, f5⟩; have d5 := bnext d4 f5))
  all_goals
    go_wp2
    go_ret
    exact ⟨rfl, beld.trans (d5.mono beld.size)⟩
end Go.Proofs.Ytapfapggepagmaa
