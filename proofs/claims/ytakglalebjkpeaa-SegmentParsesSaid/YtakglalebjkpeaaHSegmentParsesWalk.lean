/- The statement SegmentParses walked: it answers true. Conditions: the argument as it came in. -/
import Derived.Test.YtakglalebjkpeaaHLaw17Alive
import Derived.Test.YtakglalebjkpeaaHSegSame
import Derived.Test.YtakglalebjkpeaaHSegSealedR
import Derived.Test.YtakglalebjkpeaaHSegParseIR
import Derived.Test.YtakglalebjkpeaaHSegParseMR
namespace Go.Proofs.Ytakglalebjkpeaa.C17
open Go.RowKit Kin Go.Proofs.Ytakglalebjkpeaa Go.Proofs.Ytakglalebjkpeaa.C16

set_option maxRecDepth 100000 in
set_option maxHeartbeats 8000000 in
theorem segmentParses_walk (A : Option Addr) (n c : Nat) (b : List UInt8) (w : World) (hn : n = b.length) (hm : n ≤ 9223372036854775807) (hc : n ≤ c) (hB : Byt w w.heap.size A b) :
    Calls Try.prog 6 #[.slice A n c] w (C16.RetBool w true) := by
  have HB : Hid (∀ w', Below w.heap.size w w' → Byt w' w'.heap.size A b) := fun w' h => (hB.below h).more h.size
  have HN := hide hn
  clear hn hB
  by_cases hl : 2000 < n
  · have i1 : (2000 : Int) < (n : Int) := by omega
    go_enter Try.func6, Try.ntmps6
    go_wp2_with fail
    refine (alive17_calls _).mono ?_
    rintro e w2 ⟨rfl, b2⟩
    go_wp2
    go_ret
    exact ⟨rfl, b2⟩
  · have i1 : ¬ (2000 : Int) < (n : Int) := by omega
    have hn2 : n ≤ 2000 := by omega
    clear hl
    have HPI : Hid (∀ w', Below w.heap.size w w' → _) := fun w' h => parseI_calls A n c b w' HN.out hc (by omega) (HB.out w' h)
    have HPR : Hid (∀ w', Below w.heap.size w w' → _) := fun w' h => refparseI_calls A n c b w' HN.out hc (by omega) (HB.out w' h)
    have HPM : Hid (∀ w', Below w.heap.size w w' → _) := fun w' h => parseM_calls A n c b w' HN.out hc (by omega) (HB.out w' h)
    have HPN : Hid (∀ w', Below w.heap.size w w' → _) := fun w' h => refparseM_calls A n c b w' HN.out hc (by omega) (HB.out w' h)
    have HSC : Hid (∀ w', Below w.heap.size w w' → _) := fun w' h => sealed_calls A n c b w' HN.out hc (by omega) (HB.out w' h)
    have HSR : Hid (∀ w', Below w.heap.size w w' → _) := fun w' h => refsealed_calls A n c b w' HN.out hc (by omega) (HB.out w' h)
    unfold RetIni at HPI HPR
    unfold RetMed at HPM HPN
    generalize Sg.piR b = iR at *
    generalize Sg.pmR b = mR at *
    generalize Sg.piE b = pe at *
    generalize Sg.pmE b = pme at *
    generalize Sg.sealed b = sb at *
    obtain ⟨t1, W1, H1, G1, S1, T1⟩ := iR
    obtain ⟨N1, F1, L1⟩ := mR
    go_enter Try.func6, Try.ntmps6
    go_wp2_with fail
    refine (HPI.out w (Below.refl _ _)).mono ?_
    rintro e w1 ⟨rfl, b1⟩
    have e1 : Below w1.heap.size w1 (w1.alloc (.cells #[.string t1, .int .i64 W1, .int .i64 H1, .int .i64 G1, .int .i64 S1, .int .i64 T1] 25)) := (Below.refl _ _).alloc (Nat.le_refl _) _
    have bel1 := bnext b1 e1
    have bX1 := Blk.new w1 25 #[.string t1, .int .i64 W1, .int .i64 H1, .int .i64 G1, .int .i64 S1, .int .i64 T1]
    clear b1 e1 HPI
    go_wp2_with fail
    refine (HPR.out _ bel1).mono ?_
    generalize hg1 : w1.heap.size = g1 at *
    generalize w1.alloc (.cells #[.string t1, .int .i64 W1, .int .i64 H1, .int .i64 G1, .int .i64 S1, .int .i64 T1] 25) = V1 at *
    clear hg1
    rintro e w2 ⟨rfl, b2⟩
    have e2 : Below w2.heap.size w2 (w2.alloc (.cells #[.string t1, .int .i64 W1, .int .i64 H1, .int .i64 G1, .int .i64 S1, .int .i64 T1] 25)) := (Below.refl _ _).alloc (Nat.le_refl _) _
    have bb2 := bnext b2 e2
    have bel2 := bnext bel1 bb2
    have bX2 := bX1.below bb2 bX1.lt
    have bY2 := Blk.new w2 25 #[.string t1, .int .i64 W1, .int .i64 H1, .int .i64 G1, .int .i64 S1, .int .i64 T1]
    clear b2 e2 bb2 bX1 HPR
    go_wp2_with fail
    refine (HPM.out _ bel2).mono ?_
    generalize hg2 : w2.heap.size = g2 at *
    generalize w2.alloc (.cells #[.string t1, .int .i64 W1, .int .i64 H1, .int .i64 G1, .int .i64 S1, .int .i64 T1] 25) = V2 at *
    clear hg2
    rintro e w3 ⟨A3, n3, k3, ys, rfl, hS3, hD3, hn3, hm3, b3⟩
    have hD3 : Sg.dats ys = L1 := hD3
    have e3 : Below w3.heap.size w3 (w3.alloc (.cells #[.int .i64 N1, .int .i64 F1, .slice A3 n3 k3] 28)) := (Below.refl _ _).alloc (Nat.le_refl _) _
    have bb3 := bnext b3 e3
    have bel3 := bnext bel2 bb3
    have bX3 := bX2.below bb3 bX2.lt
    have bY3 := bY2.below bb3 bY2.lt
    have bM3 := Blk.new w3 28 #[.int .i64 N1, .int .i64 F1, .slice A3 n3 k3]
    have hS4 := hS3.of_below e3
    have HN3 := hide hn3
    have HD3 := hide hD3
    clear b3 e3 bb3 bX2 bY2 hS3 hn3 hD3 HPM
    go_wp2_with fail
    refine (HPN.out _ bel3).mono ?_
    generalize hg3 : w3.heap.size = g3 at *
    generalize w3.alloc (.cells #[.int .i64 N1, .int .i64 F1, .slice A3 n3 k3] 28) = V3 at *
    clear hg3
    rintro e w4 ⟨A4, n4, k4, zs, rfl, hS5, hD4, hn4, hm4, b4⟩
    have hD4 : Sg.dats zs = L1 := hD4
    have e4 : Below w4.heap.size w4 (w4.alloc (.cells #[.int .i64 N1, .int .i64 F1, .slice A4 n4 k4] 28)) := (Below.refl _ _).alloc (Nat.le_refl _) _
    have bb4 := bnext b4 e4
    have bel4 := bnext bel3 bb4
    have bX4 := bX3.below bb4 bX3.lt
    have bY4 := bY3.below bb4 bY3.lt
    have bM4 := bM3.below bb4 bM3.lt
    have bN4 := Blk.new w4 28 #[.int .i64 N1, .int .i64 F1, .slice A4 n4 k4]
    have hS6 := hS4.of_below bb4
    have hS7 := hS5.of_below e4
    have HN4 := hide hn4
    have HD4 := hide hD4
    clear b4 e4 bb4 bX3 bY3 bM3 hS4 hS5 hn4 hD4 HPN
    go_wp2_with fail
    generalize hg4 : w4.heap.size = g4 at *
    generalize w4.alloc (.cells #[.int .i64 N1, .int .i64 F1, .slice A4 n4 k4] 28) = V4 at *
    clear hg4
    have HSQ : Hid (sameM N1 F1 (Sg.dats ys) N1 F1 (Sg.dats zs) = true) := by rw [HD3.out, HD4.out]; exact decide_eq_true ⟨rfl, rfl, rfl⟩
    have HSM : Hid (∀ w', Below V4.heap.size V4 w' → _) := fun w' h => same_calls N1 F1 N1 F1 A3 A4 n3 k3 n4 k4 ys zs w' HN3.out (by omega) HN4.out (hS6.of_below h) (hS7.of_below h)
    rw [HSQ.out] at HSM
    refine (alive17_calls _).mono ?_
    rintro e w5 ⟨rfl, b5⟩
    have bel5 := bnext bel4 b5
    have bX5 := bX4.below b5 bX4.lt
    have bY5 := bY4.below b5 bY4.lt
    have bM5 := bM4.below b5 bM4.lt
    have bN5 := bN4.below b5 bN4.lt
    obtain ⟨c0, c1, c2, c3, c4, c5⟩ := ini_cells bX5
    obtain ⟨d0, d1, d2, d3, d4, d5⟩ := ini_cells bY5
    obtain ⟨m0, m1, m2⟩ := med_cells bM5
    obtain ⟨p0, p1, p2⟩ := med_cells bN5
    have HS1 := hide (HSM.out w5 b5)
    clear bX4 bY4 bM4 bN4 hS6 hS7 HSM b5 bX5 bY5 bM5 bN5
    go_wp2_with fail
    refine HS1.out.mono ?_
    rintro e w6 ⟨rfl, b6⟩
    have bel6 := bnext bel5 b6
    clear c0 c1 c2 c3 c4 c5 d0 d1 d2 d3 d4 d5 m0 m1 m2 p0 p1 p2 HS1
    go_wp2_with fail
    refine (HSC.out w6 bel6).mono ?_
    rintro e w7 ⟨rfl, b7⟩
    have bel7 := bnext bel6 b7
    go_wp2_with fail
    refine (HSR.out w7 bel7).mono ?_
    rintro e w8 ⟨rfl, b8⟩
    cases sb
    all_goals
      go_wp2
      go_ret
      exact ⟨rfl, bnext bel7 b8⟩
end Go.Proofs.Ytakglalebjkpeaa.C17
