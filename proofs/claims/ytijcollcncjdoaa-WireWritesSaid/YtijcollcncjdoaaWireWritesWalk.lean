/- The law WireWrites answers true: a request's bytes, and a response's, are the document's. Conditions: the arguments as they came in. -/
import Derived.Test.YtijcollcncjdoaaWireLay
namespace Go.Proofs.Ytijcollcncjdoaa
open Go.RowKit Kin

set_option maxRecDepth 100000 in
set_option maxHeartbeats 8000000 in
theorem wireWrites_walk (id : Int) (p : ByteArray) (fr to : Int) (id' st fr' sz : Int) (A : Option Addr) (n c : Nat) (l : List UInt8) (w : World) (hp : p.size ≤ maxLen) (hn : n = l.length) (hm : n ≤ maxLen) (_hc : n ≤ c) (hA : Byt w w.heap.size A l) :
    Calls Try.prog 3 #[reqV id p fr to, resV id' st fr' sz A n c] w fun e w' => e = .returned (.bool true) ∧ Below w.heap.size w w' := by
  have HN := hide hn
  have hp' : p.size ≤ 9223372036854775807 := hp
  have hm' : n ≤ 9223372036854775807 := hm
  clear hn hp hm
  obtain ⟨bQ, bR, b0⟩ := boxed_two w id p fr to id' st fr' sz A n c
  by_cases h1 : 600 < p.size
  · go_enter Try.func3, Try.ntmps3
    go_wp2_with fail
    refine (alive20_calls _).mono ?_
    rintro e w1 ⟨rfl, b1⟩
    go_wp2
    go_ret
    exact ⟨rfl, bnext b0 b1⟩
  by_cases h2 : 600 < n
  · go_enter Try.func3, Try.ntmps3
    go_wp2_with fail
    refine (alive20_calls _).mono ?_
    rintro e w1 ⟨rfl, b1⟩
    go_wp2
    go_ret
    exact ⟨rfl, bnext b0 b1⟩
  have hA1 := (hA.below b0).more b0.size
  have H1 := hide (request_calls id p fr to)
  have H2 := hide (fun w => refrequest_calls id p fr to w hp')
  have H3 := hide (fun w h => response_calls id' st fr' sz A n c l w HN.out hm' h)
  have H4 := hide (fun w h => refresponse_calls id' st fr' sz A n c l w HN.out hm' h)
  have H5 := hide (rq_calls id p fr to)
  have H6 := hide (fun w => refrq_calls id p fr to w hp')
  have H7 := hide (fun w => rr_calls id' st fr' sz A n c w hm')
  have H8 := hide (fun w => refrr_calls id' st fr' sz A n c w hm')
  have qE : (okE (Wi.rq id p fr to) == okE (Wi.rq id p fr to)) = true := by simp
  have qF : (okE (Wi.rr id' st fr' sz n) == okE (Wi.rr id' st fr' sz n)) = true := by simp
  have qR : (Wi.rq id p fr to == Wi.rq id p fr to) = true := by simp
  have qT : (Wi.rr id' st fr' sz n == Wi.rr id' st fr' sz n) = true := by simp
  generalize okE (Wi.rq id p fr to) = SE at *
  generalize okE (Wi.rr id' st fr' sz n) = HE at *
  generalize Wi.rq id p fr to = RB at *
  generalize Wi.rr id' st fr' sz n = FB at *
  generalize rqL id p fr to = SL at *
  generalize rrL id' st fr' sz l = HL at *
  clear hA
  go_enter Try.func3, Try.ntmps3
  have hQ1 := H1.out (boxed w id p fr to id' st fr' sz A n c)
  go_wp2_with fail
  refine hQ1.mono ?_
  clear hQ1
  generalize (boxed w id p fr to id' st fr' sz A n c) = W0 at *
  rintro e w1 ⟨A1, n1, c1, rfl, o1, g1, b1⟩
  have bQ1 := bQ.below b1 bQ.lt
  have bR1 := bR.below b1 bR.lt
  have hA2 := (hA1.below b1).more b1.size
  have q0 : w1.cell? ⟨w.heap.size, 0, none⟩ = some (.int .i64 id) := bQ1.cell 0
  have q1 : w1.cell? ⟨w.heap.size, 1, none⟩ = some (.string p) := bQ1.cell 1
  have q2 : w1.cell? ⟨w.heap.size, 2, none⟩ = some (.int .i64 fr) := bQ1.cell 2
  have q3 : w1.cell? ⟨w.heap.size, 3, none⟩ = some (.int .i64 to) := bQ1.cell 3
  go_wp2_with fail
  refine (H2.out _).mono ?_
  rintro e w2 ⟨A2, n2, c2, rfl, o2, g2, b2⟩
  have bQ2 := bQ1.below b2 bQ1.lt
  have bR2 := bR1.below b2 bR1.lt
  have hA3 := (hA2.below b2).more b2.size
  have o12 := o1.below b2 o1.lt
  clear o1 bQ1 bR1 q0 q1 q2 q3 hA2
  have t0 : w2.cell? ⟨w.heap.size + 1, 0, none⟩ = some (.int .i64 id') := bR2.cell 0
  have t1 : w2.cell? ⟨w.heap.size + 1, 1, none⟩ = some (.int .i64 st) := bR2.cell 1
  have t2 : w2.cell? ⟨w.heap.size + 1, 2, none⟩ = some (.int .i64 fr') := bR2.cell 2
  have t3 : w2.cell? ⟨w.heap.size + 1, 3, none⟩ = some (.int .i64 sz) := bR2.cell 3
  have t4 : w2.cell? ⟨w.heap.size + 1, 4, none⟩ = some (.slice A n c) := bR2.cell 4
  go_wp2_with fail
  refine (H3.out _ hA3).mono ?_
  rintro e w3 ⟨A3, n3, c3, rfl, o3, g3, b3⟩
  have bQ3 := bQ2.below b3 bQ2.lt
  have bR3 := bR2.below b3 bR2.lt
  have hA4 := (hA3.below b3).more b3.size
  have o13 := o12.below b3 o12.lt
  have o23 := o2.below b3 o2.lt
  clear o12 o2 bQ2 bR2 t0 t1 t2 t3 t4 hA3
  have t0 : w3.cell? ⟨w.heap.size + 1, 0, none⟩ = some (.int .i64 id') := bR3.cell 0
  have t1 : w3.cell? ⟨w.heap.size + 1, 1, none⟩ = some (.int .i64 st) := bR3.cell 1
  have t2 : w3.cell? ⟨w.heap.size + 1, 2, none⟩ = some (.int .i64 fr') := bR3.cell 2
  have t3 : w3.cell? ⟨w.heap.size + 1, 3, none⟩ = some (.int .i64 sz) := bR3.cell 3
  have t4 : w3.cell? ⟨w.heap.size + 1, 4, none⟩ = some (.slice A n c) := bR3.cell 4
  go_wp2_with fail
  refine (H4.out _ hA4).mono ?_
  rintro e w4 ⟨A4, n4, c4, rfl, o4, g4, b4⟩
  have bQd := bQ3.below b4 bQ3.lt
  have bRd := bR3.below b4 bR3.lt
  have o14 := o13.below b4 o13.lt
  have o24 := o23.below b4 o23.lt
  have o34 := o3.below b4 o3.lt
  have o44 := o4
  have beld : Below w.heap.size w w4 := b0.trans ((bnext (bnext (bnext b1 b2) b3) b4).mono b0.size)
  clear o13 o23 o3 o4 bQ3 bR3 b1 b2 b3 b4 g1 g2 g3 g4 t0 t1 t2 t3 t4 b0 bQ bR hA4 hA1
  have cv1 : ∀ w', Below w4.heap.size w4 w' → Sem.run Try.prog (convert 25 9 (.slice A1 n1 c1)) w' = .ok (.string (str SL)) w' := fun w' b => run_conv8 bytesT Try.underlying9 A1 n1 c1 _ (o14.byt.below b) o14.1
  have cv2 : ∀ w', Below w4.heap.size w4 w' → Sem.run Try.prog (convert 25 9 (.slice A2 n2 c2)) w' = .ok (.string (str SL)) w' := fun w' b => run_conv8 bytesT Try.underlying9 A2 n2 c2 _ (o24.byt.below b) o24.1
  have cv3 : ∀ w', Below w4.heap.size w4 w' → Sem.run Try.prog (convert 25 9 (.slice A3 n3 c3)) w' = .ok (.string (str HL)) w' := fun w' b => run_conv8 bytesT Try.underlying9 A3 n3 c3 _ (o34.byt.below b) o34.1
  have cv4 : ∀ w', Below w4.heap.size w4 w' → Sem.run Try.prog (convert 25 9 (.slice A4 n4 c4)) w' = .ok (.string (str HL)) w' := fun w' b => run_conv8 bytesT Try.underlying9 A4 n4 c4 _ (o44.byt.below b) o44.1
  go_wp2
  go_region_held3 (fun w' => Below w4.heap.size w4 w' ∧ w'.cell? ⟨w.heap.size, 0, none⟩ = some (.int .i64 id) ∧ w'.cell? ⟨w.heap.size, 1, none⟩ = some (.string p) ∧ w'.cell? ⟨w.heap.size, 2, none⟩ = some (.int .i64 fr) ∧ w'.cell? ⟨w.heap.size, 3, none⟩ = some (.int .i64 to) ∧ w'.cell? ⟨w.heap.size + 1, 0, none⟩ = some (.int .i64 id') ∧ w'.cell? ⟨w.heap.size + 1, 1, none⟩ = some (.int .i64 st) ∧ w'.cell? ⟨w.heap.size + 1, 2, none⟩ = some (.int .i64 fr') ∧ w'.cell? ⟨w.heap.size + 1, 3, none⟩ = some (.int .i64 sz) ∧ w'.cell? ⟨w.heap.size + 1, 4, none⟩ = some (.slice A n c))
    (first | exact ⟨(Below.refl _ _).drew, bQd.cell 0, bQd.cell 1, bQd.cell 2, bQd.cell 3, bRd.cell 0, bRd.cell 1, bRd.cell 2, bRd.cell 3, bRd.cell 4⟩ | exact ⟨d1, (bQd.below d1 bQd.lt).cell 0, (bQd.below d1 bQd.lt).cell 1, (bQd.below d1 bQd.lt).cell 2, (bQd.below d1 bQd.lt).cell 3, (bRd.below d1 bRd.lt).cell 0, (bRd.below d1 bRd.lt).cell 1, (bRd.below d1 bRd.lt).cell 2, (bRd.below d1 bRd.lt).cell 3, (bRd.below d1 bRd.lt).cell 4⟩ | exact ⟨d2, (bQd.below d2 bQd.lt).cell 0, (bQd.below d2 bQd.lt).cell 1, (bQd.below d2 bQd.lt).cell 2, (bQd.below d2 bQd.lt).cell 3, (bRd.below d2 bRd.lt).cell 0, (bRd.below d2 bRd.lt).cell 1, (bRd.below d2 bRd.lt).cell 2, (bRd.below d2 bRd.lt).cell 3, (bRd.below d2 bRd.lt).cell 4⟩ | exact ⟨d3, (bQd.below d3 bQd.lt).cell 0, (bQd.below d3 bQd.lt).cell 1, (bQd.below d3 bQd.lt).cell 2, (bQd.below d3 bQd.lt).cell 3, (bRd.below d3 bRd.lt).cell 0, (bRd.below d3 bRd.lt).cell 1, (bRd.below d3 bRd.lt).cell 2, (bRd.below d3 bRd.lt).cell 3, (bRd.below d3 bRd.lt).cell 4⟩ | exact ⟨d4, (bQd.below d4 bQd.lt).cell 0, (bQd.below d4 bQd.lt).cell 1, (bQd.below d4 bQd.lt).cell 2, (bQd.below d4 bQd.lt).cell 3, (bRd.below d4 bRd.lt).cell 0, (bRd.below d4 bRd.lt).cell 1, (bRd.below d4 bRd.lt).cell 2, (bRd.below d4 bRd.lt).cell 3, (bRd.below d4 bRd.lt).cell 4⟩ | exact ⟨d5, (bQd.below d5 bQd.lt).cell 0, (bQd.below d5 bQd.lt).cell 1, (bQd.below d5 bQd.lt).cell 2, (bQd.below d5 bQd.lt).cell 3, (bRd.below d5 bRd.lt).cell 0, (bRd.below d5 bRd.lt).cell 1, (bRd.below d5 bRd.lt).cell 2, (bRd.below d5 bRd.lt).cell 3, (bRd.below d5 bRd.lt).cell 4⟩)
    (first
      | (go_at_call 7; ((with_reducible refine (alive20_calls _).mono ?_)); rintro e t1 ⟨rfl, f1⟩; have d1 : Below w4.heap.size w4 t1 := (Below.refl w4.heap.size w4).drew.trans f1)
      | (go_at_call 12; ((with_reducible refine (H5.out _).mono ?_)); rintro e t2 ⟨rfl, f2⟩; have d2 := bnext d1 f2)
      | (go_at_call 13; ((with_reducible refine (H6.out _).mono ?_)); rintro e t3 ⟨rfl, f3⟩; have d3 := bnext d2 f3)
      | (go_at_call 14; ((with_reducible refine (H7.out _).mono ?_)); rintro e t4 ⟨rfl, f4⟩; have d4 := bnext d3 f4)
      | (go_at_call 15; ((with_reducible refine (H8.out _).mono ?_)); rintro e t5 ⟨rfl, f5⟩; have d5 := bnext d4 f5))
  all_goals
    go_wp2
    go_ret
    exact ⟨rfl, beld.trans (d5.mono beld.size)⟩
end Go.Proofs.Ytijcollcncjdoaa
