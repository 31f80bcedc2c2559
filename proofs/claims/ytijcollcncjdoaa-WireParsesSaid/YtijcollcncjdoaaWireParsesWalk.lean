/- The law WireParses answers true: any bytes' request, and response, are the document's. Conditions: the arguments as they came in. -/
import Derived.Test.YtijcollcncjdoaaWireRefQ
namespace Go.Proofs.Ytijcollcncjdoaa
open Go.RowKit Kin

set_option maxRecDepth 100000 in
set_option maxHeartbeats 8000000 in
theorem wireParses_walk (B : Option Addr) (nb cb : Nat) (b : List UInt8) (w : World) (hnb : nb = b.length) (hmb : nb ≤ maxLen) (hcb : nb ≤ cb) (hB : Byt w w.heap.size B b) :
    Calls Try.prog 4 #[.slice B nb cb] w fun e w' => e = .returned (.bool true) ∧ Below w.heap.size w w' := by
  have HNB := hide hnb
  have hmb' : nb ≤ 9223372036854775807 := hmb
  clear hnb hmb
  by_cases h1 : 600 < nb
  · go_enter Try.func4, Try.ntmps4
    go_wp2_with fail
    refine (alive20_calls _).mono ?_
    rintro e w1 ⟨rfl, b1⟩
    go_wp2
    go_ret
    exact ⟨rfl, b1⟩
  · have H1 := prq_calls B nb cb b w HNB.out hcb (by omega) hB
    have H2 := hide (fun w h => refprq_calls B nb cb b w HNB.out hcb (by omega) h)
    have H3 := hide (fun w h => prr_calls B nb cb b w HNB.out hcb (by omega) h)
    have H4 := hide (fun w h => refprr_calls B nb cb b w HNB.out hcb (by omega) h)
    have qE : (Wi.pqE b == Wi.pqE b) = true := by simp
    have qF : (Wi.prE b == Wi.prE b) = true := by simp
    unfold RetQ at H1 H2
    unfold RetR at H3 H4
    generalize Wi.pqI b = qi at *
    generalize Wi.pqP b = qp at *
    generalize Wi.pqF b = qf at *
    generalize Wi.pqT b = qt at *
    generalize Wi.pqE b = qe at *
    generalize Wi.prI b = ri at *
    generalize Wi.prS b = rs at *
    generalize Wi.prF b = rf at *
    generalize Wi.prZ b = rz at *
    generalize Wi.prE b = re at *
    generalize Wi.prB b = rb at *
    go_enter Try.func4, Try.ntmps4
    go_wp2_with fail
    refine H1.mono ?_
    clear H1
    rintro e w1 ⟨rfl, b1⟩
    have x1 : Below w1.heap.size w1 (w1.alloc (.cells #[.int .i64 qi, .string qp, .int .i64 qf, .int .i64 qt] 23)) := (Below.refl _ _).alloc (Nat.le_refl _) _
    have bel1 := bnext b1 x1
    have y1 := (hB.below bel1).more bel1.size
    have k1 := Blk.new w1 23 #[.int .i64 qi, .string qp, .int .i64 qf, .int .i64 qt]
    have hQ := H2.out (w1.alloc (.cells #[.int .i64 qi, .string qp, .int .i64 qf, .int .i64 qt] 23)) y1
    clear b1 x1 hB
    go_wp2_with fail
    refine hQ.mono ?_
    clear hQ
    generalize w1.heap.size = g1 at *
    generalize w1.alloc (.cells #[.int .i64 qi, .string qp, .int .i64 qf, .int .i64 qt] 23) = V1 at *
    rintro e w2 ⟨rfl, b2⟩
    have x2 : Below w2.heap.size w2 (w2.alloc (.cells #[.int .i64 qi, .string qp, .int .i64 qf, .int .i64 qt] 23)) := (Below.refl _ _).alloc (Nat.le_refl _) _
    have bb2 := bnext b2 x2
    have bel2 := bnext bel1 bb2
    have y2 := (y1.below bb2).more bb2.size
    have k12 := k1.below bb2 k1.lt
    have k22 := Blk.new w2 23 #[.int .i64 qi, .string qp, .int .i64 qf, .int .i64 qt]
    have hQ := H3.out (w2.alloc (.cells #[.int .i64 qi, .string qp, .int .i64 qf, .int .i64 qt] 23)) y2
    clear b2 x2 bb2 bel1 y1 k1
    go_wp2_with fail
    refine hQ.mono ?_
    clear hQ
    generalize w2.heap.size = g2 at *
    generalize w2.alloc (.cells #[.int .i64 qi, .string qp, .int .i64 qf, .int .i64 qt] 23) = V2 at *
    rintro e w3 ⟨A3, n3, c3, rfl, o3, _, b3⟩
    have x3 : Below w3.heap.size w3 (w3.alloc (.cells #[.int .i64 ri, .int .i64 rs, .int .i64 rf, .int .i64 rz, .slice A3 n3 c3] 27)) := (Below.refl _ _).alloc (Nat.le_refl _) _
    have bb3 := bnext b3 x3
    have bel3 := bnext bel2 bb3
    have y3 := (y2.below bb3).more bb3.size
    have k13 := k12.below bb3 k12.lt
    have k23 := k22.below bb3 k22.lt
    have k33 := Blk.new w3 27 #[.int .i64 ri, .int .i64 rs, .int .i64 rf, .int .i64 rz, .slice A3 n3 c3]
    have o33 := o3.alloc (.cells #[.int .i64 ri, .int .i64 rs, .int .i64 rf, .int .i64 rz, .slice A3 n3 c3] 27)
    have hQ := H4.out (w3.alloc (.cells #[.int .i64 ri, .int .i64 rs, .int .i64 rf, .int .i64 rz, .slice A3 n3 c3] 27)) y3
    clear b3 x3 bb3 bel2 y2 k12 k22 o3
    go_wp2_with fail
    refine hQ.mono ?_
    clear hQ
    generalize w3.heap.size = g3 at *
    generalize w3.alloc (.cells #[.int .i64 ri, .int .i64 rs, .int .i64 rf, .int .i64 rz, .slice A3 n3 c3] 27) = V3 at *
    rintro e w4 ⟨A4, n4, c4, rfl, o4, _, b4⟩
    have x4 : Below w4.heap.size w4 (w4.alloc (.cells #[.int .i64 ri, .int .i64 rs, .int .i64 rf, .int .i64 rz, .slice A4 n4 c4] 27)) := (Below.refl _ _).alloc (Nat.le_refl _) _
    have bb4 := bnext b4 x4
    have bel4 := bnext bel3 bb4
    have k14 := k13.below bb4 k13.lt
    have k24 := k23.below bb4 k23.lt
    have k34 := k33.below bb4 k33.lt
    have k44 := Blk.new w4 27 #[.int .i64 ri, .int .i64 rs, .int .i64 rf, .int .i64 rz, .slice A4 n4 c4]
    have o34 := o33.below bb4 o33.lt
    have o44 := o4.alloc (.cells #[.int .i64 ri, .int .i64 rs, .int .i64 rf, .int .i64 rz, .slice A4 n4 c4] 27)
    clear b4 x4 bb4 bel3 y3 k13 k23 k33 o33 o4
    go_wp2_with fail
    refine (alive20_calls _).mono ?_
    generalize w4.heap.size = g4 at *
    generalize w4.alloc (.cells #[.int .i64 ri, .int .i64 rs, .int .i64 rf, .int .i64 rz, .slice A4 n4 c4] 27) = V4 at *
    rintro e w5 ⟨rfl, b5⟩
    have bel5 := bnext bel4 b5
    have k15 := k14.below b5 k14.lt
    have k25 := k24.below b5 k24.lt
    have k35 := k34.below b5 k34.lt
    have k45 := k44.below b5 k44.lt
    have o35 := o34.below b5 o34.lt
    have o45 := o44.below b5 o44.lt
    have hS := sameResp_calls ri rs rf rz A3 A4 n3 c3 n4 c4 rb w5 o35.1 o45.1 o35.byt o45.byt
    clear b5 bel4 k14 k24 k34 k44 o34 o44 o35 o45 H2 H3 H4
    have ca0 : w5.cell? ⟨g1, 0, none⟩ = some (.int .i64 qi) := k15.cell 0
    have ca1 : w5.cell? ⟨g1, 1, none⟩ = some (.string qp) := k15.cell 1
    have ca2 : w5.cell? ⟨g1, 2, none⟩ = some (.int .i64 qf) := k15.cell 2
    have ca3 : w5.cell? ⟨g1, 3, none⟩ = some (.int .i64 qt) := k15.cell 3
    have cb_0 : w5.cell? ⟨g2, 0, none⟩ = some (.int .i64 qi) := k25.cell 0
    have cb_1 : w5.cell? ⟨g2, 1, none⟩ = some (.string qp) := k25.cell 1
    have cb_2 : w5.cell? ⟨g2, 2, none⟩ = some (.int .i64 qf) := k25.cell 2
    have cb_3 : w5.cell? ⟨g2, 3, none⟩ = some (.int .i64 qt) := k25.cell 3
    have cc0 : w5.cell? ⟨g3, 0, none⟩ = some (.int .i64 ri) := k35.cell 0
    have cc1 : w5.cell? ⟨g3, 1, none⟩ = some (.int .i64 rs) := k35.cell 1
    have cc2 : w5.cell? ⟨g3, 2, none⟩ = some (.int .i64 rf) := k35.cell 2
    have cc3 : w5.cell? ⟨g3, 3, none⟩ = some (.int .i64 rz) := k35.cell 3
    have cc4 : w5.cell? ⟨g3, 4, none⟩ = some (.slice A3 n3 c3) := k35.cell 4
    have cd_0 : w5.cell? ⟨g4, 0, none⟩ = some (.int .i64 ri) := k45.cell 0
    have cd_1 : w5.cell? ⟨g4, 1, none⟩ = some (.int .i64 rs) := k45.cell 1
    have cd_2 : w5.cell? ⟨g4, 2, none⟩ = some (.int .i64 rf) := k45.cell 2
    have cd_3 : w5.cell? ⟨g4, 3, none⟩ = some (.int .i64 rz) := k45.cell 3
    have cd_4 : w5.cell? ⟨g4, 4, none⟩ = some (.slice A4 n4 c4) := k45.cell 4
    go_wp2_with fail
    refine hS.mono ?_
    rintro e w6 ⟨rfl, b6⟩
    have bel6 := bnext bel5 b6
    clear hS k15 k25 k35 k45 b6 bel5 ca0 ca1 ca2 ca3 cb_0 cb_1 cb_2 cb_3 cc0 cc1 cc2 cc3 cc4 cd_0 cd_1 cd_2 cd_3 cd_4
    go_wp2
    go_ret
    exact ⟨rfl, bel6⟩
end Go.Proofs.Ytijcollcncjdoaa
