/- The law WireBack answers true: what was written is parsed, what is parsed has these bytes. Conditions: the arguments as they came in. -/
import Derived.Test.YtijcollcncjdoaaWireSame
namespace Go.Proofs.Ytijcollcncjdoaa
open Go.RowKit Kin

theorem req_ne0 (a : Int) (p : ByteArray) (b c : Int) (w : World) : (binOp .neq 23 (reqV a p b c) (reqV a p b c)).run Try.prog w = .ok (.bool false) w := by
  have u3 := Try.underlying3
  have a3 := Try.isAgg3
  have z3 := Try.sizeOf3
  have u4 := Try.underlying9
  have a4 := Try.isAgg9
  have z4 := Try.sizeOf9
  have hS : Try.prog.underlying 23 = some (.struct (Try.prog.fieldsOf 23)) := by kernel_rfl
  rw [run_neq_struct, show (10000 : Nat) = 9999 + 1 from rfl, run_equalIn_agg w 9999 23 _ _ hS (by kernel_rfl)]
  simp only [Program.fieldsOf, Try.underlying23]
  go_simp
theorem own8_len1000 {p : ByteArray} {id fr to : Int} : (rqL id p fr to).length ≤ 1000 := by
  by_cases h : Wi.rq id p fr to = true
  · obtain ⟨_, ⟨p1, p2⟩, _⟩ := rq_of h
    unfold rqL
    rw [if_pos h]
    unfold Wi.wire Wi.body
    rw [List.length_append, List.length_append, Bit.length_pack, Wi.length_four]
    have := codes_len (rqN id p fr to) (by
      obtain ⟨⟨i1, i2⟩, ⟨p1, p2⟩, ⟨f1, f2⟩, t1, t2⟩ := rq_of h
      intro v hv
      simp only [rqN, List.mem_cons, List.not_mem_nil, or_false] at hv
      omega)
    have e : (rqN id p fr to).length = 5 := rfl
    have e2 : p.data.toList.length = p.size := rfl
    omega
  · unfold rqL; rw [if_neg h]; simp
theorem rrL_len {id st fr sz : Int} {t : List UInt8} : (rrL id st fr sz t).length ≤ 1000 + t.length := by
  by_cases h : Wi.rr id st fr sz t.length = true
  · unfold rrL
    rw [if_pos h]
    unfold Wi.wire Wi.body
    rw [List.length_append, List.length_append, Bit.length_pack, Wi.length_four]
    have := codes_len (rrN id st fr sz t.length) (by
      obtain ⟨⟨i1, i2⟩, ⟨p1, p2⟩, ⟨f1, f2⟩, ⟨t1, t2⟩, n1⟩ := rr_of h
      intro v hv
      simp only [rrN, List.mem_cons, List.not_mem_nil, or_false] at hv
      omega)
    have e : (rrN id st fr sz t.length).length = 6 := rfl
    omega
  · unfold rrL; rw [if_neg h]; simp

set_option maxRecDepth 100000 in
set_option maxHeartbeats 8000000 in
theorem wireBack_walk (id : Int) (p : ByteArray) (fr to : Int) (id' st fr' sz : Int) (A : Option Addr) (n c : Nat) (l : List UInt8) (B : Option Addr) (nb cb : Nat) (b : List UInt8) (w : World) (hp : p.size ≤ maxLen) (hn : n = l.length) (hm : n ≤ maxLen) (_hc : n ≤ c) (hA : Byt w w.heap.size A l) (hnb : nb = b.length) (hmb : nb ≤ maxLen) (hcb : nb ≤ cb) (hB : Byt w w.heap.size B b) :
    Calls Try.prog 5 #[reqV id p fr to, resV id' st fr' sz A n c, .slice B nb cb] w fun e w' => e = .returned (.bool true) ∧ Below w.heap.size w w' := by
  have HN := hide hn
  have HNB := hide hnb
  have hp' : p.size ≤ 9223372036854775807 := hp
  have hm' : n ≤ 9223372036854775807 := hm
  have hmb' : nb ≤ 9223372036854775807 := hmb
  clear hn hp hm hnb hmb
  obtain ⟨k1, k2, b0⟩ := boxed_two w id p fr to id' st fr' sz A n c
  by_cases hbig : 600 < p.size ∨ 600 < n ∨ 600 < nb
  · rcases hbig with h1 | h1
    · go_enter Try.func5, Try.ntmps5
      go_wp2_with fail
      refine (alive20_calls _).mono ?_
      rintro e w1 ⟨rfl, b1⟩
      go_wp2
      go_ret
      exact ⟨rfl, bnext b0 b1⟩
    by_cases h0 : 600 < p.size
    · go_enter Try.func5, Try.ntmps5
      go_wp2_with fail
      refine (alive20_calls _).mono ?_
      rintro e w1 ⟨rfl, b1⟩
      go_wp2
      go_ret
      exact ⟨rfl, bnext b0 b1⟩
    by_cases h2 : 600 < n
    · go_enter Try.func5, Try.ntmps5
      go_wp2_with fail
      refine (alive20_calls _).mono ?_
      rintro e w1 ⟨rfl, b1⟩
      go_wp2
      go_ret
      exact ⟨rfl, bnext b0 b1⟩
    have h3 : 600 < nb := by omega
    go_enter Try.func5, Try.ntmps5
    go_wp2_with fail
    refine (alive20_calls _).mono ?_
    rintro e w1 ⟨rfl, b1⟩
    go_wp2
    go_ret
    exact ⟨rfl, bnext b0 b1⟩
  · have h1 : ¬ 600 < p.size := by omega
    have h2 : ¬ 600 < n := by omega
    have h3 : ¬ 600 < nb := by omega
    clear hbig
    have hA1 := (hA.below b0).more b0.size
    have hB1 := (hB.below b0).more b0.size
    have HPQ := hide (fun h => (⟨pq_of (b := b) h, not_both h⟩ : _ ∧ _))
    have HPR := hide (fun h => pr_of (b := b) h)
    have hQ := prq_calls B nb cb b (boxed w id p fr to id' st fr' sz A n c) HNB.out hcb (by omega) hB1
    unfold RetQ at hQ
    clear hA hB
    go_enter Try.func5, Try.ntmps5
    go_wp2_with fail
    refine hQ.mono ?_
    generalize (boxed w id p fr to id' st fr' sz A n c) = W at *
    rintro e w1 ⟨rfl, b1⟩
    have k11 := (k1.below b1 k1.lt).alloc (.cells #[.int .i64 (Wi.pqI b), .string (Wi.pqP b), .int .i64 (Wi.pqF b), .int .i64 (Wi.pqT b)] 23)
    have k21 := (k2.below b1 k2.lt).alloc (.cells #[.int .i64 (Wi.pqI b), .string (Wi.pqP b), .int .i64 (Wi.pqF b), .int .i64 (Wi.pqT b)] 23)
    have k31 := Blk.new w1 23 #[.int .i64 (Wi.pqI b), .string (Wi.pqP b), .int .i64 (Wi.pqF b), .int .i64 (Wi.pqT b)]
    have bel0 := bnext b0 b1
    have bel1 := bel0.alloc bel0.size (.cells #[.int .i64 (Wi.pqI b), .string (Wi.pqP b), .int .i64 (Wi.pqF b), .int .i64 (Wi.pqT b)] 23)
    have bx : Below w1.heap.size w1 (w1.alloc (.cells #[.int .i64 (Wi.pqI b), .string (Wi.pqP b), .int .i64 (Wi.pqF b), .int .i64 (Wi.pqT b)] 23)) := (Below.refl _ _).alloc (Nat.le_refl _) _
    have hA2 := (((hA1.below b1).more b1.size).below bx).more bx.size
    have hB2 := (((hB1.below b1).more b1.size).below bx).more bx.size
    have hR := prr_calls B nb cb b _ HNB.out hcb (by omega) hB2
    unfold RetR at hR
    clear hQ k1 k2 b0 b1 hA1 hB1 bel0 bx
    generalize Wi.pqI b = qi at *
    generalize Wi.pqP b = qp at *
    generalize Wi.pqF b = qf at *
    generalize Wi.pqT b = qt at *
    generalize Wi.pqE b = qe at *
    generalize Wi.prI b = ri at *
    generalize Wi.prS b = rs at *
    generalize Wi.prF b = rf at *
    generalize Wi.prZ b = rz at *
    generalize Wi.prE b = re at *
    generalize Wi.prB b = rb at *
    go_wp2_with fail
    refine hR.mono ?_
    generalize w1.heap.size = gx at *
    generalize (w1.alloc (.cells #[.int .i64 qi, .string qp, .int .i64 qf, .int .i64 qt] 23)) = W1 at *
    rintro e w2 ⟨A2, n2, c2, rfl, o2, g2, b2⟩
    have k12 := (k11.below b2 k11.lt).alloc (.cells #[.int .i64 ri, .int .i64 rs, .int .i64 rf, .int .i64 rz, .slice A2 n2 c2] 27)
    have k22 := (k21.below b2 k21.lt).alloc (.cells #[.int .i64 ri, .int .i64 rs, .int .i64 rf, .int .i64 rz, .slice A2 n2 c2] 27)
    have k32 := (k31.below b2 k31.lt).alloc (.cells #[.int .i64 ri, .int .i64 rs, .int .i64 rf, .int .i64 rz, .slice A2 n2 c2] 27)
    have k42 := Blk.new w2 27 #[.int .i64 ri, .int .i64 rs, .int .i64 rf, .int .i64 rz, .slice A2 n2 c2]
    have bel2a := bnext bel1 b2
    have bel2 := bel2a.alloc bel2a.size (.cells #[.int .i64 ri, .int .i64 rs, .int .i64 rf, .int .i64 rz, .slice A2 n2 c2] 27)
    have bx : Below w2.heap.size w2 (w2.alloc (.cells #[.int .i64 ri, .int .i64 rs, .int .i64 rf, .int .i64 rz, .slice A2 n2 c2] 27)) := (Below.refl _ _).alloc (Nat.le_refl _) _
    have hA3 := (((hA2.below b2).more b2.size).below bx).more bx.size
    have hB3 := (((hB2.below b2).more b2.size).below bx).more bx.size
    have o3 := o2.alloc (.cells #[.int .i64 ri, .int .i64 rs, .int .i64 rf, .int .i64 rz, .slice A2 n2 c2] 27)
    clear hR k11 k21 k31 b2 hA2 hB2 o2 bel1 bel2a bx
    clear g2
    by_cases hqe : qe = 0
    case' pos =>
      subst hqe
      obtain ⟨⟨q1, q2⟩, q3⟩ := HPQ.out rfl
      have hQ := request_calls qi qp qf qt (w2.alloc (.cells #[.int .i64 ri, .int .i64 rs, .int .i64 rf, .int .i64 rz, .slice A2 n2 c2] 27))
      rw [q1, q2, show okE true = 0 from rfl] at hQ
      have q0 : (w2.alloc (.cells #[.int .i64 ri, .int .i64 rs, .int .i64 rf, .int .i64 rz, .slice A2 n2 c2] 27)).cell? ⟨gx, 0, none⟩ = some (.int .i64 qi) := k32.cell 0
      have q1' : (w2.alloc (.cells #[.int .i64 ri, .int .i64 rs, .int .i64 rf, .int .i64 rz, .slice A2 n2 c2] 27)).cell? ⟨gx, 1, none⟩ = some (.string qp) := k32.cell 1
      have q2' : (w2.alloc (.cells #[.int .i64 ri, .int .i64 rs, .int .i64 rf, .int .i64 rz, .slice A2 n2 c2] 27)).cell? ⟨gx, 2, none⟩ = some (.int .i64 qf) := k32.cell 2
      have q3' : (w2.alloc (.cells #[.int .i64 ri, .int .i64 rs, .int .i64 rf, .int .i64 rz, .slice A2 n2 c2] 27)).cell? ⟨gx, 3, none⟩ = some (.int .i64 qt) := k32.cell 3
      have hRQ := fun w => rq_calls qi qp qf qt w
      rw [q1] at hRQ
      clear q1 q2 HPQ HPR k42 o3
      have r1 : (re == 0) = false := by rw [Bool.eq_false_iff]; intro h; exact q3 (beq_iff_eq.1 h)
      go_wp2_with fail
      refine hQ.mono ?_
      generalize w2.heap.size = gy at *
      generalize (w2.alloc (.cells #[.int .i64 ri, .int .i64 rs, .int .i64 rf, .int .i64 rz, .slice A2 n2 c2] 27)) = W2 at *
      rintro e w3 ⟨A3, n3, c3, rfl, o3, g3, b3⟩
      have k13 := k12.below b3 k12.lt
      have k23 := k22.below b3 k22.lt
      have k33 := k32.below b3 k32.lt
      have bel3 := bnext bel2 b3
      have hA4 := (hA3.below b3).more b3.size
      have hB4 := (hB3.below b3).more b3.size
      clear q0 q1' q2' q3' k12 k22 k32 hA3 hB3 bel2 hQ g3 b3
      have q0 : w3.cell? ⟨gx, 0, none⟩ = some (.int .i64 qi) := k33.cell 0
      have q1' : w3.cell? ⟨gx, 1, none⟩ = some (.string qp) := k33.cell 1
      have q2' : w3.cell? ⟨gx, 2, none⟩ = some (.int .i64 qf) := k33.cell 2
      have q3' : w3.cell? ⟨gx, 3, none⟩ = some (.int .i64 qt) := k33.cell 3
      have cv1 : Sem.run Try.prog (convert 25 9 (.slice A3 n3 c3)) w3 = .ok (.string (str b)) w3 := run_conv8 (P := Try.prog) bytesT Try.underlying9 A3 n3 c3 _ o3.byt o3.1
      have cv2 : Sem.run Try.prog (convert 25 9 (.slice B nb cb)) w3 = .ok (.string (str b)) w3 := run_conv8 (P := Try.prog) bytesT Try.underlying9 B nb cb _ hB4 HNB.out
      clear o3 hB4 k33
      go_wp2_with fail
      refine (hRQ _).mono ?_
      rintro e V ⟨rfl, b4⟩
      have kq := k13.below b4 k13.lt
      have kr := k23.below b4 k23.lt
      have belF := bnext bel3 b4
      have hAF := (hA4.below b4).more b4.size
      clear q0 q1' q2' q3' k13 k23 bel3 hA4 b4 cv1 cv2 hRQ q3
      have q0 : V.cell? ⟨w.heap.size, 0, none⟩ = some (.int .i64 id) := kq.cell 0
      have q1 : V.cell? ⟨w.heap.size, 1, none⟩ = some (.string p) := kq.cell 1
      have q2 : V.cell? ⟨w.heap.size, 2, none⟩ = some (.int .i64 fr) := kq.cell 2
      have q3 : V.cell? ⟨w.heap.size, 3, none⟩ = some (.int .i64 to) := kq.cell 3
      have hQ := request_calls id p fr to V
      go_wp2_with fail
    case' neg =>
      have dq : (qe == 0) = false := by rw [Bool.eq_false_iff]; intro h; exact hqe (beq_iff_eq.1 h)
      clear HPQ hqe
      by_cases hre : re = 0
      case' pos =>
        subst hre
        obtain ⟨q1, q2⟩ := HPR.out rfl
        have hQ := response_calls ri rs rf rz A2 n2 c2 rb (w2.alloc (.cells #[.int .i64 ri, .int .i64 rs, .int .i64 rf, .int .i64 rz, .slice A2 n2 c2] 27)) o3.1 (by have h := rr_of q1; rw [← o3.1] at h; omega) o3.byt
        rw [← o3.1] at q1
        have q1h := hide q1
        rw [q1, q2, show okE true = 0 from rfl] at hQ
        have t0 : (w2.alloc (.cells #[.int .i64 ri, .int .i64 rs, .int .i64 rf, .int .i64 rz, .slice A2 n2 c2] 27)).cell? ⟨w2.heap.size, 0, none⟩ = some (.int .i64 ri) := k42.cell 0
        have t1 : (w2.alloc (.cells #[.int .i64 ri, .int .i64 rs, .int .i64 rf, .int .i64 rz, .slice A2 n2 c2] 27)).cell? ⟨w2.heap.size, 1, none⟩ = some (.int .i64 rs) := k42.cell 1
        have t2 : (w2.alloc (.cells #[.int .i64 ri, .int .i64 rs, .int .i64 rf, .int .i64 rz, .slice A2 n2 c2] 27)).cell? ⟨w2.heap.size, 2, none⟩ = some (.int .i64 rf) := k42.cell 2
        have t3 : (w2.alloc (.cells #[.int .i64 ri, .int .i64 rs, .int .i64 rf, .int .i64 rz, .slice A2 n2 c2] 27)).cell? ⟨w2.heap.size, 3, none⟩ = some (.int .i64 rz) := k42.cell 3
        have t4 : (w2.alloc (.cells #[.int .i64 ri, .int .i64 rs, .int .i64 rf, .int .i64 rz, .slice A2 n2 c2] 27)).cell? ⟨w2.heap.size, 4, none⟩ = some (.slice A2 n2 c2) := k42.cell 4
        have hRR := fun w => rr_calls ri rs rf rz A2 n2 c2 w (by have h := rr_of q1h.out; omega)
        rw [q1] at hRR
        clear q1 q1h q2 HPR o3
        go_wp2_with fail
        refine hQ.mono ?_
        generalize w2.heap.size = gy at *
        generalize (w2.alloc (.cells #[.int .i64 ri, .int .i64 rs, .int .i64 rf, .int .i64 rz, .slice A2 n2 c2] 27)) = W2 at *
        rintro e w3 ⟨A3, n3, c3, rfl, o3, g3, b3⟩
        have k13 := k12.below b3 k12.lt
        have k23 := k22.below b3 k22.lt
        have k43 := k42.below b3 k42.lt
        have bel3 := bnext bel2 b3
        have hA4 := (hA3.below b3).more b3.size
        have hB4 := (hB3.below b3).more b3.size
        clear t0 t1 t2 t3 t4 k12 k22 k32 k42 hA3 hB3 bel2 hQ g3 b3
        have t0 : w3.cell? ⟨gy, 0, none⟩ = some (.int .i64 ri) := k43.cell 0
        have t1 : w3.cell? ⟨gy, 1, none⟩ = some (.int .i64 rs) := k43.cell 1
        have t2 : w3.cell? ⟨gy, 2, none⟩ = some (.int .i64 rf) := k43.cell 2
        have t3 : w3.cell? ⟨gy, 3, none⟩ = some (.int .i64 rz) := k43.cell 3
        have t4 : w3.cell? ⟨gy, 4, none⟩ = some (.slice A2 n2 c2) := k43.cell 4
        have cv1 : Sem.run Try.prog (convert 25 9 (.slice A3 n3 c3)) w3 = .ok (.string (str b)) w3 := run_conv8 (P := Try.prog) bytesT Try.underlying9 A3 n3 c3 _ o3.byt o3.1
        have cv2 : Sem.run Try.prog (convert 25 9 (.slice B nb cb)) w3 = .ok (.string (str b)) w3 := run_conv8 (P := Try.prog) bytesT Try.underlying9 B nb cb _ hB4 HNB.out
        clear o3 hB4 k43
        go_wp2_with fail
        refine (hRR _).mono ?_
        rintro e V ⟨rfl, b4⟩
        have kq := k13.below b4 k13.lt
        have kr := k23.below b4 k23.lt
        have belF := bnext bel3 b4
        have hAF := (hA4.below b4).more b4.size
        clear t0 t1 t2 t3 t4 k13 k23 bel3 hA4 b4 cv1 cv2 hRR
        have q0 : V.cell? ⟨w.heap.size, 0, none⟩ = some (.int .i64 id) := kq.cell 0
        have q1 : V.cell? ⟨w.heap.size, 1, none⟩ = some (.string p) := kq.cell 1
        have q2 : V.cell? ⟨w.heap.size, 2, none⟩ = some (.int .i64 fr) := kq.cell 2
        have q3 : V.cell? ⟨w.heap.size, 3, none⟩ = some (.int .i64 to) := kq.cell 3
        have hQ := request_calls id p fr to V
        go_wp2_with fail
      case' neg =>
        have dr : (re == 0) = false := by rw [Bool.eq_false_iff]; intro h; exact hre (beq_iff_eq.1 h)
        have kq := k12
        have kr := k22
        have belF := bel2
        have hAF := hA3
        clear HPR hre k12 k22 k32 k42 o3 bel2 hA3 hB3
        have q0 : (w2.alloc (.cells #[.int .i64 ri, .int .i64 rs, .int .i64 rf, .int .i64 rz, .slice A2 n2 c2] 27)).cell? ⟨w.heap.size, 0, none⟩ = some (.int .i64 id) := kq.cell 0
        have q1 : (w2.alloc (.cells #[.int .i64 ri, .int .i64 rs, .int .i64 rf, .int .i64 rz, .slice A2 n2 c2] 27)).cell? ⟨w.heap.size, 1, none⟩ = some (.string p) := kq.cell 1
        have q2 : (w2.alloc (.cells #[.int .i64 ri, .int .i64 rs, .int .i64 rf, .int .i64 rz, .slice A2 n2 c2] 27)).cell? ⟨w.heap.size, 2, none⟩ = some (.int .i64 fr) := kq.cell 2
        have q3 : (w2.alloc (.cells #[.int .i64 ri, .int .i64 rs, .int .i64 rf, .int .i64 rz, .slice A2 n2 c2] 27)).cell? ⟨w.heap.size, 3, none⟩ = some (.int .i64 to) := kq.cell 3
        have hQ := request_calls id p fr to (w2.alloc (.cells #[.int .i64 ri, .int .i64 rs, .int .i64 rf, .int .i64 rz, .slice A2 n2 c2] 27))
        go_wp2_with fail
        generalize w2.heap.size = gy at *
        generalize (w2.alloc (.cells #[.int .i64 ri, .int .i64 rs, .int .i64 rf, .int .i64 rz, .slice A2 n2 c2] 27)) = V at *
    all_goals
      refine hQ.mono ?_
      clear hQ q0 q1 q2 q3
      rintro e w5 ⟨A5, n5, c5, rfl, o5, g5, b5⟩
      have kq5 := kq.below b5 kq.lt
      have kr5 := kr.below b5 kr.lt
      have bel5 := bnext belF b5
      have hA5 := (hAF.below b5).more b5.size
      clear kq kr belF hAF b5 g5
      cases hq : Wi.rq id p fr to
      case' true =>
        rw [show okE true = 0 from rfl]
        obtain ⟨v1, v2, v3, v4, v5⟩ := pq_back hq
        have hl5 := own8_len1000 (p := p) (id := id) (fr := fr) (to := to)
        have hQ := prq_calls A5 n5 c5 _ w5 o5.1 (own8_cap o5) (by rw [o5.1]; omega) o5.byt
        unfold RetQ at hQ
        rw [v1, v2, v3, v4, v5] at hQ
        clear v1 v2 v3 v4 v5 hl5 o5 hq
        go_wp2_with fail
        refine hQ.mono ?_
        rintro e w6 ⟨rfl, b6⟩
        have bx : Below w6.heap.size w6 (w6.alloc (.cells #[.int .i64 id, .string p, .int .i64 fr, .int .i64 to] 23)) := (Below.refl _ _).alloc (Nat.le_refl _) _
        have b7 := bnext b6 bx
        have kz := Blk.new w6 23 #[.int .i64 id, .string p, .int .i64 fr, .int .i64 to]
        have kq6 := kq5.below b7 kq5.lt
        have kr := kr5.below b7 kr5.lt
        have bel6 := bnext bel5 b7
        have hA6 := (hA5.below b7).more b7.size
        clear bx b6 b7 kr5 kq5 hA5 bel5 hQ
        have y0 : (w6.alloc (.cells #[.int .i64 id, .string p, .int .i64 fr, .int .i64 to] 23)).cell? ⟨w6.heap.size, 0, none⟩ = some (.int .i64 id) := kz.cell 0
        have y1 : (w6.alloc (.cells #[.int .i64 id, .string p, .int .i64 fr, .int .i64 to] 23)).cell? ⟨w6.heap.size, 1, none⟩ = some (.string p) := kz.cell 1
        have y2 : (w6.alloc (.cells #[.int .i64 id, .string p, .int .i64 fr, .int .i64 to] 23)).cell? ⟨w6.heap.size, 2, none⟩ = some (.int .i64 fr) := kz.cell 2
        have y3 : (w6.alloc (.cells #[.int .i64 id, .string p, .int .i64 fr, .int .i64 to] 23)).cell? ⟨w6.heap.size, 3, none⟩ = some (.int .i64 to) := kz.cell 3
        have q0 : (w6.alloc (.cells #[.int .i64 id, .string p, .int .i64 fr, .int .i64 to] 23)).cell? ⟨w.heap.size, 0, none⟩ = some (.int .i64 id) := kq6.cell 0
        have q1 : (w6.alloc (.cells #[.int .i64 id, .string p, .int .i64 fr, .int .i64 to] 23)).cell? ⟨w.heap.size, 1, none⟩ = some (.string p) := kq6.cell 1
        have q2 : (w6.alloc (.cells #[.int .i64 id, .string p, .int .i64 fr, .int .i64 to] 23)).cell? ⟨w.heap.size, 2, none⟩ = some (.int .i64 fr) := kq6.cell 2
        have q3 : (w6.alloc (.cells #[.int .i64 id, .string p, .int .i64 fr, .int .i64 to] 23)).cell? ⟨w.heap.size, 3, none⟩ = some (.int .i64 to) := kq6.cell 3
        have t0 : (w6.alloc (.cells #[.int .i64 id, .string p, .int .i64 fr, .int .i64 to] 23)).cell? ⟨w.heap.size + 1, 0, none⟩ = some (.int .i64 id') := kr.cell 0
        have t1 : (w6.alloc (.cells #[.int .i64 id, .string p, .int .i64 fr, .int .i64 to] 23)).cell? ⟨w.heap.size + 1, 1, none⟩ = some (.int .i64 st) := kr.cell 1
        have t2 : (w6.alloc (.cells #[.int .i64 id, .string p, .int .i64 fr, .int .i64 to] 23)).cell? ⟨w.heap.size + 1, 2, none⟩ = some (.int .i64 fr') := kr.cell 2
        have t3 : (w6.alloc (.cells #[.int .i64 id, .string p, .int .i64 fr, .int .i64 to] 23)).cell? ⟨w.heap.size + 1, 3, none⟩ = some (.int .i64 sz) := kr.cell 3
        have t4 : (w6.alloc (.cells #[.int .i64 id, .string p, .int .i64 fr, .int .i64 to] 23)).cell? ⟨w.heap.size + 1, 4, none⟩ = some (.slice A n c) := kr.cell 4
        have hne := req_ne0 id p fr to (w6.alloc (.cells #[.int .i64 id, .string p, .int .i64 fr, .int .i64 to] 23))
        have hR := response_calls id' st fr' sz A n c l (w6.alloc (.cells #[.int .i64 id, .string p, .int .i64 fr, .int .i64 to] 23)) HN.out (by omega) hA6
        clear kz kq6
        go_wp2_with fail
        clear y0 y1 y2 y3 q0 q1 q2 q3 t0 t1 t2 t3 t4 hne
        generalize w6.heap.size = gz at *
        generalize (w6.alloc (.cells #[.int .i64 id, .string p, .int .i64 fr, .int .i64 to] 23)) = U at *
      case' false =>
        rw [show okE false = 201 from rfl]
        have kr := kr5
        have bel6 := bel5
        have hA6 := hA5
        clear kr5 kq5 hA5 bel5 o5 hq
        have t0 : w5.cell? ⟨w.heap.size + 1, 0, none⟩ = some (.int .i64 id') := kr.cell 0
        have t1 : w5.cell? ⟨w.heap.size + 1, 1, none⟩ = some (.int .i64 st) := kr.cell 1
        have t2 : w5.cell? ⟨w.heap.size + 1, 2, none⟩ = some (.int .i64 fr') := kr.cell 2
        have t3 : w5.cell? ⟨w.heap.size + 1, 3, none⟩ = some (.int .i64 sz) := kr.cell 3
        have t4 : w5.cell? ⟨w.heap.size + 1, 4, none⟩ = some (.slice A n c) := kr.cell 4
        have hR := response_calls id' st fr' sz A n c l w5 HN.out (by omega) hA6
        go_wp2_with fail
        clear t0 t1 t2 t3 t4
        generalize w5 = U at *
      all_goals
        refine hR.mono ?_
        clear hR
        rintro e w7 ⟨A7, n7, c7, rfl, o7, g7, b7⟩
        have kr7 := kr.below b7 kr.lt
        have bel7 := bnext bel6 b7
        have hA7 := (hA6.below b7).more b7.size
        clear kr bel6 hA6 b7 g7
        cases hr : Wi.rr id' st fr' sz n
        · rw [show okE false = 201 from rfl]
          have hRR := fun w => rr_calls id' st fr' sz A n c w (by omega)
          rw [hr] at hRR
          clear o7 hA7 hr
          go_wp2_with fail
          refine (alive20_calls _).mono ?_
          rintro e w8 ⟨rfl, b8⟩
          have kr8 := kr7.below b8 kr7.lt
          have bel8 := bnext bel7 b8
          clear kr7 bel7 b8
          have t0 : w8.cell? ⟨w.heap.size + 1, 0, none⟩ = some (.int .i64 id') := kr8.cell 0
          have t1 : w8.cell? ⟨w.heap.size + 1, 1, none⟩ = some (.int .i64 st) := kr8.cell 1
          have t2 : w8.cell? ⟨w.heap.size + 1, 2, none⟩ = some (.int .i64 fr') := kr8.cell 2
          have t3 : w8.cell? ⟨w.heap.size + 1, 3, none⟩ = some (.int .i64 sz) := kr8.cell 3
          have t4 : w8.cell? ⟨w.heap.size + 1, 4, none⟩ = some (.slice A n c) := kr8.cell 4
          go_wp2_with fail
          refine (hRR _).mono ?_
          rintro e w9 ⟨rfl, b9⟩
          have bel9 := bnext bel8 b9
          clear t0 t1 t2 t3 t4 kr8 bel8 b9 hRR
          go_wp2
          go_ret
          exact ⟨rfl, bel9⟩
        · rw [show okE true = 0 from rfl]
          rw [HN.out] at hr
          obtain ⟨v1, v2, v3, v4, v5, v6⟩ := pr_back hr
          have hl7 := rrL_len (id := id') (st := st) (fr := fr') (sz := sz) (t := l)
          have hQ := prr_calls A7 n7 c7 _ w7 o7.1 (own8_cap o7) (by rw [o7.1]; rw [← HN.out] at hl7; omega) o7.byt
          unfold RetR at hQ
          rw [v1, v2, v3, v4, v5, v6] at hQ
          clear v1 v2 v3 v4 v5 v6 hl7 o7 hr
          go_wp2_with fail
          refine hQ.mono ?_
          rintro e w8 ⟨A8, n8, c8, rfl, o8, g8, b8⟩
          have bx : Below w8.heap.size w8 (w8.alloc (.cells #[.int .i64 id', .int .i64 st, .int .i64 fr', .int .i64 sz, .slice A8 n8 c8] 27)) := (Below.refl _ _).alloc (Nat.le_refl _) _
          have b9 := bnext b8 bx
          have kz := Blk.new w8 27 #[.int .i64 id', .int .i64 st, .int .i64 fr', .int .i64 sz, .slice A8 n8 c8]
          have kr9 := kr7.below b9 kr7.lt
          have bel9 := bnext bel7 b9
          have hA9 := (hA7.below b9).more b9.size
          have o9 := o8.alloc (.cells #[.int .i64 id', .int .i64 st, .int .i64 fr', .int .i64 sz, .slice A8 n8 c8] 27)
          clear bx b8 b9 kr7 hA7 bel7 hQ o8 g8
          go_wp2_with fail
          refine (alive20_calls _).mono ?_
          generalize w8.heap.size = gz at *
          generalize (w8.alloc (.cells #[.int .i64 id', .int .i64 st, .int .i64 fr', .int .i64 sz, .slice A8 n8 c8] 27)) = U8 at *
          rintro e wa ⟨rfl, ba⟩
          have kra := kr9.below ba kr9.lt
          have kza := kz.below ba kz.lt
          have bela := bnext bel9 ba
          have hAa := (hA9.below ba).more ba.size
          have oa := o9.below ba o9.lt
          have hS := sameResp_calls id' st fr' sz A8 A n8 c8 n c l wa oa.1 HN.out oa.byt hAa
          clear kr9 kz bel9 hA9 o9 ba oa hAa
          have t0 : wa.cell? ⟨w.heap.size + 1, 0, none⟩ = some (.int .i64 id') := kra.cell 0
          have t1 : wa.cell? ⟨w.heap.size + 1, 1, none⟩ = some (.int .i64 st) := kra.cell 1
          have t2 : wa.cell? ⟨w.heap.size + 1, 2, none⟩ = some (.int .i64 fr') := kra.cell 2
          have t3 : wa.cell? ⟨w.heap.size + 1, 3, none⟩ = some (.int .i64 sz) := kra.cell 3
          have t4 : wa.cell? ⟨w.heap.size + 1, 4, none⟩ = some (.slice A n c) := kra.cell 4
          have z0 : wa.cell? ⟨gz, 0, none⟩ = some (.int .i64 id') := kza.cell 0
          have z1 : wa.cell? ⟨gz, 1, none⟩ = some (.int .i64 st) := kza.cell 1
          have z2 : wa.cell? ⟨gz, 2, none⟩ = some (.int .i64 fr') := kza.cell 2
          have z3 : wa.cell? ⟨gz, 3, none⟩ = some (.int .i64 sz) := kza.cell 3
          have z4 : wa.cell? ⟨gz, 4, none⟩ = some (.slice A8 n8 c8) := kza.cell 4
          go_wp2_with fail
          refine hS.mono ?_
          rintro e wb ⟨rfl, bb⟩
          have belb := bnext bela bb
          clear t0 t1 t2 t3 t4 z0 z1 z2 z3 z4 kra kza bela bb hS
          go_wp2
          go_ret
          exact ⟨rfl, belb⟩
end Go.Proofs.Ytijcollcncjdoaa
