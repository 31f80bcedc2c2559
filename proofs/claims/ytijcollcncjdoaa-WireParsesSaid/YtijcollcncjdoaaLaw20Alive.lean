/- The live question of the wire's statements: it answers true. No conditions. -/
import Derived.Test.YtijcollcncjdoaaWireBack
import Derived.Lib.SlBytesConst
namespace Go.Proofs.Ytijcollcncjdoaa
open Go.RowKit Kin

theorem own8_cap {w : World} {e : TypeId} {A : Option Addr} {n c : Nat} {l : List UInt8} (h : Own8 w e A n c l) : n ≤ c := by
  rcases h.2.2 with ⟨hv, _⟩ | ⟨g, cap, cur, hv, _, _, h1, _⟩
  · injection hv with _ h2 h3; omega
  · injection hv with _ _ h3; omega
abbrev sList : ByteArray := ⟨#[108, 105, 115, 116]⟩
theorem live_q : Wi.rq 3 sList 0 (-1) = true ∧ (rqL 3 sList 0 (-1)).length = 10 := by
  have h : Wi.rq 3 sList 0 (-1) = true := by decide +kernel
  refine ⟨h, ?_⟩
  unfold rqL
  rw [if_pos h]
  have e : (Wi.body (rqN 3 sList 0 (-1)) sList.data.toList).length = 6 := by decide +kernel
  unfold Wi.wire
  rw [List.length_append, e, Wi.length_four]
theorem live_r : Wi.rr 3 1 0 2 2 = true ∧ (rrL 3 1 0 2 [104, 105]).length ≤ 100 := by
  have h : Wi.rr 3 1 0 2 2 = true := by decide +kernel
  refine ⟨h, ?_⟩
  have h' : Wi.rr 3 1 0 2 ([104, 105] : List UInt8).length = true := h
  unfold rrL
  rw [if_pos h']
  have e : (Wi.body (rrN 3 1 0 2 [104, 105].length) [104, 105]).length ≤ 20 := by decide +kernel
  unfold Wi.wire
  rw [List.length_append, Wi.length_four]
  omega

set_option maxRecDepth 100000 in
set_option maxHeartbeats 2000000 in
theorem alive20_calls (w : World) : Calls Try.prog 7 #[] w (RetBool w true) := by
  have hQ := request_calls 3 sList 0 (-1) w
  rw [live_q.1, show okE true = 0 from rfl] at hQ
  have HB := hide (pq_back live_q.1)
  have HR := hide (pr_back (t := [104, 105]) live_r.1)
  have HL := hide live_q.2
  have HL2 := hide live_r.2
  generalize rqL 3 sList 0 (-1) = L at *
  go_enter Try.func7, Try.ntmps7
  go_wp2_with fail
  refine hQ.mono ?_
  rintro e w1 ⟨A1, n1, c1, rfl, o1, g1, b1⟩
  have hn1 : n1 = 10 := by rw [o1.1]; exact HL.out
  subst hn1
  have hp := prq_calls A1 10 c1 L w1 o1.1 (own8_cap o1) (by omega) o1.byt
  obtain ⟨e1, e2, e3, e4, e5⟩ := HB.out
  unfold RetQ at hp
  rw [e1, e2, e3, e4, e5] at hp
  clear hQ o1 HB e1 e2 e3 e4 e5 HL
  go_wp2_with fail
  refine hp.mono ?_
  rintro e w2 ⟨rfl, b2⟩
  have bel2 := bnext b1 b2
  clear hp
  have q2 := Blk.new w2 23 #[.int .i64 3, .string sList, .int .i64 0, .int .i64 (-1)]
  have bel3 : Below w.heap.size w (w2.alloc (.cells #[.int .i64 3, .string sList, .int .i64 0, .int .i64 (-1)] 23)) := bel2.alloc bel2.size _
  have kc := Lib.run_convert_bytes_const (P := Try.prog) (w2.alloc (.cells #[.int .i64 3, .string sList, .int .i64 0, .int .i64 (-1)] 23)) 25 5 #[.int .u8 104, .int .u8 105] 2 2 Try.underlying25 Try.underlying5
  rw [World.size_alloc] at kc
  have b4 : Below w.heap.size w ((w2.alloc (.cells #[.int .i64 3, .string sList, .int .i64 0, .int .i64 (-1)] 23)).alloc (.cells #[.int .u8 104, .int .u8 105] 5 (2, 3))) := bel3.alloc bel3.size _
  have y4 := Byt.new (w2.alloc (.cells #[.int .i64 3, .string sList, .int .i64 0, .int .i64 (-1)] 23)) #[.int .u8 104, .int .u8 105] 5 (2, 3) [104, 105] rfl
  have q4 := q2.alloc (.cells #[.int .u8 104, .int .u8 105] 5 (2, 3))
  rw [World.size_alloc] at y4
  have hR := response_calls 3 1 0 2 (some ⟨w2.heap.size + 1, 0, none⟩) 2 2 [104, 105] _ rfl (by omega) (y4.more (by simp))
  rw [live_r.1, show okE true = 0 from rfl] at hR
  generalize rrL 3 1 0 2 [104, 105] = L2 at *
  clear y4 q2 bel3 bel2 b1 b2
  go_wp2_with fail
  generalize (w2.alloc (.cells #[.int .i64 3, .string sList, .int .i64 0, .int .i64 (-1)] 23)).alloc (.cells #[.int .u8 104, .int .u8 105] 5 (2, 3)) = W4 at *
  refine hR.mono ?_
  rintro e w5 ⟨A5, n5, c5, rfl, o5, g5, b5⟩
  have hn5 : n5 ≤ 100 := by rw [o5.1]; exact HL2.out
  have hp := prr_calls A5 n5 c5 L2 w5 o5.1 (own8_cap o5) (by omega) o5.byt
  obtain ⟨e1, e2, e3, e4, e5, e6⟩ := HR.out
  unfold RetR at hp
  rw [e1, e2, e3, e4, e5, e6] at hp
  have bel5 := bnext b4 b5
  have q5 := q4.below b5 q4.lt
  clear hR o5 HR e1 e2 e3 e4 e5 e6 HL2 kc b4 b5 q4
  go_wp2_with fail
  refine hp.mono ?_
  rintro e w6 ⟨A6, n6, c6, rfl, o6, g6, b6⟩
  have bel6 := bnext bel5 b6
  have q6 := q5.below b6 q5.lt
  have q6' := q6.alloc (.cells #[.int .i64 3, .int .i64 1, .int .i64 0, .int .i64 2, .slice A6 n6 c6] 27)
  have r6 := Blk.new w6 27 #[.int .i64 3, .int .i64 1, .int .i64 0, .int .i64 2, .slice A6 n6 c6]
  have o6' := o6.alloc (.cells #[.int .i64 3, .int .i64 1, .int .i64 0, .int .i64 2, .slice A6 n6 c6] 27)
  have bel7 := bel6.alloc bel6.size (.cells #[.int .i64 3, .int .i64 1, .int .i64 0, .int .i64 2, .slice A6 n6 c6] 27)
  have k0 : (w6.alloc (.cells #[.int .i64 3, .int .i64 1, .int .i64 0, .int .i64 2, .slice A6 n6 c6] 27)).cell? ⟨w2.heap.size, 0, none⟩ = some (.int .i64 3) := q6'.cell 0
  have k1 : (w6.alloc (.cells #[.int .i64 3, .int .i64 1, .int .i64 0, .int .i64 2, .slice A6 n6 c6] 27)).cell? ⟨w2.heap.size, 1, none⟩ = some (.string sList) := q6'.cell 1
  have k3 : (w6.alloc (.cells #[.int .i64 3, .int .i64 1, .int .i64 0, .int .i64 2, .slice A6 n6 c6] 27)).cell? ⟨w2.heap.size, 3, none⟩ = some (.int .i64 (-1)) := q6'.cell 3
  have k4 : (w6.alloc (.cells #[.int .i64 3, .int .i64 1, .int .i64 0, .int .i64 2, .slice A6 n6 c6] 27)).cell? ⟨w6.heap.size, 4, none⟩ = some (.slice A6 n6 c6) := r6.cell 4
  have cv : Sem.run Try.prog (convert 25 9 (.slice A6 n6 c6)) (w6.alloc (.cells #[.int .i64 3, .int .i64 1, .int .i64 0, .int .i64 2, .slice A6 n6 c6] 27)) = .ok (.string ⟨#[104, 105]⟩) (w6.alloc (.cells #[.int .i64 3, .int .i64 1, .int .i64 0, .int .i64 2, .slice A6 n6 c6] 27)) := run_conv8 bytesT Try.underlying9 A6 n6 c6 _ o6'.byt o6'.1
  clear hp q6 q6' r6 o6 o6' q5 bel5 bel6 b6
  go_wp2
  go_ret
  exact ⟨rfl, bel7⟩
end Go.Proofs.Ytijcollcncjdoaa
