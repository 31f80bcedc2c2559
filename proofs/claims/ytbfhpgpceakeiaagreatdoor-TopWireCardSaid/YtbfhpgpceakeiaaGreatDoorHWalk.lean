/- Texts of this claim in one: HWalk. What each proves, and on what conditions, its own words say. -/
import Derived.Test.YtbfhpgpceakeiaaGreatDoorHLaw
namespace Go.Proofs.YtbfhpgpceakeiaaGreatDoor.Tw
open Go.RowKit Kin Go.Proofs.YtbfhpgpceakeiaaGreatDoor Go.Proofs.YtbfhpgpceakeiaaGreatDoor.C20

theorem post_blk {w w' : World} {g : Nat} {T : TypeId} {cs : Array Value} (hg : w.heap.size = g) (nb : Blk w' g T cs) (b : Below g w w') : Post w w' [] [Fac.blk g T cs] := by
  subst hg
  exact Post.one b nb (by simp) rfl fun k hk => by simp at hk; omega
theorem req_ne0T (a : Int) (p : ByteArray) (b c : Int) (w : World) : (binOp .neq 27 (reqV a p b c) (reqV a p b c)).run Tryz.prog w = .ok (.bool false) w := by
  have u3 := Tryz.underlying3
  have a3 := Tryz.isAgg3
  have z3 := Tryz.sizeOf3
  have u4 := Tryz.underlying9
  have a4 := Tryz.isAgg9
  have z4 := Tryz.sizeOf9
  have hS : Tryz.prog.underlying 27 = some (.struct (Tryz.prog.fieldsOf 27)) := by kernel_rfl
  rw [run_neq_struct, show (10000 : Nat) = 9999 + 1 from rfl, run_equalIn_agg w 9999 27 _ _ hS (by kernel_rfl)]
  simp only [Program.fieldsOf, Tryz.underlying27]
  go_simp
/-- a packet's word: what a response's bytes are read as -/
def goodR (id st fr sz : Int) (l : List UInt8) (K : Int) (p : Pk) : Prop := p.l.length ≤ 1600 ∧ (Wi.rr id st fr sz l.length = true → Wi.prE p.l = 0 → Wi.prI p.l = id ∧ Wi.prS p.l = st ∧ Wi.prF p.l = fr ∧ Wi.prZ p.l = sz ∧ Wi.prB p.l = l) ∧ (Wi.rr id st fr sz l.length = true → K ≠ 3 → K ≠ 4 → Wi.prE p.l = 0) ∧ (2 < K → Wi.prE p.l ≠ 0)
def goodRq (qi : Int) (qp : ByteArray) (qf qt : Int) (K : Int) (p : Pk) : Prop := p.l.length ≤ 1600 ∧ (Wi.rq qi qp qf qt = true → Wi.pqE p.l = 0 → Wi.pqI p.l = qi ∧ Wi.pqP p.l = qp ∧ Wi.pqF p.l = qf ∧ Wi.pqT p.l = qt) ∧ (2 < K → Wi.pqE p.l ≠ 0)
theorem goodR_of {id st fr sz : Int} {l : List UInt8} {K D N : Int} {n : Nat} {p : Pk} (hn : n ≤ 600) (hl : n = l.length) (h : p.l = Ne.bend K N (rrL id st fr sz l) ∧ p.due ≤ 2 * D ∧ (K = 0 ∨ K = 2 ∨ K = 3 ∨ K = 4) ∧ 0 ≤ D ∧ D ≤ 1000) : goodR id st fr sz l K p := by
  obtain ⟨h1, _, h3, _⟩ := h
  unfold goodR
  rw [h1]
  refine ⟨Nat.le_trans (bend_len K N _) ?_, pr_bend h3⟩
  have := rrL_lenT (id := id) (st := st) (fr := fr) (sz := sz) (t := l)
  omega
theorem goodRq_of {qi : Int} {qp : ByteArray} {qf qt : Int} {K D N : Int} {p : Pk} (h : p.l = Ne.bend K N (rqL qi qp qf qt) ∧ p.due ≤ 2 * D ∧ (K = 0 ∨ K = 2 ∨ K = 3 ∨ K = 4) ∧ 0 ≤ D ∧ D ≤ 1000) : goodRq qi qp qf qt K p := by
  obtain ⟨h1, _, h3, _⟩ := h
  unfold goodRq
  rw [h1]
  refine ⟨Nat.le_trans (bend_len K N _) ?_, pq_bend h3⟩
  have := rqL_lenT (id := qi) (p := qp) (fr := qf) (to := qt)
  omega
set_option maxRecDepth 100000 in
set_option maxHeartbeats 16000000 in
theorem topWire_small (GA GB : Fac) (haw : AwakeOK GA GB) (id st fr sz : Int) (A A0 : Option Addr) (n c : Nat) (l : List UInt8) (qi : Int) (qp : ByteArray) (qf qt : Int) (K D N : Int) (w : World) (hs1 : n ≤ 600) (hs2 : qp.size ≤ 600) (hn : n = l.length) (h0 : -9223372036854775808 ≤ N) (h1 : N ≤ 9223372036854775807)
    (hA0 : ∀ w B, Byt w B A0 l → Byt w B A l) (h : Pre w [Fac.byt A0 l, GA, GB] []) :
    Calls Tryz.prog 3 #[resV id st fr sz A n c, reqV qi qp qf qt, .agg #[.int .i64 K, .int .i64 D, .int .i64 N]] w fun e w' => e = .returned (.bool true) ∧ Below w.heap.size w w' := by
  obtain ⟨gr, hgr⟩ : ∃ x, w.heap.size = x := ⟨_, rfl⟩
  obtain ⟨gq, hgq⟩ : ∃ x, (w.alloc (.cells #[.int .i64 id, .int .i64 st, .int .i64 fr, .int .i64 sz, .slice A n c] 25)).heap.size = x := ⟨_, rfl⟩
  obtain ⟨gf, hgf⟩ : ∃ x, ((w.alloc (.cells #[.int .i64 id, .int .i64 st, .int .i64 fr, .int .i64 sz, .slice A n c] 25)).alloc (.cells #[.int .i64 qi, .string qp, .int .i64 qf, .int .i64 qt] 27)).heap.size = x := ⟨_, rfl⟩
  have H3 := ((h.start.alloc 25 #[.int .i64 id, .int .i64 st, .int .i64 fr, .int .i64 sz, .slice A n c] hgr).alloc 27 #[.int .i64 qi, .string qp, .int .i64 qf, .int .i64 qt] hgq).alloc 29 #[.int .i64 K, .int .i64 D, .int .i64 N] hgf
  have HAW := hide haw
  have HBA := hide hA0
  have s1 : gq = gr + 1 := by rw [← hgq, World.size_alloc, hgr]
  have s2 : gf = gr + 1 + 1 := by rw [← hgf, World.size_alloc, hgq, s1]
  subst s1 s2
  have H3 : Hid (St w [Fac.byt A0 l, GA, GB] [] (((w.alloc (.cells #[.int .i64 id, .int .i64 st, .int .i64 fr, .int .i64 sz, .slice A n c] 25)).alloc (.cells #[.int .i64 qi, .string qp, .int .i64 qf, .int .i64 qt] 27)).alloc (.cells #[.int .i64 K, .int .i64 D, .int .i64 N] 29)) [Fac.blk (gr + 1 + 1) 29 #[.int .i64 K, .int .i64 D, .int .i64 N], Fac.blk (gr + 1) 27 #[.int .i64 qi, .string qp, .int .i64 qf, .int .i64 qt], Fac.blk gr 25 #[.int .i64 id, .int .i64 st, .int .i64 fr, .int .i64 sz, .slice A n c]]) := H3
  have HG := hide hgr
  have HN := hide hn
  clear h hgq hgf hn hA0
  have c0 : (((w.alloc (.cells #[.int .i64 id, .int .i64 st, .int .i64 fr, .int .i64 sz, .slice A n c] 25)).alloc (.cells #[.int .i64 qi, .string qp, .int .i64 qf, .int .i64 qt] 27)).alloc (.cells #[.int .i64 K, .int .i64 D, .int .i64 N] 29)).cell? ⟨gr, 4, none⟩ = some (.slice A n c) := (H3.out.get 2 rfl : Blk _ gr 25 _).cell 4
  have c1 : (((w.alloc (.cells #[.int .i64 id, .int .i64 st, .int .i64 fr, .int .i64 sz, .slice A n c] 25)).alloc (.cells #[.int .i64 qi, .string qp, .int .i64 qf, .int .i64 qt] 27)).alloc (.cells #[.int .i64 K, .int .i64 D, .int .i64 N] 29)).cell? ⟨gr + 1, 1, none⟩ = some (.string qp) := (H3.out.get 1 rfl : Blk _ (gr + 1) 27 _).cell 1
  have d1 : decide ((600 : Int) < (n : Int)) = false := by simp; omega
  have d2 : decide ((600 : Int) < (qp.size : Int)) = false := by simp; omega
  have HS1 := hide hs1
  have HS2 := hide hs2
  have HRL : Hid ((rrL id st fr sz l).length ≤ 1600) := by have := rrL_lenT (id := id) (st := st) (fr := fr) (sz := sz) (t := l); have e := HN.out; show _ ≤ _; omega
  have HQL : Hid ((rqL qi qp qf qt).length ≤ 1000) := rqL_lenT
  clear hs1 hs2
  go_enter Tryz.func3, Tryz.ntmps3
  go_wp2_with fail
  generalize (((w.alloc (.cells #[.int .i64 id, .int .i64 st, .int .i64 fr, .int .i64 sz, .slice A n c] 25)).alloc (.cells #[.int .i64 qi, .string qp, .int .i64 qf, .int .i64 qt] 27)).alloc (.cells #[.int .i64 K, .int .i64 D, .int .i64 N] 29)) = V3 at *
  clear c0 c1 d1 d2
  have hnew := netNew_calls V3
  obtain ⟨gn, hgn⟩ : ∃ x, V3.heap.size = x := ⟨_, rfl⟩
  rw [hgn] at hnew
  refine hnew.mono ?_
  rintro e w4 ⟨rfl, nb, bel⟩
  have H4 : Hid (St w [Fac.byt A0 l, GA, GB] [] w4 [Fac.blk gn 80 (netC 0 0 nil0 nil0), Fac.blk (gr + 1 + 1) 29 #[.int .i64 K, .int .i64 D, .int .i64 N], Fac.blk (gr + 1) 27 #[.int .i64 qi, .string qp, .int .i64 qf, .int .i64 qt], Fac.blk gr 25 #[.int .i64 id, .int .i64 st, .int .i64 fr, .int .i64 sz, .slice A n c]]) := H3.out.step [] (post_blk hgn nb bel)
  clear H3 hnew nb bel hgn
  have kr : Blk w4 gr 25 #[.int .i64 id, .int .i64 st, .int .i64 fr, .int .i64 sz, .slice A n c] := H4.out.get 3 rfl
  have k0 : w4.cell? ⟨gr, 0, none⟩ = some (.int .i64 id) := kr.cell 0
  have k1 : w4.cell? ⟨gr, 1, none⟩ = some (.int .i64 st) := kr.cell 1
  have k2 : w4.cell? ⟨gr, 2, none⟩ = some (.int .i64 fr) := kr.cell 2
  have k3 : w4.cell? ⟨gr, 3, none⟩ = some (.int .i64 sz) := kr.cell 3
  have k4 : w4.cell? ⟨gr, 4, none⟩ = some (.slice A n c) := kr.cell 4
  have HC := response_calls id st fr sz A n c l w4 HN.out (by have := HS1.out; omega) (HBA.out _ _ (H4.out.getR 0 rfl : Byt w4 w4.heap.size A0 l ∧ _).1)
  go_wp2_with fail
  refine HC.mono ?_
  rintro e w5 ⟨A1, n1, c1, rfl, o1, f1, b1⟩
  have H5 : Hid (St w [Fac.byt A0 l, GA, GB] [] w5 [F8 (A1, n1, c1) (rrL id st fr sz l), Fac.blk gn 80 (netC 0 0 nil0 nil0), Fac.blk (gr + 1 + 1) 29 #[.int .i64 K, .int .i64 D, .int .i64 N], Fac.blk (gr + 1) 27 #[.int .i64 qi, .string qp, .int .i64 qf, .int .i64 qt], Fac.blk gr 25 #[.int .i64 id, .int .i64 st, .int .i64 fr, .int .i64 sz, .slice A n c]]) := H4.out.step [] (post_own8 o1 f1 b1)
  clear H4 kr HC o1 f1 b1 k0 k1 k2 k3 k4
  have kq : Blk w5 (gr + 1) 27 #[.int .i64 qi, .string qp, .int .i64 qf, .int .i64 qt] := H5.out.get 3 rfl
  have k0 : w5.cell? ⟨(gr + 1), 0, none⟩ = some (.int .i64 qi) := kq.cell 0
  have k1 : w5.cell? ⟨(gr + 1), 1, none⟩ = some (.string qp) := kq.cell 1
  have k2 : w5.cell? ⟨(gr + 1), 2, none⟩ = some (.int .i64 qf) := kq.cell 2
  have k3 : w5.cell? ⟨(gr + 1), 3, none⟩ = some (.int .i64 qt) := kq.cell 3
  have HC := request_calls qi qp qf qt w5
  go_wp2_with fail
  refine HC.mono ?_
  rintro e w6 ⟨A2, n2, c2, rfl, o2, f2, b2⟩
  have H6 : Hid (St w [Fac.byt A0 l, GA, GB] [] w6 [F8 (A2, n2, c2) (rqL qi qp qf qt), F8 (A1, n1, c1) (rrL id st fr sz l), Fac.blk gn 80 (netC 0 0 nil0 nil0), Fac.blk (gr + 1 + 1) 29 #[.int .i64 K, .int .i64 D, .int .i64 N], Fac.blk (gr + 1) 27 #[.int .i64 qi, .string qp, .int .i64 qf, .int .i64 qt], Fac.blk gr 25 #[.int .i64 id, .int .i64 st, .int .i64 fr, .int .i64 sz, .slice A n c]]) := H5.out.step [] (post_own8 o2 f2 b2)
  clear H5 kq HC o2 f2 b2 k0 k1 k2 k3
  have hl1 : n1 = (rrL id st fr sz l).length := (H6.out.get 1 rfl : Own8 _ _ _ _ _ _).1
  have hl2 : n2 = (rqL qi qp qf qt).length := (H6.out.get 0 rfl : Own8 _ _ _ _ _ _).1
  have HSA := hide (fun (w : World) (h : Pre w [F8 (A1, n1, c1) (rrL id st fr sz l)] [Fac.blk gn 80 (netC 0 0 nil0 nil0)]) => (send1_all gn 0 none 0 0 A1 n1 c1 (rrL id st fr sz l) K D N w (by omega) (by omega) h0 h1 hl1 (by have := HRL.out; omega) (pre_byt h)).mono fun _ _ => retQA)
  have HSB := hide (fun (s : Int) (A0 : Option Addr) (n0 c0 : Nat) (hs : 0 ≤ s ∧ s ≤ 1000) (hn : n0 ≤ 2) (w : World) (h : Pre w [F8 (A2, n2, c2) (rqL qi qp qf qt)] [Fac.blk gn 80 (netC 0 s nil0 (.slice A0 n0 c0))]) => (send0_all gn s A0 n0 c0 A2 n2 c2 (rqL qi qp qf qt) K D N w hs hn h0 h1 hl2 (by have := HQL.out; omega) (pre_byt h)).mono fun _ _ => retQA)
  have G0 : Hid (w6.drew.cell? ⟨gr + 1 + 1, 0, none⟩ = some (.int .i64 K) ∧ w6.drew.cell? ⟨gr + 1 + 1, 1, none⟩ = some (.int .i64 D) ∧ w6.drew.cell? ⟨gr + 1 + 1, 2, none⟩ = some (.int .i64 N)) := ⟨(H6.out.drew.get 3 rfl : Blk _ (gr + 1 + 1) 29 _).cell 0, (H6.out.drew.get 3 rfl : Blk _ (gr + 1 + 1) 29 _).cell 1, (H6.out.drew.get 3 rfl : Blk _ (gr + 1 + 1) 29 _).cell 2⟩
  clear hl1 hl2
  go_wp2_with fail
  go_region_held3 (fun w' => w'.cell? ⟨gr + 1 + 1, 0, none⟩ = some (.int .i64 K) ∧ w'.cell? ⟨gr + 1 + 1, 1, none⟩ = some (.int .i64 D) ∧ w'.cell? ⟨gr + 1 + 1, 2, none⟩ = some (.int .i64 N)) (first | with_reducible exact G0.out | with_reducible exact G1.out | with_reducible exact G2.out)
    ((first | (go_at_call 8; (with_reducible refine (HSA.out _ (H6.out.drew.pre [] [1] [2] rfl rfl)).mono ?_); rintro e w7 ⟨rfl, s1, q1, oa, Qa, hsa, ⟨hqa, Aq, cq, rfl⟩, hga, p7⟩; have H7 : Hid (St w [Fac.byt A0 l, GA, GB] [] w7 [Fac.blk gn 80 (netC 0 s1 nil0 (.slice Aq Qa.length cq)), QF oa (.slice Aq Qa.length cq) Qa, F8 (A2, n2, c2) (rqL qi qp qf qt), F8 (A1, n1, c1) (rrL id st fr sz l), Fac.blk (gr + 1 + 1) 29 #[.int .i64 K, .int .i64 D, .int .i64 N], Fac.blk (gr + 1) 27 #[.int .i64 qi, .string qp, .int .i64 qf, .int .i64 qt], Fac.blk gr 25 #[.int .i64 id, .int .i64 st, .int .i64 fr, .int .i64 sz, .slice A n c]]) := H6.out.drew.step [2] p7; have G1 : Hid (w7.cell? ⟨gr + 1 + 1, 0, none⟩ = some (.int .i64 K) ∧ w7.cell? ⟨gr + 1 + 1, 1, none⟩ = some (.int .i64 D) ∧ w7.cell? ⟨gr + 1 + 1, 2, none⟩ = some (.int .i64 N)) := ⟨(H7.out.get 4 rfl : Blk _ (gr + 1 + 1) 29 _).cell 0, (H7.out.get 4 rfl : Blk _ (gr + 1 + 1) 29 _).cell 1, (H7.out.get 4 rfl : Blk _ (gr + 1 + 1) 29 _).cell 2⟩; have HGA := hide hga; have HLA := hide hqa; have HSS := hide hsa; clear p7 hga hqa hsa) | (go_at_call 8; (with_reducible refine (HSB.out s1 Aq Qa.length cq (by have := HSS.out; omega) HLA.out _ (H7.out.pre [] [2] [0] rfl rfl)).mono ?_); rintro e w8 ⟨rfl, s2, q0, ob, Qb, hsb, ⟨hqb, Ab, cb, rfl⟩, hgb, p8⟩; have H8 : Hid (St w [Fac.byt A0 l, GA, GB] [] w8 [Fac.blk gn 80 (netC 0 s2 (.slice Ab Qb.length cb) (.slice Aq Qa.length cq)), QF ob (.slice Ab Qb.length cb) Qb, QF oa (.slice Aq Qa.length cq) Qa, F8 (A2, n2, c2) (rqL qi qp qf qt), F8 (A1, n1, c1) (rrL id st fr sz l), Fac.blk (gr + 1 + 1) 29 #[.int .i64 K, .int .i64 D, .int .i64 N], Fac.blk (gr + 1) 27 #[.int .i64 qi, .string qp, .int .i64 qf, .int .i64 qt], Fac.blk gr 25 #[.int .i64 id, .int .i64 st, .int .i64 fr, .int .i64 sz, .slice A n c]]) := H7.out.step [0] p8; have G2 : Hid (w8.cell? ⟨gr + 1 + 1, 0, none⟩ = some (.int .i64 K) ∧ w8.cell? ⟨gr + 1 + 1, 1, none⟩ = some (.int .i64 D) ∧ w8.cell? ⟨gr + 1 + 1, 2, none⟩ = some (.int .i64 N)) := ⟨(H8.out.get 5 rfl : Blk _ (gr + 1 + 1) 29 _).cell 0, (H8.out.get 5 rfl : Blk _ (gr + 1 + 1) 29 _).cell 1, (H8.out.get 5 rfl : Blk _ (gr + 1 + 1) 29 _).cell 2⟩; have HGB := hide hgb; have HLB := hide hqb; have HSS2 := hide hsb; clear p8 hgb hqb hsb)))
  clear G0 G1 G2 H6 H7 HSA HSB
  go_wp2_with fail
  obtain ⟨T, hT⟩ : ∃ T : Nat, (T : Int) = min (max D 0) 1000 := ⟨(min (max D 0) 1000).toNat, by omega⟩
  go_loopw [12] (fun iv wr => ∃ k : Nat, k ≤ 2 * T + 1 ∧ iv = .int .i64 (k : Int) ∧ Hid (St w [Fac.byt A0 l, GA, GB] [] wr [Fac.blk gn 80 (netC (k : Int) s2 (.slice Ab Qb.length cb) (.slice Aq Qa.length cq)), QF ob (.slice Ab Qb.length cb) Qb, QF oa (.slice Aq Qa.length cq) Qa, F8 (A2, n2, c2) (rqL qi qp qf qt), F8 (A1, n1, c1) (rrL id st fr sz l), Fac.blk (gr + 1 + 1) 29 #[.int .i64 K, .int .i64 D, .int .i64 N], Fac.blk (gr + 1) 27 #[.int .i64 qi, .string qp, .int .i64 qf, .int .i64 qt], Fac.blk gr 25 #[.int .i64 id, .int .i64 st, .int .i64 fr, .int .i64 sz, .slice A n c]])) (fun iv _ => 2 * T + 1 - (intOf iv).toNat)
  case atStart => exact ⟨0, by omega, rfl, H8⟩
  case round =>
    obtain ⟨k, hk, rfl, HR⟩ := hrel
    clear H8
    have hf : Blk _ (gr + 1 + 1) 29 #[.int .i64 K, .int .i64 D, .int .i64 N] := HR.out.get 5 rfl
    have e1 := hf.cell 1
    by_cases hk' : (k : Int) ≤ 2 * min (max D 0) 1000
    · have hw : IntKind.i64.wrap ((k : Int) + 1) = (k : Int) + 1 := by rw [IntKind.wrap_i64]; omega
      go_wp2_with fail
      refine (tick_s gn (k : Int) s2 (.slice Ab Qb.length cb) (.slice Aq Qa.length cq) wr (by omega) (by omega) (HR.out.pre [] [] [0] rfl rfl)).mono ?_
      rintro e w9 ⟨_, rfl, p9⟩
      have H9 : Hid (St w [Fac.byt A0 l, GA, GB] [] w9 [Fac.blk gn 80 (netC ((k + 1 : Nat) : Int) s2 (.slice Ab Qb.length cb) (.slice Aq Qa.length cq)), QF ob (.slice Ab Qb.length cb) Qb, QF oa (.slice Aq Qa.length cq) Qa, F8 (A2, n2, c2) (rqL qi qp qf qt), F8 (A1, n1, c1) (rrL id st fr sz l), Fac.blk (gr + 1 + 1) 29 #[.int .i64 K, .int .i64 D, .int .i64 N], Fac.blk (gr + 1) 27 #[.int .i64 qi, .string qp, .int .i64 qf, .int .i64 qt], Fac.blk gr 25 #[.int .i64 id, .int .i64 st, .int .i64 fr, .int .i64 sz, .slice A n c]]) := by
        rw [Int.natCast_succ]
        exact HR.out.step [0] p9
      clear HR hf e1 p9
      go_wp2
      go_roundw
      case rel => exact ⟨k + 1, by omega, by go_num, H9⟩
      case measure => simp [intOf]; omega
    · have hkT : (k : Int) = 2 * (T : Int) + 1 := by omega
      have HDT : Hid (∀ p ∈ Qa, p.due ≤ (k : Int)) := fun p hp => by obtain ⟨_, h2, _, h4, h5⟩ := HGA.out p hp; omega
      have HDT0 : Hid (∀ p ∈ Qb, p.due ≤ (k : Int)) := fun p hp => by obtain ⟨_, h2, _, h4, h5⟩ := HGB.out p hp; omega
      go_wp2_with fail
      generalize (k : Int) = t at *
      clear hf e1 hk' hkT hT hk
      have HA1 : Hid (AllG (goodR id st fr sz l K) t Qa) := fun p hp => ⟨goodR_of HS1.out HN.out (HGA.out p hp), HDT.out p hp⟩
      have HA0 : Hid (AllG (goodRq qi qp qf qt K) t Qb) := fun p hp => ⟨goodRq_of (HGB.out p hp), HDT0.out p hp⟩
      refine (next1_any gn t s2 (.slice Ab Qb.length cb) (.slice Aq Qa.length cq) oa (goodR id st fr sz l K) Qa wr HA1.out ⟨HLA.out, _, _, rfl⟩ (HR.out.pre [] [] [0, 2] rfl rfl)).mono ?_
      rintro e w9 ⟨v, b, o1, q1, o1', Q1, rfl, hG1, hl1, hlen1, hb1, p9⟩
      have H9 : Hid (St w [Fac.byt A0 l, GA, GB] [] w9 [Fac.blk gn 80 (netC t s2 (.slice Ab Qb.length cb) q1), CF o1 (goodR id st fr sz l K) v b, QF o1' q1 Q1, QF ob (.slice Ab Qb.length cb) Qb, Fac.blk (gr + 1 + 1) 29 #[.int .i64 K, .int .i64 D, .int .i64 N], Fac.blk (gr + 1) 27 #[.int .i64 qi, .string qp, .int .i64 qf, .int .i64 qt], Fac.blk gr 25 #[.int .i64 id, .int .i64 st, .int .i64 fr, .int .i64 sz, .slice A n c]]) := (HR.out.step [0, 2] p9).sub [0, 1, 2, 3, 6, 7, 8] rfl
      have HG1 := hide hG1
      have HL1 := hide hl1
      have HB1 := hide hb1
      clear HR p9 hG1 hl1 hb1 hlen1 HDT HDT0 HGA HGB HA1
      go_wp2_with fail
      go_loopw [13, 14] (fun xv bv wr => ∃ v b o1 q1 o1' Q1, xv = v ∧ bv = .bool b ∧ Hid (AllG (goodR id st fr sz l K) t Q1) ∧ Hid (slLen q1 Q1.length) ∧ Hid (b = false → Q1 = []) ∧ Hid (St w [Fac.byt A0 l, GA, GB] [] wr [Fac.blk gn 80 (netC t s2 (.slice Ab Qb.length cb) q1), CF o1 (goodR id st fr sz l K) v b, QF o1' q1 Q1, QF ob (.slice Ab Qb.length cb) Qb, Fac.blk (gr + 1 + 1) 29 #[.int .i64 K, .int .i64 D, .int .i64 N], Fac.blk (gr + 1) 27 #[.int .i64 qi, .string qp, .int .i64 qf, .int .i64 qt], Fac.blk gr 25 #[.int .i64 id, .int .i64 st, .int .i64 fr, .int .i64 sz, .slice A n c]])) (fun _ bv wr => qn (wr.cell? ⟨gn, 3, none⟩) + bn bv)
      case atStart => exact ⟨v, b, o1, q1, o1', Q1, rfl, rfl, HG1, HL1, HB1, H9⟩
      case round =>
        clear H9 HG1 HL1 HB1
        obtain ⟨v2, b2, o2, q2, o2', Q2, rfl, rfl, HG1, HL1, HB1, HR⟩ := hrel
        cases b2 with
        | true =>
          obtain ⟨p, hgp, rfl, H10⟩ := st_openC HR.out
          have H10 : Hid (St w [Fac.byt A0 l, GA, GB] [] _ [Fac.blk gn 80 (netC t s2 (.slice Ab Qb.length cb) q2), p.fac, QF o2' q2 Q2, QF ob (.slice Ab Qb.length cb) Qb, Fac.blk (gr + 1 + 1) 29 #[.int .i64 K, .int .i64 D, .int .i64 N], Fac.blk (gr + 1) 27 #[.int .i64 qi, .string qp, .int .i64 qf, .int .i64 qt], Fac.blk gr 25 #[.int .i64 id, .int .i64 st, .int .i64 fr, .int .i64 sz, .slice A n c]]) := H10
          obtain ⟨hp1, hp2, hp3, hp4⟩ := hgp
          have o8 : Own8 _ 5 p.d.1 p.d.2.1 p.d.2.2 p.l := H10.out.get 1 rfl
          have HPR := prr_calls p.d.1 p.d.2.1 p.d.2.2 p.l _ o8.1 (own8_capT o8) (by rw [o8.1]; omega) o8.byt
          unfold RetR at HPR
          have hHR := hide HR.out
          clear HR o8
          by_cases h1c : Wi.prE p.l = 0 ∧ Wi.rr id st fr sz l.length = true
          case' pos =>
            obtain ⟨he, hrr⟩ := h1c
            have hK : ¬ 2 < K := fun h => hp4 h he
            have k2 : decide (2 < K) = false := by simpa using hK
            have k3 : (K == 3) = false := by simp; omega
            have k4 : (K == 4) = false := by simp; omega
            have k3' : ¬ K = 3 := by omega
            have k4' : ¬ K = 4 := by omega
            obtain ⟨v1', v2', v3', v4', v5'⟩ := hp2 hrr he
            rw [he, v1', v2', v3', v4', v5'] at HPR
            have hok : okE (Wi.rr id st fr sz n) = 0 := by rw [HN.out, hrr]; rfl
            rw [hok]
            clear v1' v2' v3' v4' v5' hok hrr he hp2 hp3 hp4
            go_wp2_with fail
            refine HPR.mono ?_
            rintro e w11 ⟨A3, n3, c3, rfl, o3, f3, b3⟩
            obtain ⟨gy, hgy⟩ : ∃ x, w11.heap.size = x := ⟨_, rfl⟩
            have H11 : Hid (St w [Fac.byt A0 l, GA, GB] [] w11 [F8 (A3, n3, c3) l, Fac.blk gn 80 (netC t s2 (.slice Ab Qb.length cb) q2), p.fac, QF o2' q2 Q2, QF ob (.slice Ab Qb.length cb) Qb, Fac.blk (gr + 1 + 1) 29 #[.int .i64 K, .int .i64 D, .int .i64 N], Fac.blk (gr + 1) 27 #[.int .i64 qi, .string qp, .int .i64 qf, .int .i64 qt], Fac.blk gr 25 #[.int .i64 id, .int .i64 st, .int .i64 fr, .int .i64 sz, .slice A n c]]) := H10.out.step [] (post_own8 o3 f3 b3)
            have H12 : Hid (St w [Fac.byt A0 l, GA, GB] [] (w11.alloc (.cells #[.int .i64 id, .int .i64 st, .int .i64 fr, .int .i64 sz, .slice A3 n3 c3] 25)) [Fac.blk gy 25 #[.int .i64 id, .int .i64 st, .int .i64 fr, .int .i64 sz, .slice A3 n3 c3], F8 (A3, n3, c3) l, Fac.blk gn 80 (netC t s2 (.slice Ab Qb.length cb) q2), p.fac, QF o2' q2 Q2, QF ob (.slice Ab Qb.length cb) Qb, Fac.blk (gr + 1 + 1) 29 #[.int .i64 K, .int .i64 D, .int .i64 N], Fac.blk (gr + 1) 27 #[.int .i64 qi, .string qp, .int .i64 qf, .int .i64 qt], Fac.blk gr 25 #[.int .i64 id, .int .i64 st, .int .i64 fr, .int .i64 sz, .slice A n c]]) := H11.out.alloc 25 #[.int .i64 id, .int .i64 st, .int .i64 fr, .int .i64 sz, .slice A3 n3 c3] hgy
            have cv1 : Sem.run Tryz.prog (convert 23 9 (.slice A3 n3 c3)) (w11.alloc (.cells #[.int .i64 id, .int .i64 st, .int .i64 fr, .int .i64 sz, .slice A3 n3 c3] 25)) = .ok (.string (str l)) (w11.alloc (.cells #[.int .i64 id, .int .i64 st, .int .i64 fr, .int .i64 sz, .slice A3 n3 c3] 25)) := run_conv8 (P := Tryz.prog) bytesT Tryz.underlying9 A3 n3 c3 _ (H12.out.get 1 rfl : Own8 _ _ A3 n3 c3 l).byt (H12.out.get 1 rfl : Own8 _ _ A3 n3 c3 l).1
            have cv2 : Sem.run Tryz.prog (convert 23 9 (.slice A n c)) (w11.alloc (.cells #[.int .i64 id, .int .i64 st, .int .i64 fr, .int .i64 sz, .slice A3 n3 c3] 25)) = .ok (.string (str l)) (w11.alloc (.cells #[.int .i64 id, .int .i64 st, .int .i64 fr, .int .i64 sz, .slice A3 n3 c3] 25)) := run_conv8 (P := Tryz.prog) bytesT Tryz.underlying9 A n c _ (HBA.out _ _ (H12.out.getR 0 rfl : Byt _ _ A0 l ∧ _).1) HN.out
            have ky : Blk (w11.alloc (.cells #[.int .i64 id, .int .i64 st, .int .i64 fr, .int .i64 sz, .slice A3 n3 c3] 25)) gy 25 #[.int .i64 id, .int .i64 st, .int .i64 fr, .int .i64 sz, .slice A3 n3 c3] := H12.out.get 0 rfl
            have kr : Blk (w11.alloc (.cells #[.int .i64 id, .int .i64 st, .int .i64 fr, .int .i64 sz, .slice A3 n3 c3] 25)) gr 25 #[.int .i64 id, .int .i64 st, .int .i64 fr, .int .i64 sz, .slice A n c] := H12.out.get 8 rfl
            have y0 := ky.cell 0
            have y1 := ky.cell 1
            have y2 := ky.cell 2
            have y3 := ky.cell 3
            have y4 := ky.cell 4
            have r0 := kr.cell 0
            have r1 := kr.cell 1
            have r2 := kr.cell 2
            have r3 := kr.cell 3
            have r4 := kr.cell 4
            clear ky kr
            have kf : Blk (w11.alloc (.cells #[.int .i64 id, .int .i64 st, .int .i64 fr, .int .i64 sz, .slice A3 n3 c3] 25)) (gr + 1 + 1) 29 #[.int .i64 K, .int .i64 D, .int .i64 N] := H12.out.get 6 rfl
            have f0 := kf.cell 0
            clear H10 H11 HPR kf o3 f3 b3
            go_wp2_with fail
            clear y0 y1 y2 y3 y4 r0 r1 r2 r3 r4 cv1 cv2
            clear f0
            have H12 : Hid (St w [Fac.byt A0 l, GA, GB] [] (w11.alloc (.cells #[.int .i64 id, .int .i64 st, .int .i64 fr, .int .i64 sz, .slice A3 n3 c3] 25)) [Fac.blk gn 80 (netC t s2 (.slice Ab Qb.length cb) q2), QF o2' q2 Q2, QF ob (.slice Ab Qb.length cb) Qb, Fac.blk (gr + 1 + 1) 29 #[.int .i64 K, .int .i64 D, .int .i64 N], Fac.blk (gr + 1) 27 #[.int .i64 qi, .string qp, .int .i64 qf, .int .i64 qt], Fac.blk gr 25 #[.int .i64 id, .int .i64 st, .int .i64 fr, .int .i64 sz, .slice A n c]]) := H12.out.sub [2, 4, 5, 6, 7, 8] rfl
            generalize (w11.alloc (.cells #[.int .i64 id, .int .i64 st, .int .i64 fr, .int .i64 sz, .slice A3 n3 c3] 25)) = W12 at *
            clear hK k2 k3 k4 k3' k4'
          case' neg =>
            clear hp2
            by_cases he : Wi.prE p.l = 0
            case' pos =>
              have hrr : ¬ Wi.rr id st fr sz l.length = true := fun h => h1c ⟨he, h⟩
              have hK : ¬ 2 < K := fun h => hp4 h he
              have k2 : decide (2 < K) = false := by simpa using hK
              rw [he] at HPR
              have hok : okE (Wi.rr id st fr sz n) = 201 := by rw [HN.out, Bool.eq_false_iff.2 hrr]; rfl
              rw [hok]
              clear hok hrr he hp3 hp4 h1c
              generalize Wi.prI p.l = z0 at *
              generalize Wi.prS p.l = z1 at *
              generalize Wi.prF p.l = z2 at *
              generalize Wi.prZ p.l = z3 at *
              generalize Wi.prB p.l = zb at *
              go_wp2_with fail
              refine HPR.mono ?_
              rintro e w11 ⟨A3, n3, c3, rfl, o3, f3, b3⟩
              obtain ⟨gy, hgy⟩ : ∃ x, w11.heap.size = x := ⟨_, rfl⟩
              have H11 : Hid (St w [Fac.byt A0 l, GA, GB] [] w11 [F8 (A3, n3, c3) zb, Fac.blk gn 80 (netC t s2 (.slice Ab Qb.length cb) q2), p.fac, QF o2' q2 Q2, QF ob (.slice Ab Qb.length cb) Qb, Fac.blk (gr + 1 + 1) 29 #[.int .i64 K, .int .i64 D, .int .i64 N], Fac.blk (gr + 1) 27 #[.int .i64 qi, .string qp, .int .i64 qf, .int .i64 qt], Fac.blk gr 25 #[.int .i64 id, .int .i64 st, .int .i64 fr, .int .i64 sz, .slice A n c]]) := H10.out.step [] (post_own8 o3 f3 b3)
              have H12 : Hid (St w [Fac.byt A0 l, GA, GB] [] (w11.alloc (.cells #[.int .i64 z0, .int .i64 z1, .int .i64 z2, .int .i64 z3, .slice A3 n3 c3] 25)) [Fac.blk gy 25 #[.int .i64 z0, .int .i64 z1, .int .i64 z2, .int .i64 z3, .slice A3 n3 c3], F8 (A3, n3, c3) zb, Fac.blk gn 80 (netC t s2 (.slice Ab Qb.length cb) q2), p.fac, QF o2' q2 Q2, QF ob (.slice Ab Qb.length cb) Qb, Fac.blk (gr + 1 + 1) 29 #[.int .i64 K, .int .i64 D, .int .i64 N], Fac.blk (gr + 1) 27 #[.int .i64 qi, .string qp, .int .i64 qf, .int .i64 qt], Fac.blk gr 25 #[.int .i64 id, .int .i64 st, .int .i64 fr, .int .i64 sz, .slice A n c]]) := H11.out.alloc 25 #[.int .i64 z0, .int .i64 z1, .int .i64 z2, .int .i64 z3, .slice A3 n3 c3] hgy
              have kf : Blk (w11.alloc (.cells #[.int .i64 z0, .int .i64 z1, .int .i64 z2, .int .i64 z3, .slice A3 n3 c3] 25)) (gr + 1 + 1) 29 #[.int .i64 K, .int .i64 D, .int .i64 N] := H12.out.get 6 rfl
              have f0 := kf.cell 0
              clear H10 H11 HPR kf o3 f3 b3
              go_wp2_with fail
              clear f0
              have H12 : Hid (St w [Fac.byt A0 l, GA, GB] [] (w11.alloc (.cells #[.int .i64 z0, .int .i64 z1, .int .i64 z2, .int .i64 z3, .slice A3 n3 c3] 25)) [Fac.blk gn 80 (netC t s2 (.slice Ab Qb.length cb) q2), QF o2' q2 Q2, QF ob (.slice Ab Qb.length cb) Qb, Fac.blk (gr + 1 + 1) 29 #[.int .i64 K, .int .i64 D, .int .i64 N], Fac.blk (gr + 1) 27 #[.int .i64 qi, .string qp, .int .i64 qf, .int .i64 qt], Fac.blk gr 25 #[.int .i64 id, .int .i64 st, .int .i64 fr, .int .i64 sz, .slice A n c]]) := H12.out.sub [2, 4, 5, 6, 7, 8] rfl
              generalize (w11.alloc (.cells #[.int .i64 z0, .int .i64 z1, .int .i64 z2, .int .i64 z3, .slice A3 n3 c3] 25)) = W12 at *
              clear hK k2
            case' neg =>
              clear hp4 h1c
              have he1 : (Wi.prE p.l == 0) = false := by simpa using he
              by_cases hc : K = 3 ∧ Wi.rr id st fr sz l.length = true
              case' pos =>
                obtain ⟨hk, hrr⟩ := hc
                have hok : okE (Wi.rr id st fr sz n) = 0 := by rw [HN.out, hrr]; rfl
                rw [hok]
                clear hok hrr hp3
                have k2 : decide (2 < K) = true := by simp; omega
                have k3 : (K == 3) = true := by simpa using hk
                have k3' : (K = 3) = True := eq_true hk
                clear hk
                generalize Wi.prI p.l = z0 at *
                generalize Wi.prS p.l = z1 at *
                generalize Wi.prF p.l = z2 at *
                generalize Wi.prZ p.l = z3 at *
                generalize Wi.prB p.l = zb at *
                generalize Wi.prE p.l = zE at *
                go_wp2_with fail
                refine HPR.mono ?_
                rintro e w11 ⟨A3, n3, c3, rfl, o3, f3, b3⟩
                obtain ⟨gy, hgy⟩ : ∃ x, w11.heap.size = x := ⟨_, rfl⟩
                have H11 : Hid (St w [Fac.byt A0 l, GA, GB] [] w11 [F8 (A3, n3, c3) zb, Fac.blk gn 80 (netC t s2 (.slice Ab Qb.length cb) q2), p.fac, QF o2' q2 Q2, QF ob (.slice Ab Qb.length cb) Qb, Fac.blk (gr + 1 + 1) 29 #[.int .i64 K, .int .i64 D, .int .i64 N], Fac.blk (gr + 1) 27 #[.int .i64 qi, .string qp, .int .i64 qf, .int .i64 qt], Fac.blk gr 25 #[.int .i64 id, .int .i64 st, .int .i64 fr, .int .i64 sz, .slice A n c]]) := H10.out.step [] (post_own8 o3 f3 b3)
                have H12 : Hid (St w [Fac.byt A0 l, GA, GB] [] (w11.alloc (.cells #[.int .i64 z0, .int .i64 z1, .int .i64 z2, .int .i64 z3, .slice A3 n3 c3] 25)) [Fac.blk gy 25 #[.int .i64 z0, .int .i64 z1, .int .i64 z2, .int .i64 z3, .slice A3 n3 c3], F8 (A3, n3, c3) zb, Fac.blk gn 80 (netC t s2 (.slice Ab Qb.length cb) q2), p.fac, QF o2' q2 Q2, QF ob (.slice Ab Qb.length cb) Qb, Fac.blk (gr + 1 + 1) 29 #[.int .i64 K, .int .i64 D, .int .i64 N], Fac.blk (gr + 1) 27 #[.int .i64 qi, .string qp, .int .i64 qf, .int .i64 qt], Fac.blk gr 25 #[.int .i64 id, .int .i64 st, .int .i64 fr, .int .i64 sz, .slice A n c]]) := H11.out.alloc 25 #[.int .i64 z0, .int .i64 z1, .int .i64 z2, .int .i64 z3, .slice A3 n3 c3] hgy
                have kf : Blk (w11.alloc (.cells #[.int .i64 z0, .int .i64 z1, .int .i64 z2, .int .i64 z3, .slice A3 n3 c3] 25)) (gr + 1 + 1) 29 #[.int .i64 K, .int .i64 D, .int .i64 N] := H12.out.get 6 rfl
                have f0 := kf.cell 0
                clear H10 H11 HPR kf o3 f3 b3
                go_wp2_with fail
                clear f0
                have H12 : Hid (St w [Fac.byt A0 l, GA, GB] [] (w11.alloc (.cells #[.int .i64 z0, .int .i64 z1, .int .i64 z2, .int .i64 z3, .slice A3 n3 c3] 25)) [Fac.blk gn 80 (netC t s2 (.slice Ab Qb.length cb) q2), QF o2' q2 Q2, QF ob (.slice Ab Qb.length cb) Qb, Fac.blk (gr + 1 + 1) 29 #[.int .i64 K, .int .i64 D, .int .i64 N], Fac.blk (gr + 1) 27 #[.int .i64 qi, .string qp, .int .i64 qf, .int .i64 qt], Fac.blk gr 25 #[.int .i64 id, .int .i64 st, .int .i64 fr, .int .i64 sz, .slice A n c]]) := H12.out.sub [2, 4, 5, 6, 7, 8] rfl
                generalize (w11.alloc (.cells #[.int .i64 z0, .int .i64 z1, .int .i64 z2, .int .i64 z3, .slice A3 n3 c3] 25)) = W12 at *
                clear k3 k3' k2 he he1
              case' neg =>
                have hn3 := hc
                clear hc
                by_cases hc : K = 4 ∧ Wi.rr id st fr sz l.length = true
                case' pos =>
                  obtain ⟨hk, hrr⟩ := hc
                  have hok : okE (Wi.rr id st fr sz n) = 0 := by rw [HN.out, hrr]; rfl
                  rw [hok]
                  clear hok hrr hp3 hn3
                  have k2 : decide (2 < K) = true := by simp; omega
                  have k3 : (K == 3) = false := by simp; omega
                  have k3' : ¬ K = 3 := by omega
                  have k4 : (K == 4) = true := by simpa using hk
                  have k4' : (K = 4) = True := eq_true hk
                  clear hk
                  generalize Wi.prI p.l = z0 at *
                  generalize Wi.prS p.l = z1 at *
                  generalize Wi.prF p.l = z2 at *
                  generalize Wi.prZ p.l = z3 at *
                  generalize Wi.prB p.l = zb at *
                  generalize Wi.prE p.l = zE at *
                  go_wp2_with fail
                  refine HPR.mono ?_
                  rintro e w11 ⟨A3, n3, c3, rfl, o3, f3, b3⟩
                  obtain ⟨gy, hgy⟩ : ∃ x, w11.heap.size = x := ⟨_, rfl⟩
                  have H11 : Hid (St w [Fac.byt A0 l, GA, GB] [] w11 [F8 (A3, n3, c3) zb, Fac.blk gn 80 (netC t s2 (.slice Ab Qb.length cb) q2), p.fac, QF o2' q2 Q2, QF ob (.slice Ab Qb.length cb) Qb, Fac.blk (gr + 1 + 1) 29 #[.int .i64 K, .int .i64 D, .int .i64 N], Fac.blk (gr + 1) 27 #[.int .i64 qi, .string qp, .int .i64 qf, .int .i64 qt], Fac.blk gr 25 #[.int .i64 id, .int .i64 st, .int .i64 fr, .int .i64 sz, .slice A n c]]) := H10.out.step [] (post_own8 o3 f3 b3)
                  have H12 : Hid (St w [Fac.byt A0 l, GA, GB] [] (w11.alloc (.cells #[.int .i64 z0, .int .i64 z1, .int .i64 z2, .int .i64 z3, .slice A3 n3 c3] 25)) [Fac.blk gy 25 #[.int .i64 z0, .int .i64 z1, .int .i64 z2, .int .i64 z3, .slice A3 n3 c3], F8 (A3, n3, c3) zb, Fac.blk gn 80 (netC t s2 (.slice Ab Qb.length cb) q2), p.fac, QF o2' q2 Q2, QF ob (.slice Ab Qb.length cb) Qb, Fac.blk (gr + 1 + 1) 29 #[.int .i64 K, .int .i64 D, .int .i64 N], Fac.blk (gr + 1) 27 #[.int .i64 qi, .string qp, .int .i64 qf, .int .i64 qt], Fac.blk gr 25 #[.int .i64 id, .int .i64 st, .int .i64 fr, .int .i64 sz, .slice A n c]]) := H11.out.alloc 25 #[.int .i64 z0, .int .i64 z1, .int .i64 z2, .int .i64 z3, .slice A3 n3 c3] hgy
                  have kf : Blk (w11.alloc (.cells #[.int .i64 z0, .int .i64 z1, .int .i64 z2, .int .i64 z3, .slice A3 n3 c3] 25)) (gr + 1 + 1) 29 #[.int .i64 K, .int .i64 D, .int .i64 N] := H12.out.get 6 rfl
                  have f0 := kf.cell 0
                  clear H10 H11 HPR kf o3 f3 b3
                  go_wp2_with fail
                  clear f0
                  have H12 : Hid (St w [Fac.byt A0 l, GA, GB] [] (w11.alloc (.cells #[.int .i64 z0, .int .i64 z1, .int .i64 z2, .int .i64 z3, .slice A3 n3 c3] 25)) [Fac.blk gn 80 (netC t s2 (.slice Ab Qb.length cb) q2), QF o2' q2 Q2, QF ob (.slice Ab Qb.length cb) Qb, Fac.blk (gr + 1 + 1) 29 #[.int .i64 K, .int .i64 D, .int .i64 N], Fac.blk (gr + 1) 27 #[.int .i64 qi, .string qp, .int .i64 qf, .int .i64 qt], Fac.blk gr 25 #[.int .i64 id, .int .i64 st, .int .i64 fr, .int .i64 sz, .slice A n c]]) := H12.out.sub [2, 4, 5, 6, 7, 8] rfl
                  generalize (w11.alloc (.cells #[.int .i64 z0, .int .i64 z1, .int .i64 z2, .int .i64 z3, .slice A3 n3 c3] 25)) = W12 at *
                  clear k3 k3' k2 he he1 k4 k4'
                case' neg =>
                  have hn4 := hc
                  clear hc
                  have hrr : ¬ Wi.rr id st fr sz l.length = true := fun h => he (hp3 h (fun e => hn3 ⟨e, h⟩) (fun e => hn4 ⟨e, h⟩))
                  have hok : okE (Wi.rr id st fr sz n) = 201 := by rw [HN.out, Bool.eq_false_iff.2 hrr]; rfl
                  rw [hok]
                  clear hok hrr hp3 hn3 hn4
                  generalize Wi.prI p.l = z0 at *
                  generalize Wi.prS p.l = z1 at *
                  generalize Wi.prF p.l = z2 at *
                  generalize Wi.prZ p.l = z3 at *
                  generalize Wi.prB p.l = zb at *
                  generalize Wi.prE p.l = zE at *
                  by_cases hK : 2 < K
                  case' pos =>
                    have k2 : decide (2 < K) = true := by simpa using hK
                    go_wp2_with fail
                    refine HPR.mono ?_
                    rintro e w11 ⟨A3, n3, c3, rfl, o3, f3, b3⟩
                    obtain ⟨gy, hgy⟩ : ∃ x, w11.heap.size = x := ⟨_, rfl⟩
                    have H11 : Hid (St w [Fac.byt A0 l, GA, GB] [] w11 [F8 (A3, n3, c3) zb, Fac.blk gn 80 (netC t s2 (.slice Ab Qb.length cb) q2), p.fac, QF o2' q2 Q2, QF ob (.slice Ab Qb.length cb) Qb, Fac.blk (gr + 1 + 1) 29 #[.int .i64 K, .int .i64 D, .int .i64 N], Fac.blk (gr + 1) 27 #[.int .i64 qi, .string qp, .int .i64 qf, .int .i64 qt], Fac.blk gr 25 #[.int .i64 id, .int .i64 st, .int .i64 fr, .int .i64 sz, .slice A n c]]) := H10.out.step [] (post_own8 o3 f3 b3)
                    have H12 : Hid (St w [Fac.byt A0 l, GA, GB] [] (w11.alloc (.cells #[.int .i64 z0, .int .i64 z1, .int .i64 z2, .int .i64 z3, .slice A3 n3 c3] 25)) [Fac.blk gy 25 #[.int .i64 z0, .int .i64 z1, .int .i64 z2, .int .i64 z3, .slice A3 n3 c3], F8 (A3, n3, c3) zb, Fac.blk gn 80 (netC t s2 (.slice Ab Qb.length cb) q2), p.fac, QF o2' q2 Q2, QF ob (.slice Ab Qb.length cb) Qb, Fac.blk (gr + 1 + 1) 29 #[.int .i64 K, .int .i64 D, .int .i64 N], Fac.blk (gr + 1) 27 #[.int .i64 qi, .string qp, .int .i64 qf, .int .i64 qt], Fac.blk gr 25 #[.int .i64 id, .int .i64 st, .int .i64 fr, .int .i64 sz, .slice A n c]]) := H11.out.alloc 25 #[.int .i64 z0, .int .i64 z1, .int .i64 z2, .int .i64 z3, .slice A3 n3 c3] hgy
                    have kf : Blk (w11.alloc (.cells #[.int .i64 z0, .int .i64 z1, .int .i64 z2, .int .i64 z3, .slice A3 n3 c3] 25)) (gr + 1 + 1) 29 #[.int .i64 K, .int .i64 D, .int .i64 N] := H12.out.get 6 rfl
                    have f0 := kf.cell 0
                    clear H10 H11 HPR kf o3 f3 b3
                    go_wp2_with fail
                    clear f0
                    have H12 : Hid (St w [Fac.byt A0 l, GA, GB] [] (w11.alloc (.cells #[.int .i64 z0, .int .i64 z1, .int .i64 z2, .int .i64 z3, .slice A3 n3 c3] 25)) [Fac.blk gn 80 (netC t s2 (.slice Ab Qb.length cb) q2), QF o2' q2 Q2, QF ob (.slice Ab Qb.length cb) Qb, Fac.blk (gr + 1 + 1) 29 #[.int .i64 K, .int .i64 D, .int .i64 N], Fac.blk (gr + 1) 27 #[.int .i64 qi, .string qp, .int .i64 qf, .int .i64 qt], Fac.blk gr 25 #[.int .i64 id, .int .i64 st, .int .i64 fr, .int .i64 sz, .slice A n c]]) := H12.out.sub [2, 4, 5, 6, 7, 8] rfl
                    generalize (w11.alloc (.cells #[.int .i64 z0, .int .i64 z1, .int .i64 z2, .int .i64 z3, .slice A3 n3 c3] 25)) = W12 at *
                    clear hK k2 he he1
                  case' neg =>
                    have k2 : decide (2 < K) = false := by simpa using hK
                    go_wp2_with fail
                    refine HPR.mono ?_
                    rintro e w11 ⟨A3, n3, c3, rfl, o3, f3, b3⟩
                    obtain ⟨gy, hgy⟩ : ∃ x, w11.heap.size = x := ⟨_, rfl⟩
                    have H11 : Hid (St w [Fac.byt A0 l, GA, GB] [] w11 [F8 (A3, n3, c3) zb, Fac.blk gn 80 (netC t s2 (.slice Ab Qb.length cb) q2), p.fac, QF o2' q2 Q2, QF ob (.slice Ab Qb.length cb) Qb, Fac.blk (gr + 1 + 1) 29 #[.int .i64 K, .int .i64 D, .int .i64 N], Fac.blk (gr + 1) 27 #[.int .i64 qi, .string qp, .int .i64 qf, .int .i64 qt], Fac.blk gr 25 #[.int .i64 id, .int .i64 st, .int .i64 fr, .int .i64 sz, .slice A n c]]) := H10.out.step [] (post_own8 o3 f3 b3)
                    have H12 : Hid (St w [Fac.byt A0 l, GA, GB] [] (w11.alloc (.cells #[.int .i64 z0, .int .i64 z1, .int .i64 z2, .int .i64 z3, .slice A3 n3 c3] 25)) [Fac.blk gy 25 #[.int .i64 z0, .int .i64 z1, .int .i64 z2, .int .i64 z3, .slice A3 n3 c3], F8 (A3, n3, c3) zb, Fac.blk gn 80 (netC t s2 (.slice Ab Qb.length cb) q2), p.fac, QF o2' q2 Q2, QF ob (.slice Ab Qb.length cb) Qb, Fac.blk (gr + 1 + 1) 29 #[.int .i64 K, .int .i64 D, .int .i64 N], Fac.blk (gr + 1) 27 #[.int .i64 qi, .string qp, .int .i64 qf, .int .i64 qt], Fac.blk gr 25 #[.int .i64 id, .int .i64 st, .int .i64 fr, .int .i64 sz, .slice A n c]]) := H11.out.alloc 25 #[.int .i64 z0, .int .i64 z1, .int .i64 z2, .int .i64 z3, .slice A3 n3 c3] hgy
                    have kf : Blk (w11.alloc (.cells #[.int .i64 z0, .int .i64 z1, .int .i64 z2, .int .i64 z3, .slice A3 n3 c3] 25)) (gr + 1 + 1) 29 #[.int .i64 K, .int .i64 D, .int .i64 N] := H12.out.get 6 rfl
                    have f0 := kf.cell 0
                    clear H10 H11 HPR kf o3 f3 b3
                    go_wp2_with fail
                    clear f0
                    have H12 : Hid (St w [Fac.byt A0 l, GA, GB] [] (w11.alloc (.cells #[.int .i64 z0, .int .i64 z1, .int .i64 z2, .int .i64 z3, .slice A3 n3 c3] 25)) [Fac.blk gn 80 (netC t s2 (.slice Ab Qb.length cb) q2), QF o2' q2 Q2, QF ob (.slice Ab Qb.length cb) Qb, Fac.blk (gr + 1 + 1) 29 #[.int .i64 K, .int .i64 D, .int .i64 N], Fac.blk (gr + 1) 27 #[.int .i64 qi, .string qp, .int .i64 qf, .int .i64 qt], Fac.blk gr 25 #[.int .i64 id, .int .i64 st, .int .i64 fr, .int .i64 sz, .slice A n c]]) := H12.out.sub [2, 4, 5, 6, 7, 8] rfl
                    generalize (w11.alloc (.cells #[.int .i64 z0, .int .i64 z1, .int .i64 z2, .int .i64 z3, .slice A3 n3 c3] 25)) = W12 at *
                    clear hK k2 he he1
          all_goals
            refine (next1_any gn t s2 (.slice Ab Qb.length cb) q2 o2' (goodR id st fr sz l K) Q2 _ HG1.out HL1.out (H12.out.pre [] [] [0, 1] rfl rfl)).mono ?_
            rintro e w13 ⟨v3, b3, o3, q3, o3', Q3, rfl, hG3, hl3, hlen3, hb3, p13⟩
            have H13 : Hid (St w [Fac.byt A0 l, GA, GB] [] w13 [Fac.blk gn 80 (netC t s2 (.slice Ab Qb.length cb) q3), CF o3 (goodR id st fr sz l K) v3 b3, QF o3' q3 Q3, QF ob (.slice Ab Qb.length cb) Qb, Fac.blk (gr + 1 + 1) 29 #[.int .i64 K, .int .i64 D, .int .i64 N], Fac.blk (gr + 1) 27 #[.int .i64 qi, .string qp, .int .i64 qf, .int .i64 qt], Fac.blk gr 25 #[.int .i64 id, .int .i64 st, .int .i64 fr, .int .i64 sz, .slice A n c]]) := (H12.out.step [0, 1] p13).sub [0, 1, 2, 3, 4, 5, 6] rfl
            have m1 : w13.cell? ⟨gn, 3, none⟩ = some q3 := (H13.out.get 0 rfl : Blk w13 gn 80 _).cell 3
            have m2 : wr.cell? ⟨gn, 3, none⟩ = some q2 := (hHR.out.get 0 rfl : Blk wr gn 80 _).cell 3
            have hlt := meas hl3 HL1.out hlen3
            rw [← m1, ← m2] at hlt
            have HG3 := hide hG3
            have HL3 := hide hl3
            have HB3 := hide hb3
            have HLT := hide hlt
            clear H12 p13 m1 m2 hlt hG3 hl3 hb3 hlen3 hHR
            go_wp2
            go_roundw
            case rel => exact ⟨v3, b3, o3, q3, o3', Q3, rfl, rfl, HG3, HL3, HB3, H13⟩
            case measure => exact HLT.out
        | false =>
          have hQ0 := HB1.out rfl
          subst hQ0
          obtain ⟨_, Ar, cr, rfl⟩ := HL1.out
          clear HG1 HL1 HB1
          go_wp2_with fail
          refine (next0_any gn t s2 (.slice Ar 0 cr) (.slice Ab Qb.length cb) ob (goodRq qi qp qf qt K) Qb wr HA0.out ⟨HLB.out, _, _, rfl⟩ (HR.out.pre [] [] [0, 3] rfl rfl)).mono ?_
          rintro e x9 ⟨v4, b4, o4, q4, o4', Q4, rfl, hG4, hl4, hlen4, hb4, p19⟩
          have H19 : Hid (St w [Fac.byt A0 l, GA, GB] [] x9 [Fac.blk gn 80 (netC t s2 q4 (.slice Ar 0 cr)), CF o4 (goodRq qi qp qf qt K) v4 b4, QF o4' q4 Q4, Fac.blk (gr + 1 + 1) 29 #[.int .i64 K, .int .i64 D, .int .i64 N], Fac.blk (gr + 1) 27 #[.int .i64 qi, .string qp, .int .i64 qf, .int .i64 qt], Fac.blk gr 25 #[.int .i64 id, .int .i64 st, .int .i64 fr, .int .i64 sz, .slice A n c]]) := (HR.out.step [0, 3] p19).sub [0, 1, 2, 5, 6, 7] rfl
          have HG4 := hide hG4
          have HL4 := hide hl4
          have HB4 := hide hb4
          clear HR p19 hG4 hl4 hb4 hlen4 HA0
          go_wp2_with fail
          go_loopw [17, 18] (fun xv bv wr => ∃ v b o1 q1 o1' Q1, xv = v ∧ bv = .bool b ∧ Hid (AllG (goodRq qi qp qf qt K) t Q1) ∧ Hid (slLen q1 Q1.length) ∧ Hid (b = false → Q1 = []) ∧ Hid (St w [Fac.byt A0 l, GA, GB] [] wr [Fac.blk gn 80 (netC t s2 q1 (.slice Ar 0 cr)), CF o1 (goodRq qi qp qf qt K) v b, QF o1' q1 Q1, Fac.blk (gr + 1 + 1) 29 #[.int .i64 K, .int .i64 D, .int .i64 N], Fac.blk (gr + 1) 27 #[.int .i64 qi, .string qp, .int .i64 qf, .int .i64 qt], Fac.blk gr 25 #[.int .i64 id, .int .i64 st, .int .i64 fr, .int .i64 sz, .slice A n c]])) (fun _ bv wr => qn (wr.cell? ⟨gn, 2, none⟩) + bn bv)
          case atStart => exact ⟨v4, b4, o4, q4, o4', Q4, rfl, rfl, HG4, HL4, HB4, H19⟩
          case round =>
            clear H19 HG4 HL4 HB4
            obtain ⟨v5, b5, o5, q5, o5', Q5, rfl, rfl, HG5, HL5, HB5, HR⟩ := hrel
            cases b5 with
            | true =>
              obtain ⟨p, hgp, rfl, H20⟩ := st_openC HR.out
              have H20 : Hid (St w [Fac.byt A0 l, GA, GB] [] _ [Fac.blk gn 80 (netC t s2 q5 (.slice Ar 0 cr)), p.fac, QF o5' q5 Q5, Fac.blk (gr + 1 + 1) 29 #[.int .i64 K, .int .i64 D, .int .i64 N], Fac.blk (gr + 1) 27 #[.int .i64 qi, .string qp, .int .i64 qf, .int .i64 qt], Fac.blk gr 25 #[.int .i64 id, .int .i64 st, .int .i64 fr, .int .i64 sz, .slice A n c]]) := H20
              obtain ⟨hp1, hp2, hp4⟩ := hgp
              have o8 : Own8 _ 5 p.d.1 p.d.2.1 p.d.2.2 p.l := H20.out.get 1 rfl
              have HPR := prq_calls p.d.1 p.d.2.1 p.d.2.2 p.l _ o8.1 (own8_capT o8) (by rw [o8.1]; omega) o8.byt
              unfold RetQ at HPR
              have hHR := hide HR.out
              clear HR o8
              by_cases h1c : Wi.pqE p.l = 0 ∧ Wi.rq qi qp qf qt = true
              case' pos =>
                obtain ⟨he, hrr⟩ := h1c
                have hK : ¬ 2 < K := fun h => hp4 h he
                have k2 : decide (2 < K) = false := by simpa using hK
                obtain ⟨v1', v2', v3', v4'⟩ := hp2 hrr he
                rw [he, v1', v2', v3', v4'] at HPR
                have hok : okE (Wi.rq qi qp qf qt) = 0 := by rw [hrr]; rfl
                rw [hok]
                clear v1' v2' v3' v4' hok hrr he hp2 hp4
                go_wp2_with fail
                refine HPR.mono ?_
                rintro e w11 ⟨rfl, b3⟩
                obtain ⟨gy, hgy⟩ : ∃ x, w11.heap.size = x := ⟨_, rfl⟩
                have H12 : Hid (St w [Fac.byt A0 l, GA, GB] [] (w11.alloc (.cells #[.int .i64 qi, .string qp, .int .i64 qf, .int .i64 qt] 27)) [Fac.blk gy 27 #[.int .i64 qi, .string qp, .int .i64 qf, .int .i64 qt], Fac.blk gn 80 (netC t s2 q5 (.slice Ar 0 cr)), p.fac, QF o5' q5 Q5, Fac.blk (gr + 1 + 1) 29 #[.int .i64 K, .int .i64 D, .int .i64 N], Fac.blk (gr + 1) 27 #[.int .i64 qi, .string qp, .int .i64 qf, .int .i64 qt], Fac.blk gr 25 #[.int .i64 id, .int .i64 st, .int .i64 fr, .int .i64 sz, .slice A n c]]) := (H20.out.next b3).alloc 27 #[.int .i64 qi, .string qp, .int .i64 qf, .int .i64 qt] hgy
                have ky : Blk (w11.alloc (.cells #[.int .i64 qi, .string qp, .int .i64 qf, .int .i64 qt] 27)) gy 27 #[.int .i64 qi, .string qp, .int .i64 qf, .int .i64 qt] := H12.out.get 0 rfl
                have kr : Blk (w11.alloc (.cells #[.int .i64 qi, .string qp, .int .i64 qf, .int .i64 qt] 27)) (gr + 1) 27 #[.int .i64 qi, .string qp, .int .i64 qf, .int .i64 qt] := H12.out.get 5 rfl
                have y0 := ky.cell 0
                have y1 := ky.cell 1
                have y2 := ky.cell 2
                have y3 := ky.cell 3
                have r0 := kr.cell 0
                have r1 := kr.cell 1
                have r2 := kr.cell 2
                have r3 := kr.cell 3
                have hne := req_ne0T qi qp qf qt (w11.alloc (.cells #[.int .i64 qi, .string qp, .int .i64 qf, .int .i64 qt] 27))
                clear ky kr
                have kf : Blk (w11.alloc (.cells #[.int .i64 qi, .string qp, .int .i64 qf, .int .i64 qt] 27)) (gr + 1 + 1) 29 #[.int .i64 K, .int .i64 D, .int .i64 N] := H12.out.get 4 rfl
                have f0 := kf.cell 0
                clear H20 HPR kf b3
                go_wp2_with fail
                clear y0 y1 y2 y3 r0 r1 r2 r3 hne
                clear f0
                have H12 : Hid (St w [Fac.byt A0 l, GA, GB] [] (w11.alloc (.cells #[.int .i64 qi, .string qp, .int .i64 qf, .int .i64 qt] 27)) [Fac.blk gn 80 (netC t s2 q5 (.slice Ar 0 cr)), QF o5' q5 Q5, Fac.blk (gr + 1 + 1) 29 #[.int .i64 K, .int .i64 D, .int .i64 N], Fac.blk (gr + 1) 27 #[.int .i64 qi, .string qp, .int .i64 qf, .int .i64 qt], Fac.blk gr 25 #[.int .i64 id, .int .i64 st, .int .i64 fr, .int .i64 sz, .slice A n c]]) := H12.out.sub [1, 3, 4, 5, 6] rfl
                generalize (w11.alloc (.cells #[.int .i64 qi, .string qp, .int .i64 qf, .int .i64 qt] 27)) = W12 at *
                clear hK k2
              case' neg =>
                clear hp2
                by_cases he : Wi.pqE p.l = 0
                case' pos =>
                  have hrr : ¬ Wi.rq qi qp qf qt = true := fun h => h1c ⟨he, h⟩
                  have hK : ¬ 2 < K := fun h => hp4 h he
                  have k2 : decide (2 < K) = false := by simpa using hK
                  rw [he] at HPR
                  have hok : okE (Wi.rq qi qp qf qt) = 201 := by rw [Bool.eq_false_iff.2 hrr]; rfl
                  rw [hok]
                  clear hok hrr he hp4 h1c
                  generalize Wi.pqI p.l = z0 at *
                  generalize Wi.pqP p.l = z1 at *
                  generalize Wi.pqF p.l = z2 at *
                  generalize Wi.pqT p.l = z3 at *
                  go_wp2_with fail
                  refine HPR.mono ?_
                  rintro e w11 ⟨rfl, b3⟩
                  obtain ⟨gy, hgy⟩ : ∃ x, w11.heap.size = x := ⟨_, rfl⟩
                  have H12 : Hid (St w [Fac.byt A0 l, GA, GB] [] (w11.alloc (.cells #[.int .i64 z0, .string z1, .int .i64 z2, .int .i64 z3] 27)) [Fac.blk gy 27 #[.int .i64 z0, .string z1, .int .i64 z2, .int .i64 z3], Fac.blk gn 80 (netC t s2 q5 (.slice Ar 0 cr)), p.fac, QF o5' q5 Q5, Fac.blk (gr + 1 + 1) 29 #[.int .i64 K, .int .i64 D, .int .i64 N], Fac.blk (gr + 1) 27 #[.int .i64 qi, .string qp, .int .i64 qf, .int .i64 qt], Fac.blk gr 25 #[.int .i64 id, .int .i64 st, .int .i64 fr, .int .i64 sz, .slice A n c]]) := (H20.out.next b3).alloc 27 #[.int .i64 z0, .string z1, .int .i64 z2, .int .i64 z3] hgy
                  have kf : Blk (w11.alloc (.cells #[.int .i64 z0, .string z1, .int .i64 z2, .int .i64 z3] 27)) (gr + 1 + 1) 29 #[.int .i64 K, .int .i64 D, .int .i64 N] := H12.out.get 4 rfl
                  have f0 := kf.cell 0
                  clear H20 HPR kf b3
                  go_wp2_with fail
                  clear f0
                  have H12 : Hid (St w [Fac.byt A0 l, GA, GB] [] (w11.alloc (.cells #[.int .i64 z0, .string z1, .int .i64 z2, .int .i64 z3] 27)) [Fac.blk gn 80 (netC t s2 q5 (.slice Ar 0 cr)), QF o5' q5 Q5, Fac.blk (gr + 1 + 1) 29 #[.int .i64 K, .int .i64 D, .int .i64 N], Fac.blk (gr + 1) 27 #[.int .i64 qi, .string qp, .int .i64 qf, .int .i64 qt], Fac.blk gr 25 #[.int .i64 id, .int .i64 st, .int .i64 fr, .int .i64 sz, .slice A n c]]) := H12.out.sub [1, 3, 4, 5, 6] rfl
                  generalize (w11.alloc (.cells #[.int .i64 z0, .string z1, .int .i64 z2, .int .i64 z3] 27)) = W12 at *
                  clear hK k2
                case' neg =>
                  clear hp4 h1c
                  have he1 : (Wi.pqE p.l == 0) = false := by simpa using he
                  generalize Wi.pqI p.l = z0 at *
                  generalize Wi.pqP p.l = z1 at *
                  generalize Wi.pqF p.l = z2 at *
                  generalize Wi.pqT p.l = z3 at *
                  generalize Wi.pqE p.l = zE at *
                  by_cases hrr : Wi.rq qi qp qf qt = true
                  case' pos =>
                    have hok : okE (Wi.rq qi qp qf qt) = 0 := by rw [hrr]; rfl
                    rw [hok]
                    clear hok hrr
                    have k2 : ∃ kb, decide (2 < K) = kb := ⟨_, rfl⟩
                    obtain ⟨kb, k2⟩ := k2
                    cases kb
                    case' false =>
                      go_wp2_with fail
                      refine HPR.mono ?_
                      rintro e w11 ⟨rfl, b3⟩
                      obtain ⟨gy, hgy⟩ : ∃ x, w11.heap.size = x := ⟨_, rfl⟩
                      have H12 : Hid (St w [Fac.byt A0 l, GA, GB] [] (w11.alloc (.cells #[.int .i64 z0, .string z1, .int .i64 z2, .int .i64 z3] 27)) [Fac.blk gy 27 #[.int .i64 z0, .string z1, .int .i64 z2, .int .i64 z3], Fac.blk gn 80 (netC t s2 q5 (.slice Ar 0 cr)), p.fac, QF o5' q5 Q5, Fac.blk (gr + 1 + 1) 29 #[.int .i64 K, .int .i64 D, .int .i64 N], Fac.blk (gr + 1) 27 #[.int .i64 qi, .string qp, .int .i64 qf, .int .i64 qt], Fac.blk gr 25 #[.int .i64 id, .int .i64 st, .int .i64 fr, .int .i64 sz, .slice A n c]]) := (H20.out.next b3).alloc 27 #[.int .i64 z0, .string z1, .int .i64 z2, .int .i64 z3] hgy
                      have kf : Blk (w11.alloc (.cells #[.int .i64 z0, .string z1, .int .i64 z2, .int .i64 z3] 27)) (gr + 1 + 1) 29 #[.int .i64 K, .int .i64 D, .int .i64 N] := H12.out.get 4 rfl
                      have f0 := kf.cell 0
                      clear H20 HPR kf b3
                      go_wp2_with fail
                      clear f0
                      have H12 : Hid (St w [Fac.byt A0 l, GA, GB] [] (w11.alloc (.cells #[.int .i64 z0, .string z1, .int .i64 z2, .int .i64 z3] 27)) [Fac.blk gn 80 (netC t s2 q5 (.slice Ar 0 cr)), QF o5' q5 Q5, Fac.blk (gr + 1 + 1) 29 #[.int .i64 K, .int .i64 D, .int .i64 N], Fac.blk (gr + 1) 27 #[.int .i64 qi, .string qp, .int .i64 qf, .int .i64 qt], Fac.blk gr 25 #[.int .i64 id, .int .i64 st, .int .i64 fr, .int .i64 sz, .slice A n c]]) := H12.out.sub [1, 3, 4, 5, 6] rfl
                      generalize (w11.alloc (.cells #[.int .i64 z0, .string z1, .int .i64 z2, .int .i64 z3] 27)) = W12 at *
                      clear k2 he he1
                    case' true =>
                      go_wp2_with fail
                      refine HPR.mono ?_
                      rintro e w11 ⟨rfl, b3⟩
                      obtain ⟨gy, hgy⟩ : ∃ x, w11.heap.size = x := ⟨_, rfl⟩
                      have H12 : Hid (St w [Fac.byt A0 l, GA, GB] [] (w11.alloc (.cells #[.int .i64 z0, .string z1, .int .i64 z2, .int .i64 z3] 27)) [Fac.blk gy 27 #[.int .i64 z0, .string z1, .int .i64 z2, .int .i64 z3], Fac.blk gn 80 (netC t s2 q5 (.slice Ar 0 cr)), p.fac, QF o5' q5 Q5, Fac.blk (gr + 1 + 1) 29 #[.int .i64 K, .int .i64 D, .int .i64 N], Fac.blk (gr + 1) 27 #[.int .i64 qi, .string qp, .int .i64 qf, .int .i64 qt], Fac.blk gr 25 #[.int .i64 id, .int .i64 st, .int .i64 fr, .int .i64 sz, .slice A n c]]) := (H20.out.next b3).alloc 27 #[.int .i64 z0, .string z1, .int .i64 z2, .int .i64 z3] hgy
                      have kf : Blk (w11.alloc (.cells #[.int .i64 z0, .string z1, .int .i64 z2, .int .i64 z3] 27)) (gr + 1 + 1) 29 #[.int .i64 K, .int .i64 D, .int .i64 N] := H12.out.get 4 rfl
                      have f0 := kf.cell 0
                      clear H20 HPR kf b3
                      go_wp2_with fail
                      clear f0
                      have H12 : Hid (St w [Fac.byt A0 l, GA, GB] [] (w11.alloc (.cells #[.int .i64 z0, .string z1, .int .i64 z2, .int .i64 z3] 27)) [Fac.blk gn 80 (netC t s2 q5 (.slice Ar 0 cr)), QF o5' q5 Q5, Fac.blk (gr + 1 + 1) 29 #[.int .i64 K, .int .i64 D, .int .i64 N], Fac.blk (gr + 1) 27 #[.int .i64 qi, .string qp, .int .i64 qf, .int .i64 qt], Fac.blk gr 25 #[.int .i64 id, .int .i64 st, .int .i64 fr, .int .i64 sz, .slice A n c]]) := H12.out.sub [1, 3, 4, 5, 6] rfl
                      generalize (w11.alloc (.cells #[.int .i64 z0, .string z1, .int .i64 z2, .int .i64 z3] 27)) = W12 at *
                      clear k2 he he1
                  case' neg =>
                    have hok : okE (Wi.rq qi qp qf qt) = 201 := by rw [Bool.eq_false_iff.2 hrr]; rfl
                    rw [hok]
                    clear hok hrr
                    have k2 : ∃ kb, decide (2 < K) = kb := ⟨_, rfl⟩
                    obtain ⟨kb, k2⟩ := k2
                    cases kb
                    case' false =>
                      go_wp2_with fail
                      refine HPR.mono ?_
                      rintro e w11 ⟨rfl, b3⟩
                      obtain ⟨gy, hgy⟩ : ∃ x, w11.heap.size = x := ⟨_, rfl⟩
                      have H12 : Hid (St w [Fac.byt A0 l, GA, GB] [] (w11.alloc (.cells #[.int .i64 z0, .string z1, .int .i64 z2, .int .i64 z3] 27)) [Fac.blk gy 27 #[.int .i64 z0, .string z1, .int .i64 z2, .int .i64 z3], Fac.blk gn 80 (netC t s2 q5 (.slice Ar 0 cr)), p.fac, QF o5' q5 Q5, Fac.blk (gr + 1 + 1) 29 #[.int .i64 K, .int .i64 D, .int .i64 N], Fac.blk (gr + 1) 27 #[.int .i64 qi, .string qp, .int .i64 qf, .int .i64 qt], Fac.blk gr 25 #[.int .i64 id, .int .i64 st, .int .i64 fr, .int .i64 sz, .slice A n c]]) := (H20.out.next b3).alloc 27 #[.int .i64 z0, .string z1, .int .i64 z2, .int .i64 z3] hgy
                      have kf : Blk (w11.alloc (.cells #[.int .i64 z0, .string z1, .int .i64 z2, .int .i64 z3] 27)) (gr + 1 + 1) 29 #[.int .i64 K, .int .i64 D, .int .i64 N] := H12.out.get 4 rfl
                      have f0 := kf.cell 0
                      clear H20 HPR kf b3
                      go_wp2_with fail
                      clear f0
                      have H12 : Hid (St w [Fac.byt A0 l, GA, GB] [] (w11.alloc (.cells #[.int .i64 z0, .string z1, .int .i64 z2, .int .i64 z3] 27)) [Fac.blk gn 80 (netC t s2 q5 (.slice Ar 0 cr)), QF o5' q5 Q5, Fac.blk (gr + 1 + 1) 29 #[.int .i64 K, .int .i64 D, .int .i64 N], Fac.blk (gr + 1) 27 #[.int .i64 qi, .string qp, .int .i64 qf, .int .i64 qt], Fac.blk gr 25 #[.int .i64 id, .int .i64 st, .int .i64 fr, .int .i64 sz, .slice A n c]]) := H12.out.sub [1, 3, 4, 5, 6] rfl
                      generalize (w11.alloc (.cells #[.int .i64 z0, .string z1, .int .i64 z2, .int .i64 z3] 27)) = W12 at *
                      clear k2 he he1
                    case' true =>
                      go_wp2_with fail
                      refine HPR.mono ?_
                      rintro e w11 ⟨rfl, b3⟩
                      obtain ⟨gy, hgy⟩ : ∃ x, w11.heap.size = x := ⟨_, rfl⟩
                      have H12 : Hid (St w [Fac.byt A0 l, GA, GB] [] (w11.alloc (.cells #[.int .i64 z0, .string z1, .int .i64 z2, .int .i64 z3] 27)) [Fac.blk gy 27 #[.int .i64 z0, .string z1, .int .i64 z2, .int .i64 z3], Fac.blk gn 80 (netC t s2 q5 (.slice Ar 0 cr)), p.fac, QF o5' q5 Q5, Fac.blk (gr + 1 + 1) 29 #[.int .i64 K, .int .i64 D, .int .i64 N], Fac.blk (gr + 1) 27 #[.int .i64 qi, .string qp, .int .i64 qf, .int .i64 qt], Fac.blk gr 25 #[.int .i64 id, .int .i64 st, .int .i64 fr, .int .i64 sz, .slice A n c]]) := (H20.out.next b3).alloc 27 #[.int .i64 z0, .string z1, .int .i64 z2, .int .i64 z3] hgy
                      have kf : Blk (w11.alloc (.cells #[.int .i64 z0, .string z1, .int .i64 z2, .int .i64 z3] 27)) (gr + 1 + 1) 29 #[.int .i64 K, .int .i64 D, .int .i64 N] := H12.out.get 4 rfl
                      have f0 := kf.cell 0
                      clear H20 HPR kf b3
                      go_wp2_with fail
                      clear f0
                      have H12 : Hid (St w [Fac.byt A0 l, GA, GB] [] (w11.alloc (.cells #[.int .i64 z0, .string z1, .int .i64 z2, .int .i64 z3] 27)) [Fac.blk gn 80 (netC t s2 q5 (.slice Ar 0 cr)), QF o5' q5 Q5, Fac.blk (gr + 1 + 1) 29 #[.int .i64 K, .int .i64 D, .int .i64 N], Fac.blk (gr + 1) 27 #[.int .i64 qi, .string qp, .int .i64 qf, .int .i64 qt], Fac.blk gr 25 #[.int .i64 id, .int .i64 st, .int .i64 fr, .int .i64 sz, .slice A n c]]) := H12.out.sub [1, 3, 4, 5, 6] rfl
                      generalize (w11.alloc (.cells #[.int .i64 z0, .string z1, .int .i64 z2, .int .i64 z3] 27)) = W12 at *
                      clear k2 he he1
              all_goals
                refine (next0_any gn t s2 (.slice Ar 0 cr) q5 o5' (goodRq qi qp qf qt K) Q5 _ HG5.out HL5.out (H12.out.pre [] [] [0, 1] rfl rfl)).mono ?_
                rintro e w13 ⟨v3, b3, o3, q3, o3', Q3, rfl, hG3, hl3, hlen3, hb3, p13⟩
                have H13 : Hid (St w [Fac.byt A0 l, GA, GB] [] w13 [Fac.blk gn 80 (netC t s2 q3 (.slice Ar 0 cr)), CF o3 (goodRq qi qp qf qt K) v3 b3, QF o3' q3 Q3, Fac.blk (gr + 1 + 1) 29 #[.int .i64 K, .int .i64 D, .int .i64 N], Fac.blk (gr + 1) 27 #[.int .i64 qi, .string qp, .int .i64 qf, .int .i64 qt], Fac.blk gr 25 #[.int .i64 id, .int .i64 st, .int .i64 fr, .int .i64 sz, .slice A n c]]) := (H12.out.step [0, 1] p13).sub [0, 1, 2, 3, 4, 5] rfl
                have m1 : w13.cell? ⟨gn, 2, none⟩ = some q3 := (H13.out.get 0 rfl : Blk w13 gn 80 _).cell 2
                have m2 : wr.cell? ⟨gn, 2, none⟩ = some q5 := (hHR.out.get 0 rfl : Blk wr gn 80 _).cell 2
                have hlt := meas hl3 HL5.out hlen3
                rw [← m1, ← m2] at hlt
                have HG3 := hide hG3
                have HL3 := hide hl3
                have HB3 := hide hb3
                have HLT := hide hlt
                clear H12 p13 m1 m2 hlt hG3 hl3 hb3 hlen3 hHR
                go_wp2
                go_roundw
                case rel => exact ⟨v3, b3, o3, q3, o3', Q3, rfl, rfl, HG3, HL3, HB3, H13⟩
                case measure => exact HLT.out
            | false =>
              have hQ0 := HB5.out rfl
              subst hQ0
              obtain ⟨_, As, cs, rfl⟩ := HL5.out
              clear HG5 HL5 HB5
              go_wp2_with fail
              refine (HAW.out _ (HR.out.pre [1, 2] [] [] rfl rfl)).mono ?_
              rintro e x21 ⟨rfl, b21⟩
              have H21 := hide (HR.out.next b21)
              clear HR b21
              have HLE := netLen_calls gn t s2 As Ar 0 cs 0 cr x21 (H21.out.get 0 rfl) (by omega) (by omega)
              go_wp2_with fail
              refine HLE.mono ?_
              rintro e x22 ⟨rfl, rfl⟩
              go_wp2
              go_ret
              exact ⟨rfl, (H21.out.post [] rfl).below rfl⟩
end Go.Proofs.YtbfhpgpceakeiaaGreatDoor.Tw
