/- The law WireSizes answers true: how long a request's bytes are, and a response's. Conditions: the arguments as they came in. -/
import Derived.Test.YtijcollcncjdoaaWireOpen
namespace Go.Proofs.Ytijcollcncjdoaa
open Go.RowKit Kin

theorem wire_len (vs : List Nat) (t : List UInt8) : (Wi.wire vs t).length = ((Wi.codes vs).length + 7) / 8 + t.length + 4 := by
  unfold Wi.wire Wi.body
  rw [List.length_append, List.length_append, Bit.length_pack, Wi.length_four]
theorem wire_mid (vs : List Nat) (t : List UInt8) : ((Wi.wire vs t).drop (((Wi.codes vs).length + 7) / 8)).take t.length = t := by
  unfold Wi.wire Wi.body
  rw [List.append_assoc, List.drop_left' (Bit.length_pack _), List.take_left]
theorem gl0 : Gol.gl 0 = 1 := by decide +kernel
theorem gl1 : Gol.gl 1 = 3 := by decide +kernel
theorem codes_len5 {a b c d e : Nat} (ha : a ≤ 4294967294) (hb : b ≤ 4294967294) (hc : c ≤ 4294967294) (hd : d ≤ 4294967294) (he : e ≤ 4294967294) : (Wi.codes [a, b, c, d, e]).length = Gol.gl a + Gol.gl b + Gol.gl c + Gol.gl d + Gol.gl e := by
  rw [codes_cons, codes_cons, codes_cons, codes_cons, codes_cons]
  simp only [List.length_append, Gol.length_codeB ha, Gol.length_codeB hb, Gol.length_codeB hc, Gol.length_codeB hd, Gol.length_codeB he]
  show _ + (_ + (_ + (_ + (_ + 0)))) = _
  omega
theorem rq_len {id : Int} {p : ByteArray} {fr to : Int} (h : Wi.rq id p fr to = true) : ∃ q, q = (1 + Gol.gl id.toNat + Gol.gl fr.toNat + Gol.gl (to + 1).toNat + Gol.gl p.size + 7) / 8 ∧ (rqL id p fr to).length = q + p.size + 4 ∧ ((rqL id p fr to).drop q).take p.size = p.data.toList := by
  obtain ⟨⟨i1, i2⟩, ⟨p1, p2⟩, ⟨f1, f2⟩, t1, t2⟩ := rq_of h
  have e := codes_len5 (a := 0) (b := id.toNat) (c := fr.toNat) (d := (to + 1).toNat) (e := p.size) (by omega) (by omega) (by omega) (by omega) (by omega)
  rw [gl0] at e
  refine ⟨_, rfl, ?_, ?_⟩
  · unfold rqL
    rw [if_pos h, wire_len, show rqN id p fr to = [0, id.toNat, fr.toNat, (to + 1).toNat, p.size] from rfl, e]
    rfl
  · unfold rqL
    rw [if_pos h, ← e]
    exact wire_mid (rqN id p fr to) p.data.toList
theorem rr_len {id st fr sz : Int} {t : List UInt8} (h : Wi.rr id st fr sz t.length = true) : ∃ q, q = (3 + Gol.gl id.toNat + Gol.gl st.toNat + Gol.gl fr.toNat + Gol.gl sz.toNat + Gol.gl t.length + 7) / 8 ∧ (rrL id st fr sz t).length = q + t.length + 4 ∧ ((rrL id st fr sz t).drop q).take t.length = t := by
  obtain ⟨⟨i1, i2⟩, ⟨p1, p2⟩, ⟨f1, f2⟩, ⟨t1, t2⟩, n1⟩ := rr_of h
  have e := codes_len5 (a := id.toNat) (b := st.toNat) (c := fr.toNat) (d := sz.toNat) (e := t.length) (by omega) (by omega) (by omega) (by omega) (by omega)
  have e' : (Wi.codes (rrN id st fr sz t.length)).length = 3 + Gol.gl id.toNat + Gol.gl st.toNat + Gol.gl fr.toNat + Gol.gl sz.toNat + Gol.gl t.length := by
    unfold rrN
    rw [codes_cons, List.length_append, Gol.length_codeB (by omega), gl1, e]
    omega
  refine ⟨_, rfl, ?_, ?_⟩
  · unfold rrL
    rw [if_pos h, wire_len, e']
  · unfold rrL
    rw [if_pos h, ← e']
    exact wire_mid (rrN id st fr sz t.length) t
theorem str_data (p : ByteArray) : str p.data.toList = p := rfl

set_option maxRecDepth 100000 in
set_option maxHeartbeats 8000000 in
theorem wireSizes_walk (id : Int) (p : ByteArray) (fr to : Int) (id' st fr' sz : Int) (A : Option Addr) (n c : Nat) (l : List UInt8) (w : World) (hp : p.size ≤ maxLen) (hn : n = l.length) (hm : n ≤ maxLen) (_hc : n ≤ c) (hA : Byt w w.heap.size A l) :
    Calls Try.prog 6 #[reqV id p fr to, resV id' st fr' sz A n c] w fun e w' => e = .returned (.bool true) ∧ Below w.heap.size w w' := by
  have HN := hide hn
  have hp' : p.size ≤ 9223372036854775807 := hp
  have hm' : n ≤ 9223372036854775807 := hm
  clear hn hp hm
  obtain ⟨k1, k2, b0⟩ := boxed_two w id p fr to id' st fr' sz A n c
  by_cases h1 : 600 < p.size
  · go_enter Try.func6, Try.ntmps6
    go_wp2_with fail
    refine (alive20_calls _).mono ?_
    rintro e w1 ⟨rfl, b1⟩
    go_wp2
    go_ret
    exact ⟨rfl, bnext b0 b1⟩
  · by_cases h2 : 600 < n
    · go_enter Try.func6, Try.ntmps6
      go_wp2_with fail
      refine (alive20_calls _).mono ?_
      rintro e w1 ⟨rfl, b1⟩
      go_wp2
      go_ret
      exact ⟨rfl, bnext b0 b1⟩
    · have hA1 := (hA.below b0).more b0.size
      have hQ := request_calls id p fr to (boxed w id p fr to id' st fr' sz A n c)
      go_enter Try.func6, Try.ntmps6
      go_wp2_with fail
      refine hQ.mono ?_
      generalize (boxed w id p fr to id' st fr' sz A n c) = W at *
      rintro e w1 ⟨A1, n1, c1, rfl, o1, g1, b1⟩
      have k11 := k1.below b1 k1.lt
      have k21 := k2.below b1 k2.lt
      have bel1 := bnext b0 b1
      have hA2 := (hA1.below b1).more b1.size
      have hR := response_calls id' st fr' sz A n c l w1 HN.out hm' hA2
      clear hQ k1 k2 b0 b1 hA1
      have e0 : w1.cell? ⟨w.heap.size + 1, 0, none⟩ = some (.int .i64 id') := k21.cell 0
      have e1 : w1.cell? ⟨w.heap.size + 1, 1, none⟩ = some (.int .i64 st) := k21.cell 1
      have e2 : w1.cell? ⟨w.heap.size + 1, 2, none⟩ = some (.int .i64 fr') := k21.cell 2
      have e3 : w1.cell? ⟨w.heap.size + 1, 3, none⟩ = some (.int .i64 sz) := k21.cell 3
      have e4 : w1.cell? ⟨w.heap.size + 1, 4, none⟩ = some (.slice A n c) := k21.cell 4
      go_wp2_with fail
      refine hR.mono ?_
      rintro e w2 ⟨A2, n2, c2, rfl, o2, g2, b2⟩
      have k12 := k11.below b2 k11.lt
      have k22 := k21.below b2 k21.lt
      have bel2 := bnext bel1 b2
      have hA3 := (hA2.below b2).more b2.size
      have o12 := o1.below b2 o1.lt
      clear hR k11 k21 b2 hA2 o1 e0 e1 e2 e3 e4
      have q0 : w2.cell? ⟨w.heap.size, 0, none⟩ = some (.int .i64 id) := k12.cell 0
      have q1 : w2.cell? ⟨w.heap.size, 1, none⟩ = some (.string p) := k12.cell 1
      have q2 : w2.cell? ⟨w.heap.size, 2, none⟩ = some (.int .i64 fr) := k12.cell 2
      have q3 : w2.cell? ⟨w.heap.size, 3, none⟩ = some (.int .i64 to) := k12.cell 3
      cases hq : Wi.rq id p fr to
      case' true =>
        rw [show okE true = 0 from rfl]
        obtain ⟨⟨i1, i2⟩, ⟨p1, p2⟩, ⟨f1, f2⟩, t1, t2⟩ := rq_of hq
        obtain ⟨q, HQ, hl, hmid⟩ := rq_len hq
        generalize rqL id p fr to = L at *
        obtain ⟨a, rfl⟩ : ∃ a : Nat, id = a := ⟨id.toNat, by omega⟩
        obtain ⟨b, rfl⟩ : ∃ a : Nat, fr = a := ⟨fr.toNat, by omega⟩
        obtain ⟨d, hd⟩ : ∃ a : Nat, to + 1 = a := ⟨(to + 1).toNat, by omega⟩
        rw [hd, Int.toNat_natCast, Int.toNat_natCast, Int.toNat_natCast] at HQ
        have HQ' := hide HQ
        have hn1 : Hid (n1 = q + p.size + 4) := by show _ = _; rw [o12.1]; exact hl
        have hgs := Gol.gl_le a
        have hgb := Gol.gl_le b
        have hgd := Gol.gl_le d
        have hgp := Gol.gl_le p.size
        have hcap := own8_cap o12
        have HO := hide o12
        have HL := hide hl
        have HM := hide hmid
        clear hq HQ hl hmid o12
        go_wp2_with fail
        go_quiet ((go_at_call 21; exact quiet_left (glen_calls _ _ (by omega))))
        generalize Gol.gl a = x1 at *
        generalize Gol.gl b = x2 at *
        generalize Gol.gl d = x3 at *
        generalize Gol.gl p.size = x4 at *
        have hX : (1 + (x1 : Int) + (x2 : Int) + (x3 : Int) + (x4 : Int)) = ((1 + x1 + x2 + x3 + x4 : Nat) : Int) := by omega
        have hX2 : 1 + x1 + x2 + x3 + x4 ≤ 253 := by omega
        rw [hX]
        clear hX
        generalize 1 + x1 + x2 + x3 + x4 = X at *
        have hb1 : p.size + 4 ≤ n1 ∧ n1 ≤ 1000 := by have := HQ'.out; have := hn1.out; omega
        have kd := k12.below (dN w2 nq) k12.lt
        have kd2 := k22.below (dN w2 nq) k22.lt
        have r1 : (w2.drewN nq).cell? ⟨w.heap.size, 1, none⟩ = some (.string p) := kd.cell 1
        have en : ((n1 : Int) != ((X : Int) + 7) / 8 + (p.size : Int) + 4) = false := by
          have h3 : (n1 : Int) = ((X : Int) + 7) / 8 + (p.size : Int) + 4 := by have := HQ'.out; have := hn1.out; omega
          rw [bne, beq_iff_eq.2 h3]; rfl
        have hsl : ∀ w', Sem.run Try.prog (Instr.sliceAt 25 (.slice A1 n1 c1) (some (.int .i64 ((n1 : Int) - 4 - (p.size : Int)))) (some (.int .i64 ((n1 : Int) - 4))) none) w' = .ok (.slice (cutA A1 c1 q) p.size (c1 - q)) w' := fun w' => by
          have := run_cut8 (P := Try.prog) bytesT A1 n1 c1 .i64 .i64 q (q + p.size) ((n1 : Int) - 4 - (p.size : Int)) ((n1 : Int) - 4) (by have := hn1.out; omega) (by have := hn1.out; omega) (by omega) (by have := hn1.out; omega) w'
          rw [Nat.add_sub_cancel_left] at this
          exact this
        have yd : ∀ w', Below w2.heap.size w2 w' → Sem.run Try.prog (convert 25 9 (.slice (cutA A1 c1 q) p.size (c1 - q))) w' = .ok (.string p) w' := fun w' hb => by
          have h5 := (((HO.out.byt.below hb).cut q (by rw [← HO.out.1]; exact hcap)).take p.size)
          rw [HM.out] at h5
          have := run_conv8 (P := Try.prog) bytesT Try.underlying9 (cutA A1 c1 q) p.size (c1 - q) _ h5 rfl
          rw [str_data] at this
          exact this
        have cv : ∀ k, _ := fun k => yd _ ((dN w2 nq).trans (dN (w2.drewN nq) k))
        have HB2 := dN w2 nq
        have bel3 := bnext bel2 HB2
        have hA4 := hA3.below HB2
        have o3 := o2.below HB2 o2.lt
        clear yd HO HL HM hgs hgb hgd hgp q0 q1 q2 q3 k12 k22 hA3 o2 HB2
        have hV : w2.heap.size ≤ (w2.drewN nq).heap.size := Nat.le_refl _
        generalize w2.drewN nq = V at *
        go_wp2_with fail
        go_quiet (fail)
        have HB3 := dN V nq
        have kR := kd2.below HB3 kd2.lt
        have belF := bnext bel3 HB3
        have hAF := hA4.below (HB3.mono hV)
        have oF := o3.below HB3 o3.lt
        clear en hsl cv r1 kd kd2 bel3 hA4 o3 HB3 HQ' hX2 hb1 hn1 hcap
        generalize V.drewN nq = W5 at *
        clear hV t1 t2 i1 i2 f1 f2 hd p1 p2
      case' false =>
        rw [show okE false = 201 from rfl]
        have kR := k22
        have belF := bel2
        have hAF := hA3
        have oF := o2
        clear q0 q1 q2 q3 k12 k22 hA3 o2 o12
        generalize w2 = W5 at *
      all_goals
        clear bel1 bel2
        have hb : ∃ B, Byt W5 B A l := ⟨_, hAF⟩
        obtain ⟨BB, hAF⟩ := hb
        cases hr : Wi.rr id' st fr' sz n
        · rw [show okE false = 201 from rfl] at *
          go_wp2_with fail
          refine (alive20_calls _).mono ?_
          rintro e w6 ⟨rfl, b6⟩
          go_wp2
          go_ret
          exact ⟨rfl, bnext belF b6⟩
        · rw [show okE true = 0 from rfl] at *
          obtain ⟨⟨i1, i2⟩, ⟨p1, p2⟩, ⟨f1, f2⟩, ⟨t1, t2⟩, n0⟩ := rr_of hr
          rw [HN.out] at hr
          obtain ⟨q, HQ, hl, hmid⟩ := rr_len hr
          rw [← HN.out] at HQ hl hmid
          generalize rrL id' st fr' sz l = L at *
          obtain ⟨a, rfl⟩ : ∃ a : Nat, id' = a := ⟨id'.toNat, by omega⟩
          obtain ⟨b, rfl⟩ : ∃ a : Nat, st = a := ⟨st.toNat, by omega⟩
          obtain ⟨d, rfl⟩ : ∃ a : Nat, fr' = a := ⟨fr'.toNat, by omega⟩
          obtain ⟨f, rfl⟩ : ∃ a : Nat, sz = a := ⟨sz.toNat, by omega⟩
          rw [Int.toNat_natCast, Int.toNat_natCast, Int.toNat_natCast, Int.toNat_natCast] at HQ
          have HQ' := hide HQ
          have hn2 : Hid (n2 = q + n + 4) := by show _ = _; rw [oF.1]; exact hl
          have hga := Gol.gl_le a
          have hgb := Gol.gl_le b
          have hgd := Gol.gl_le d
          have hgf := Gol.gl_le f
          have hgn := Gol.gl_le n
          have hcap := own8_cap oF
          have HO := hide oF
          have HL := hide hl
          have HM := hide hmid
          have q0 : W5.cell? ⟨w.heap.size + 1, 0, none⟩ = some (.int .i64 (a : Int)) := kR.cell 0
          have q1 : W5.cell? ⟨w.heap.size + 1, 1, none⟩ = some (.int .i64 (b : Int)) := kR.cell 1
          have q2 : W5.cell? ⟨w.heap.size + 1, 2, none⟩ = some (.int .i64 (d : Int)) := kR.cell 2
          have q3 : W5.cell? ⟨w.heap.size + 1, 3, none⟩ = some (.int .i64 (f : Int)) := kR.cell 3
          have q4 : W5.cell? ⟨w.heap.size + 1, 4, none⟩ = some (.slice A n c) := kR.cell 4
          clear hr HQ hl hmid oF
          go_wp2_with fail
          go_quiet ((go_at_call 21; exact quiet_left (glen_calls _ _ (by omega))))
          generalize Gol.gl a = x1 at *
          generalize Gol.gl b = x2 at *
          generalize Gol.gl d = x3 at *
          generalize Gol.gl f = x4 at *
          generalize Gol.gl n = x5 at *
          have hX : (3 + (x1 : Int) + (x2 : Int) + (x3 : Int) + (x4 : Int) + (x5 : Int)) = ((3 + x1 + x2 + x3 + x4 + x5 : Nat) : Int) := by omega
          have hX2 : 3 + x1 + x2 + x3 + x4 + x5 ≤ 318 := by omega
          rw [hX]
          clear hX
          generalize 3 + x1 + x2 + x3 + x4 + x5 = X at *
          have hb1 : n + 4 ≤ n2 ∧ n2 ≤ 2000 := by have := HQ'.out; have := hn2.out; omega
          have en : ((n2 : Int) != ((X : Int) + 7) / 8 + (n : Int) + 4) = false := by
            have h3 : (n2 : Int) = ((X : Int) + 7) / 8 + (n : Int) + 4 := by have := HQ'.out; have := hn2.out; omega
            rw [bne, beq_iff_eq.2 h3]; rfl
          have hsl : ∀ w', Sem.run Try.prog (Instr.sliceAt 25 (.slice A2 n2 c2) (some (.int .i64 ((n2 : Int) - 4 - (n : Int)))) (some (.int .i64 ((n2 : Int) - 4))) none) w' = .ok (.slice (cutA A2 c2 q) n (c2 - q)) w' := fun w' => by
            have := run_cut8 (P := Try.prog) bytesT A2 n2 c2 .i64 .i64 q (q + n) ((n2 : Int) - 4 - (n : Int)) ((n2 : Int) - 4) (by have := hn2.out; omega) (by have := hn2.out; omega) (by omega) (by have := hn2.out; omega) w'
            rw [Nat.add_sub_cancel_left] at this
            exact this
          have dk : ∀ k, Below W5.heap.size W5 ((W5.drewN nq).drewN k) := fun k => (dN W5 nq).trans (dN (W5.drewN nq) k)
          have cv : ∀ k, Sem.run Try.prog (convert 25 9 (.slice (cutA A2 c2 q) n (c2 - q))) ((W5.drewN nq).drewN k) = .ok (.string (str l)) ((W5.drewN nq).drewN k) := fun k => by
            have h5 := (((HO.out.byt.below (dk k)).cut q (by rw [← HO.out.1]; exact hcap)).take n)
            rw [HM.out] at h5
            exact run_conv8 (P := Try.prog) bytesT Try.underlying9 (cutA A2 c2 q) n (c2 - q) _ h5 HN.out
          have cv2 : ∀ k, Sem.run Try.prog (convert 25 9 (.slice A n c)) ((W5.drewN nq).drewN k) = .ok (.string (str l)) ((W5.drewN nq).drewN k) := fun k => run_conv8 (P := Try.prog) bytesT Try.underlying9 A n c _ (hAF.here.below (dk k)) HN.out
          have kd := kR.below (dN W5 nq) kR.lt
          have r4 : (W5.drewN nq).cell? ⟨w.heap.size + 1, 4, none⟩ = some (.slice A n c) := kd.cell 4
          have bel3 := bnext belF (dN W5 nq)
          clear dk HO HL HM hga hgb hgd hgf hgn q0 q1 q2 q3 q4 kR hAF belF kd
          generalize W5.drewN nq = V at *
          go_wp2_with fail
          go_quiet (fail)
          have bel4 := bnext bel3 (dN V nq)
          go_wp2_with fail
          refine (alive20_calls _).mono ?_
          rintro e w6 ⟨rfl, b6⟩
          go_wp2
          go_ret
          exact ⟨rfl, bnext bel4 b6⟩
end Go.Proofs.Ytijcollcncjdoaa
