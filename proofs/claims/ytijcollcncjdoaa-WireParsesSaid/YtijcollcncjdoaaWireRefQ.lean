/- The document's request, and response, of bytes, each by its contract. Conditions: the slice reads as bytes. -/
import Derived.Test.YtijcollcncjdoaaWireRef
import Derived.Test.YtijcollcncjdoaaWireBackWalk
namespace Go.Proofs.Ytijcollcncjdoaa
open Go.RowKit Kin

theorem ints_at {w : World} {A : Option Addr} {n c : Nat} {l : List UInt8} {m : Nat} (o : OwnR w 3 1 A n c ((rdVs l m).map intRow)) (h : 0 < m) :
    n = m ∧ ∃ g, A = some ⟨g, 0, none⟩ ∧ g < w.heap.size ∧ ∀ i, i < m → w.cell? ⟨g, i, none⟩ = some (.int .i64 (Wi.rdV l i : Int)) := by
  have hn : n = m := by rw [o.1, List.length_map]; unfold rdVs; rw [List.length_map, List.length_range]
  subst hn
  obtain ⟨g, r, hA, _⟩ := o.at_ h
  refine ⟨rfl, g, hA, o.lt g (by rw [hA]; rfl), fun i hi => ?_⟩
  obtain ⟨g', r, hA', hr, _, hc⟩ := o.at_ hi
  rw [hA] at hA'
  injection hA' with hA'
  injection hA' with hA'
  subst hA'
  rw [List.getElem?_map] at hr
  have hx : (rdVs l n)[i]? = some (Wi.rdV l i) := by unfold rdVs; rw [List.getElem?_map, List.getElem?_range hi]; rfl
  rw [hx] at hr
  injection hr with hr
  subst hr
  have := hc 0 _ rfl
  rwa [Nat.mul_one, Nat.add_zero] at this

/-- the document's parse, plainly: the same as the program's -/
theorem opE_pq {b : List UInt8} (h : opE b 5 ≠ 0) : Wi.pqE b = opE b 5 := by
  have hp : Wi.paE b 0 5 = opE b 5 := by
    unfold opE Wi.paE at *
    by_cases h4 : b.length < 4
    · rw [if_pos h4, if_pos h4]
    rw [if_neg h4, if_neg h4] at *
    by_cases hs : ¬ Crc.sum (Wi.ahead b) = Wi.told b
    · rw [if_pos hs, if_pos hs]
    rw [if_neg hs, if_neg hs] at *
    by_cases ho : opOk (Wi.ahead b) 5 = true
    · rw [if_pos ho] at h; exact absurd rfl h
    · rw [if_neg ho, if_neg]
      rw [paOk_eq]
      intro hh
      exact ho (by simp only [Bool.and_eq_true] at hh; exact hh.1)
  unfold Wi.pqE
  rw [hp, if_neg h]
theorem opE_pr {b : List UInt8} (h : opE b 6 ≠ 0) : Wi.prE b = opE b 6 := by
  have hp : Wi.paE b 1 6 = opE b 6 := by
    unfold opE Wi.paE at *
    by_cases h4 : b.length < 4
    · rw [if_pos h4, if_pos h4]
    rw [if_neg h4, if_neg h4] at *
    by_cases hs : ¬ Crc.sum (Wi.ahead b) = Wi.told b
    · rw [if_pos hs, if_pos hs]
    rw [if_neg hs, if_neg hs] at *
    by_cases ho : opOk (Wi.ahead b) 6 = true
    · rw [if_pos ho] at h; exact absurd rfl h
    · rw [if_neg ho, if_neg]
      rw [paOk_eq]
      intro hh
      exact ho (by simp only [Bool.and_eq_true] at hh; exact hh.1)
  unfold Wi.prE
  rw [hp, if_neg h]
theorem paE_201 {b : List UInt8} {kind m : Nat} (h : opE b m = 0) : Wi.paE b kind m = 0 ∨ Wi.paE b kind m = 201 := by
  unfold opE at h
  unfold Wi.paE
  by_cases h4 : b.length < 4
  · rw [if_pos h4] at h; cases h
  rw [if_neg h4] at *
  by_cases hs : ¬ Crc.sum (Wi.ahead b) = Wi.told b
  · rw [if_pos hs] at h; cases h
  rw [if_neg hs]
  by_cases hq : Wi.paOk (Wi.ahead b) kind m = true
  · rw [if_pos hq]; exact .inl rfl
  · rw [if_neg hq]; exact .inr rfl
theorem pq_201 {b : List UInt8} (h : opE b 5 = 0) : Wi.pqE b = 0 ∨ Wi.pqE b = 201 := by
  unfold Wi.pqE
  rcases paE_201 (kind := 0) h with e | e
  · rw [if_pos e]
    by_cases hq : Wi.qok b = true
    · rw [if_pos hq]; exact .inl rfl
    · rw [if_neg hq]; exact .inr rfl
  · rw [if_neg (by rw [e]; decide)]; exact .inr e
theorem pr_201 {b : List UInt8} (h : opE b 6 = 0) : Wi.prE b = 0 ∨ Wi.prE b = 201 := by
  unfold Wi.prE
  rcases paE_201 (kind := 1) h with e | e
  · rw [if_pos e]
    by_cases hq : Wi.rok b = true
    · rw [if_pos hq]; exact .inl rfl
    · rw [if_neg hq]; exact .inr rfl
  · rw [if_neg (by rw [e]; decide)]; exact .inr e
/-- the request's bytes are the file: then the program takes it, and the other way round -/
theorem pq_iff {b : List UInt8} : (Wi.rq (Wi.rdV (Wi.ahead b) 1) (str (Wi.tail (Wi.ahead b) 5)) (Wi.rdV (Wi.ahead b) 2) ((Wi.rdV (Wi.ahead b) 3 : Int) - 1) = true ∧ rqL (Wi.rdV (Wi.ahead b) 1) (str (Wi.tail (Wi.ahead b) 5)) (Wi.rdV (Wi.ahead b) 2) ((Wi.rdV (Wi.ahead b) 3 : Int) - 1) = b) ↔ Wi.pqE b = 0 := by
  constructor
  · rintro ⟨h1, h2⟩
    have := (pq_back h1).1
    rwa [h2] at this
  · intro h
    have := pq_of h
    have e1 : Wi.pqI b = (Wi.rdV (Wi.ahead b) 1 : Int) := if_pos h
    have e2 : Wi.pqP b = str (Wi.tail (Wi.ahead b) 5) := if_pos h
    have e3 : Wi.pqF b = (Wi.rdV (Wi.ahead b) 2 : Int) := if_pos h
    have e4 : Wi.pqT b = (Wi.rdV (Wi.ahead b) 3 : Int) - 1 := if_pos h
    rwa [e1, e2, e3, e4] at this
theorem pr_iff {b : List UInt8} : (Wi.rr (Wi.rdV (Wi.ahead b) 1) (Wi.rdV (Wi.ahead b) 2) (Wi.rdV (Wi.ahead b) 3) (Wi.rdV (Wi.ahead b) 4) (Wi.tail (Wi.ahead b) 6).length = true ∧ rrL (Wi.rdV (Wi.ahead b) 1) (Wi.rdV (Wi.ahead b) 2) (Wi.rdV (Wi.ahead b) 3) (Wi.rdV (Wi.ahead b) 4) (Wi.tail (Wi.ahead b) 6) = b) ↔ Wi.prE b = 0 := by
  constructor
  · rintro ⟨h1, h2⟩
    have := (pr_back h1).1
    rwa [h2] at this
  · intro h
    have := pr_of h
    have e1 : Wi.prI b = (Wi.rdV (Wi.ahead b) 1 : Int) := if_pos h
    have e2 : Wi.prS b = (Wi.rdV (Wi.ahead b) 2 : Int) := if_pos h
    have e3 : Wi.prF b = (Wi.rdV (Wi.ahead b) 3 : Int) := if_pos h
    have e4 : Wi.prZ b = (Wi.rdV (Wi.ahead b) 4 : Int) := if_pos h
    have e5 : Wi.prB b = Wi.tail (Wi.ahead b) 6 := if_pos h
    rwa [e1, e2, e3, e4, e5] at this

theorem str_ne {a b : List UInt8} (h : ¬ a = b) : ((str a).toList == (str b).toList) = false := by
  refine tl_ne (fun e => h ?_)
  have := congrArg (fun t => t.data.toList) e
  simpa [str] using this
theorem chg5 (W : World) (q : Nat) (a b c d e : Value) : Chg (One q) W (((((W.setCell ⟨q, 0, none⟩ a).setCell ⟨q, 1, none⟩ b).setCell ⟨q, 2, none⟩ c).setCell ⟨q, 3, none⟩ d).setCell ⟨q, 4, none⟩ e) :=
  (((((Chg.refl (One q) W).setCell (p := ⟨q, 0, none⟩) (.inl rfl) a).setCell (p := ⟨q, 1, none⟩) (.inl rfl) b).setCell (p := ⟨q, 2, none⟩) (.inl rfl) c).setCell (p := ⟨q, 3, none⟩) (.inl rfl) d).setCell (p := ⟨q, 4, none⟩) (.inl rfl) e

set_option maxRecDepth 100000 in
set_option maxHeartbeats 4000000 in
theorem refprq_calls (A : Option Addr) (n c : Nat) (b : List UInt8) (w : World) (hn : n = b.length) (hc : n ≤ c) (hm : n ≤ 1000000) (hA : Byt w w.heap.size A b) :
    Calls Try.prog 17 #[.slice A n c] w (RetQ w b) := by
  have b0 : Below w.heap.size w (w.alloc (.cells zreq 23)) := (Below.refl _ _).alloc (Nat.le_refl _) _
  have q00 := Blk.new w 23 zreq
  have hA1 := (hA.below b0).more b0.size
  have hop := wopen_calls A n c b 5 (w.alloc (.cells zreq 23)) hn hc hm (by omega) hA1
  have HN := hide hn
  clear hn hA
  go_enter Try.func17, Try.ntmps17
  go_wp2_with fail
  refine hop.mono ?_
  have hg0 : w.heap.size < (w.alloc (.cells zreq 23)).heap.size := by rw [World.size_alloc]; omega
  generalize w.alloc (.cells zreq 23) = W0 at *
  clear hop
  rintro e W ⟨b1, h⟩
  have q0 := q00.below b1 q00.lt
  have bel1 := bnext b0 b1
  have hAW := (hA1.below b1).more b1.size
  have hgW : w.heap.size < W.heap.size := Nat.lt_of_lt_of_le hg0 b1.size
  clear q00 b0 hA1
  rcases h with ⟨h0, A1, n1, c1, A2, n2, c2, rfl, o1, g1, o2, g2⟩ | ⟨h0, rfl⟩
  · obtain ⟨rfl, gi, rfl, hgi, hci⟩ := ints_at o1 (by omega)
    have v1c := hci 1 (by omega)
    have v2c := hci 2 (by omega)
    have v3c := hci 3 (by omega)
    have l1 := rdV_lt (Wi.ahead b) 1
    have l2 := rdV_lt (Wi.ahead b) 2
    have l3 := rdV_lt (Wi.ahead b) 3
    have HIF := hide (@pq_iff b)
    have H01 := hide (pq_201 h0)
    have HPG := hide (@pq_good b)
    have HPB := hide (@pq_bad b)
    have HTL : Hid ((Wi.tail (Wi.ahead b) 5).length ≤ 1000000) := by
      show _ ≤ _
      unfold Wi.tail Wi.ahead
      rw [List.length_drop, List.length_take, ← HN.out]
      omega
    have zA2 : ∀ g, blkOf A2 = some g → w.heap.size < g := fun g hg => Nat.lt_of_lt_of_le hg0 (g2 g hg)
    clear hci o1 g1 g2 h0
    generalize Wi.rdV (Wi.ahead b) 1 = v1 at *
    generalize Wi.rdV (Wi.ahead b) 2 = v2 at *
    generalize Wi.rdV (Wi.ahead b) 3 = v3 at *
    have HT2 : Hid (n2 = (Wi.tail (Wi.ahead b) 5).length) := o2.1
    have hTs : (str (Wi.tail (Wi.ahead b) 5)).size ≤ 9223372036854775807 := by
      have e : (str (Wi.tail (Wi.ahead b) 5)).size = (Wi.tail (Wi.ahead b) 5).length := by simp [str, ByteArray.size]
      have := HTL.out
      omega
    have cv : ∀ w', Below W.heap.size W w' → Sem.run Try.prog (convert 25 9 (.slice A2 n2 c2)) w' = .ok (.string (str (Wi.tail (Wi.ahead b) 5))) w' := fun w' h => run_conv8 bytesT Try.underlying9 A2 n2 c2 _ (o2.byt.below h) o2.1
    generalize str (Wi.tail (Wi.ahead b) 5) = T at *
    have hw : IntKind.i64.wrap ((v3 : Int) - 1) = (v3 : Int) - 1 := by rw [IntKind.wrap_i64]; omega
    have bZ : Below W.heap.size W (W.alloc (.cells zreq 23)) := (Below.refl _ _).alloc (Nat.le_refl _) _
    have bF : Below W.heap.size W (W.alloc (.cells #[.int .i64 (v1 : Int), .string T, .int .i64 (v2 : Int), .int .i64 ((v3 : Int) - 1)] 23)) := (Below.refl _ _).alloc (Nat.le_refl _) _
    have K : ∀ w', Below W.heap.size W w' → Below W.heap.size W w' ∧ w'.cell? ⟨gi, 1, none⟩ = some (.int .i64 (v1 : Int)) ∧ w'.cell? ⟨gi, 2, none⟩ = some (.int .i64 (v2 : Int)) ∧ w'.cell? ⟨gi, 3, none⟩ = some (.int .i64 (v3 : Int)) := fun w' h => ⟨h, (h.cell (p := ⟨gi, 1, none⟩) hgi).trans v1c, (h.cell (p := ⟨gi, 2, none⟩) hgi).trans v2c, (h.cell (p := ⟨gi, 3, none⟩) hgi).trans v3c⟩
    have K0 := K _ (Below.refl W.heap.size W).drew
    have KZ := K _ bZ.drew
    have KF := K _ bF.drew
    have qF0 : Blk (W.alloc (.cells #[.int .i64 (v1 : Int), .string T, .int .i64 (v2 : Int), .int .i64 ((v3 : Int) - 1)] 23)).drew W.heap.size 23 #[.int .i64 (v1 : Int), .string T, .int .i64 (v2 : Int), .int .i64 ((v3 : Int) - 1)] := (Blk.new W 23 #[.int .i64 (v1 : Int), .string T, .int .i64 (v2 : Int), .int .i64 ((v3 : Int) - 1)]).drew
    clear v1c v2c v3c o2
    go_wp2_with fail
    go_region_held3 (fun w' => Below W.heap.size W w' ∧ w'.cell? ⟨gi, 1, none⟩ = some (.int .i64 (v1 : Int)) ∧ w'.cell? ⟨gi, 2, none⟩ = some (.int .i64 (v2 : Int)) ∧ w'.cell? ⟨gi, 3, none⟩ = some (.int .i64 (v3 : Int)))
      (first | with_reducible exact K0 | with_reducible exact KZ | with_reducible exact KF)
      (fail)
    all_goals
      clear K K0 KZ KF bZ cv
      have bFd := bF.drew
      clear bF
      clear hw
      generalize (W.alloc (.cells #[.int .i64 (v1 : Int), .string T, .int .i64 (v2 : Int), .int .i64 ((v3 : Int) - 1)] 23)).drew = V at *
      have q0V := q0.below bFd q0.lt
      have belV := bnext bel1 bFd
      have hAV := (hAW.below bFd).more bFd.size
      have f0 : V.cell? ⟨W.heap.size, 0, none⟩ = some (.int .i64 (v1 : Int)) := qF0.cell 0
      have f1 : V.cell? ⟨W.heap.size, 1, none⟩ = some (.string T) := qF0.cell 1
      have f2 : V.cell? ⟨W.heap.size, 2, none⟩ = some (.int .i64 (v2 : Int)) := qF0.cell 2
      have f3 : V.cell? ⟨W.heap.size, 3, none⟩ = some (.int .i64 ((v3 : Int) - 1)) := qF0.cell 3
      have hR := refrequest_calls v1 T v2 ((v3 : Int) - 1) V hTs
      clear q0 bel1 hAW bFd 
      go_wp2_with fail
      refine hR.mono ?_
      rintro e w3 ⟨A3, n3, c3, rfl, o3, g3, b3⟩
      have q03 := q0V.below b3 q0V.lt
      have qF3 := qF0.below b3 qF0.lt
      have bel3 := bnext belV b3
      have hA3 := (hAV.below b3).more b3.size

      clear hR q0V qF0 belV hAV b3 f0 f1 f2 f3  g3
      have z0 := q03.frozen 0
      have z1 := q03.frozen 1
      have z2 := q03.frozen 2
      have z3 := q03.frozen 3
      have k0 : w3.cell? ⟨w.heap.size, 0, none⟩ = some (.int .i64 0) := q03.cell 0
      have k1 : w3.cell? ⟨w.heap.size, 1, none⟩ = some (.string ⟨#[]⟩) := q03.cell 1
      have k2 : w3.cell? ⟨w.heap.size, 2, none⟩ = some (.int .i64 0) := q03.cell 2
      have k3 : w3.cell? ⟨w.heap.size, 3, none⟩ = some (.int .i64 0) := q03.cell 3
      cases hq : Wi.rq v1 T v2 ((v3 : Int) - 1)
      · have HE : Hid (Wi.pqE b = 201) := H01.out.resolve_left (fun h => by have := (HIF.out.2 h).1; rw [hq] at this; cases this)
        have HV := HPB.out (by rw [HE.out]; decide)
        rw [show okE false = 201 from rfl]
        obtain ⟨qF, bF⟩ := set4 q03 bel3 (Nat.le_refl _) (.int .i64 0) (.string ⟨#[]⟩) (.int .i64 0) (.int .i64 0)
        go_wp2
        generalize ((((w3.setCell ⟨w.heap.size, 0, none⟩ (.int .i64 0)).setCell ⟨w.heap.size, 1, none⟩ (.string ⟨#[]⟩)).setCell ⟨w.heap.size, 2, none⟩ (.int .i64 0)).setCell ⟨w.heap.size, 3, none⟩ (.int .i64 0)) = F at *
        have y0 : F.cell? ⟨w.heap.size, 0, none⟩ = some (.int .i64 0) := qF.cell 0
        have y1 : F.cell? ⟨w.heap.size, 1, none⟩ = some (.string ⟨#[]⟩) := qF.cell 1
        have y2 : F.cell? ⟨w.heap.size, 2, none⟩ = some (.int .i64 0) := qF.cell 2
        have y3 : F.cell? ⟨w.heap.size, 3, none⟩ = some (.int .i64 0) := qF.cell 3
        refine bodyPost_ret (v := .tuple #[.agg zreq, .int .i64 201]) (by simp [results, Try.results17, go_sem, y0, y1, y2, y3]) rfl ?_
        exact ⟨by rw [HV, HE.out], bF⟩
      · rw [show okE true = 0 from rfl]
        have cv1 : Sem.run Try.prog (convert 25 9 (.slice A3 n3 c3)) w3 = .ok (.string (str (rqL v1 T v2 ((v3 : Int) - 1)))) w3 := run_conv8 (P := Try.prog) bytesT Try.underlying9 A3 n3 c3 _ o3.byt o3.1
        have cv2 : Sem.run Try.prog (convert 25 9 (.slice A n c)) w3 = .ok (.string (str b)) w3 := run_conv8 (P := Try.prog) bytesT Try.underlying9 A n c _ hA3 HN.out
        by_cases hL : rqL v1 T v2 ((v3 : Int) - 1) = b
        · have HE : Hid (Wi.pqE b = 0) := HIF.out.1 ⟨hq, hL⟩
          have HV := HPG.out HE.out
          rw [hL] at cv1
          clear o3 hA3 hq hL
          have e0 : w3.cell? ⟨W.heap.size, 0, none⟩ = some (.int .i64 (v1 : Int)) := qF3.cell 0
          have e1 : w3.cell? ⟨W.heap.size, 1, none⟩ = some (.string T) := qF3.cell 1
          have e2 : w3.cell? ⟨W.heap.size, 2, none⟩ = some (.int .i64 (v2 : Int)) := qF3.cell 2
          have e3 : w3.cell? ⟨W.heap.size, 3, none⟩ = some (.int .i64 ((v3 : Int) - 1)) := qF3.cell 3
          obtain ⟨qF, bF⟩ := set4 q03 bel3 (Nat.le_refl _) (.int .i64 (v1 : Int)) (.string T) (.int .i64 (v2 : Int)) (.int .i64 ((v3 : Int) - 1))
          go_wp2
          generalize ((((w3.setCell ⟨w.heap.size, 0, none⟩ (.int .i64 (v1 : Int))).setCell ⟨w.heap.size, 1, none⟩ (.string T)).setCell ⟨w.heap.size, 2, none⟩ (.int .i64 (v2 : Int))).setCell ⟨w.heap.size, 3, none⟩ (.int .i64 ((v3 : Int) - 1))) = F at *
          have y0 : F.cell? ⟨w.heap.size, 0, none⟩ = some (.int .i64 (v1 : Int)) := qF.cell 0
          have y1 : F.cell? ⟨w.heap.size, 1, none⟩ = some (.string T) := qF.cell 1
          have y2 : F.cell? ⟨w.heap.size, 2, none⟩ = some (.int .i64 (v2 : Int)) := qF.cell 2
          have y3 : F.cell? ⟨w.heap.size, 3, none⟩ = some (.int .i64 ((v3 : Int) - 1)) := qF.cell 3
          refine bodyPost_ret (v := .tuple #[reqV v1 T v2 ((v3 : Int) - 1), .int .i64 0]) (by simp [results, Try.results17, go_sem, y0, y1, y2, y3]) rfl ?_
          exact ⟨by rw [HV, HE.out], bF⟩
        · have HE : Hid (Wi.pqE b = 201) := H01.out.resolve_left (fun h => hL (HIF.out.2 h).2)
          have HV := HPB.out (by rw [HE.out]; decide)
          have ne := str_ne hL
          clear o3 hA3 hq hL
          obtain ⟨qF, bF⟩ := set4 q03 bel3 (Nat.le_refl _) (.int .i64 0) (.string ⟨#[]⟩) (.int .i64 0) (.int .i64 0)
          go_wp2
          generalize ((((w3.setCell ⟨w.heap.size, 0, none⟩ (.int .i64 0)).setCell ⟨w.heap.size, 1, none⟩ (.string ⟨#[]⟩)).setCell ⟨w.heap.size, 2, none⟩ (.int .i64 0)).setCell ⟨w.heap.size, 3, none⟩ (.int .i64 0)) = F at *
          have y0 : F.cell? ⟨w.heap.size, 0, none⟩ = some (.int .i64 0) := qF.cell 0
          have y1 : F.cell? ⟨w.heap.size, 1, none⟩ = some (.string ⟨#[]⟩) := qF.cell 1
          have y2 : F.cell? ⟨w.heap.size, 2, none⟩ = some (.int .i64 0) := qF.cell 2
          have y3 : F.cell? ⟨w.heap.size, 3, none⟩ = some (.int .i64 0) := qF.cell 3
          refine bodyPost_ret (v := .tuple #[.agg zreq, .int .i64 201]) (by simp [results, Try.results17, go_sem, y0, y1, y2, y3]) rfl ?_
          exact ⟨by rw [HV, HE.out], bF⟩
  · have HE : Hid (Wi.pqE b = opE b 5) := opE_pq h0
    have hE : Wi.pqE b ≠ 0 := by rw [HE.out]; exact h0
    have HV := pq_bad hE
    have en : (opE b 5 != 0) = true := by simpa using h0
    clear h0 hE
    have z0 := q0.frozen 0
    have z1 := q0.frozen 1
    have z2 := q0.frozen 2
    have z3 := q0.frozen 3
    have k0 : W.cell? ⟨w.heap.size, 0, none⟩ = some (.int .i64 0) := q0.cell 0
    have k1 : W.cell? ⟨w.heap.size, 1, none⟩ = some (.string ⟨#[]⟩) := q0.cell 1
    have k2 : W.cell? ⟨w.heap.size, 2, none⟩ = some (.int .i64 0) := q0.cell 2
    have k3 : W.cell? ⟨w.heap.size, 3, none⟩ = some (.int .i64 0) := q0.cell 3
    obtain ⟨qF, bF⟩ := set4 q0 bel1 (Nat.le_refl _) (.int .i64 0) (.string ⟨#[]⟩) (.int .i64 0) (.int .i64 0)
    go_wp2
    generalize ((((W.setCell ⟨w.heap.size, 0, none⟩ (.int .i64 0)).setCell ⟨w.heap.size, 1, none⟩ (.string ⟨#[]⟩)).setCell ⟨w.heap.size, 2, none⟩ (.int .i64 0)).setCell ⟨w.heap.size, 3, none⟩ (.int .i64 0)) = F at *
    have y0 : F.cell? ⟨w.heap.size, 0, none⟩ = some (.int .i64 0) := qF.cell 0
    have y1 : F.cell? ⟨w.heap.size, 1, none⟩ = some (.string ⟨#[]⟩) := qF.cell 1
    have y2 : F.cell? ⟨w.heap.size, 2, none⟩ = some (.int .i64 0) := qF.cell 2
    have y3 : F.cell? ⟨w.heap.size, 3, none⟩ = some (.int .i64 0) := qF.cell 3
    refine bodyPost_ret (v := .tuple #[.agg zreq, .int .i64 (opE b 5)]) (by simp [results, Try.results17, go_sem, y0, y1, y2, y3]) rfl ?_
    exact ⟨by rw [HV, HE.out], bF⟩

set_option maxRecDepth 100000 in
set_option maxHeartbeats 4000000 in
theorem refprr_calls (A : Option Addr) (n c : Nat) (b : List UInt8) (w : World) (hn : n = b.length) (hc : n ≤ c) (hm : n ≤ 1000000) (hA : Byt w w.heap.size A b) :
    Calls Try.prog 19 #[.slice A n c] w (RetR w b) := by
  have b0 : Below w.heap.size w (w.alloc (.cells zres 27)) := (Below.refl _ _).alloc (Nat.le_refl _) _
  have q00 := Blk.new w 27 zres
  have hA1 := (hA.below b0).more b0.size
  have hop := wopen_calls A n c b 6 (w.alloc (.cells zres 27)) hn hc hm (by omega) hA1
  have HN := hide hn
  clear hn hA
  go_enter Try.func19, Try.ntmps19
  go_wp2_with fail
  refine hop.mono ?_
  have hg0 : w.heap.size < (w.alloc (.cells zres 27)).heap.size := by rw [World.size_alloc]; omega
  generalize w.alloc (.cells zres 27) = W0 at *
  clear hop
  rintro e W ⟨b1, h⟩
  have q0 := q00.below b1 q00.lt
  have bel1 := bnext b0 b1
  have hAW := (hA1.below b1).more b1.size
  have hgW : w.heap.size < W.heap.size := Nat.lt_of_lt_of_le hg0 b1.size
  clear q00 b0 hA1
  rcases h with ⟨h0, A1, n1, c1, A2, n2, c2, rfl, o1, g1, o2, g2⟩ | ⟨h0, rfl⟩
  · obtain ⟨rfl, gi, rfl, hgi, hci⟩ := ints_at o1 (by omega)
    have v1c := hci 1 (by omega)
    have v2c := hci 2 (by omega)
    have v3c := hci 3 (by omega)
    have v4c := hci 4 (by omega)
    have l1 := rdV_lt (Wi.ahead b) 1
    have l2 := rdV_lt (Wi.ahead b) 2
    have l3 := rdV_lt (Wi.ahead b) 3
    have l4 := rdV_lt (Wi.ahead b) 4
    have HIF := hide (@pr_iff b)
    have H01 := hide (pr_201 h0)
    have HPG := hide (@pr_good b)
    have HPB := hide (@pr_bad b)
    have HTL : Hid ((Wi.tail (Wi.ahead b) 6).length ≤ 1000000) := by
      show _ ≤ _
      unfold Wi.tail Wi.ahead
      rw [List.length_drop, List.length_take, ← HN.out]
      omega
    have zA2 : ∀ g, blkOf A2 = some g → w.heap.size < g := fun g hg => Nat.lt_of_lt_of_le hg0 (g2 g hg)
    clear hci o1 g1 g2 h0
    generalize Wi.rdV (Wi.ahead b) 1 = v1 at *
    generalize Wi.rdV (Wi.ahead b) 2 = v2 at *
    generalize Wi.rdV (Wi.ahead b) 3 = v3 at *
    generalize Wi.rdV (Wi.ahead b) 4 = v4 at *
    have hn2 : n2 ≤ 1000000 := by rw [o2.1]; exact HTL.out
    have HT2 : Hid (n2 = (Wi.tail (Wi.ahead b) 6).length) := o2.1
    generalize Wi.tail (Wi.ahead b) 6 = TL at *
    rw [← HT2.out] at HIF
    have bZ : Below W.heap.size W (W.alloc (.cells zres 27)) := (Below.refl _ _).alloc (Nat.le_refl _) _
    have bF : Below W.heap.size W (W.alloc (.cells #[.int .i64 (v1 : Int), .int .i64 (v2 : Int), .int .i64 (v3 : Int), .int .i64 (v4 : Int), .slice A2 n2 c2] 27)) := (Below.refl _ _).alloc (Nat.le_refl _) _
    have K : ∀ w', Below W.heap.size W w' → Below W.heap.size W w' ∧ w'.cell? ⟨gi, 1, none⟩ = some (.int .i64 (v1 : Int)) ∧ w'.cell? ⟨gi, 2, none⟩ = some (.int .i64 (v2 : Int)) ∧ w'.cell? ⟨gi, 3, none⟩ = some (.int .i64 (v3 : Int)) ∧ w'.cell? ⟨gi, 4, none⟩ = some (.int .i64 (v4 : Int)) := fun w' h => ⟨h, (h.cell (p := ⟨gi, 1, none⟩) hgi).trans v1c, (h.cell (p := ⟨gi, 2, none⟩) hgi).trans v2c, (h.cell (p := ⟨gi, 3, none⟩) hgi).trans v3c, (h.cell (p := ⟨gi, 4, none⟩) hgi).trans v4c⟩
    have K0 := K _ (Below.refl W.heap.size W).drew
    have KZ := K _ bZ.drew
    have KF := K _ bF.drew
    have qF0 : Blk (W.alloc (.cells #[.int .i64 (v1 : Int), .int .i64 (v2 : Int), .int .i64 (v3 : Int), .int .i64 (v4 : Int), .slice A2 n2 c2] 27)).drew W.heap.size 27 #[.int .i64 (v1 : Int), .int .i64 (v2 : Int), .int .i64 (v3 : Int), .int .i64 (v4 : Int), .slice A2 n2 c2] := (Blk.new W 27 #[.int .i64 (v1 : Int), .int .i64 (v2 : Int), .int .i64 (v3 : Int), .int .i64 (v4 : Int), .slice A2 n2 c2]).drew
    clear v1c v2c v3c v4c 
    go_wp2_with fail
    go_region_held3 (fun w' => Below W.heap.size W w' ∧ w'.cell? ⟨gi, 1, none⟩ = some (.int .i64 (v1 : Int)) ∧ w'.cell? ⟨gi, 2, none⟩ = some (.int .i64 (v2 : Int)) ∧ w'.cell? ⟨gi, 3, none⟩ = some (.int .i64 (v3 : Int)) ∧ w'.cell? ⟨gi, 4, none⟩ = some (.int .i64 (v4 : Int)))
      (first | with_reducible exact K0 | with_reducible exact KZ | with_reducible exact KF)
      (fail)
    all_goals
      clear K K0 KZ KF bZ 
      have bFd := bF.drew
      clear bF
      skip
      generalize (W.alloc (.cells #[.int .i64 (v1 : Int), .int .i64 (v2 : Int), .int .i64 (v3 : Int), .int .i64 (v4 : Int), .slice A2 n2 c2] 27)).drew = V at *
      have q0V := q0.below bFd q0.lt
      have belV := bnext bel1 bFd
      have hAV := (hAW.below bFd).more bFd.size
      have o2V := o2.below bFd o2.lt
      have f0 : V.cell? ⟨W.heap.size, 0, none⟩ = some (.int .i64 (v1 : Int)) := qF0.cell 0
      have f1 : V.cell? ⟨W.heap.size, 1, none⟩ = some (.int .i64 (v2 : Int)) := qF0.cell 1
      have f2 : V.cell? ⟨W.heap.size, 2, none⟩ = some (.int .i64 (v3 : Int)) := qF0.cell 2
      have f3 : V.cell? ⟨W.heap.size, 3, none⟩ = some (.int .i64 (v4 : Int)) := qF0.cell 3
      have f4 : V.cell? ⟨W.heap.size, 4, none⟩ = some (.slice A2 n2 c2) := qF0.cell 4
      have hR := refresponse_calls v1 v2 v3 v4 A2 n2 c2 TL V HT2.out (by omega) o2V.byt
      clear q0 bel1 hAW bFd o2
      go_wp2_with fail
      refine hR.mono ?_
      rintro e w3 ⟨A3, n3, c3, rfl, o3, g3, b3⟩
      have q03 := q0V.below b3 q0V.lt
      have qF3 := qF0.below b3 qF0.lt
      have bel3 := bnext belV b3
      have hA3 := (hAV.below b3).more b3.size
      have o23 := o2V.below b3 o2V.lt
      clear hR q0V qF0 belV hAV b3 f0 f1 f2 f3 f4 o2V g3
      have z0 := q03.frozen 0
      have z1 := q03.frozen 1
      have z2 := q03.frozen 2
      have z3 := q03.frozen 3
      have z4 := q03.frozen 4
      have k0 : w3.cell? ⟨w.heap.size, 0, none⟩ = some (.int .i64 0) := q03.cell 0
      have k1 : w3.cell? ⟨w.heap.size, 1, none⟩ = some (.int .i64 0) := q03.cell 1
      have k2 : w3.cell? ⟨w.heap.size, 2, none⟩ = some (.int .i64 0) := q03.cell 2
      have k3 : w3.cell? ⟨w.heap.size, 3, none⟩ = some (.int .i64 0) := q03.cell 3
      have k4 : w3.cell? ⟨w.heap.size, 4, none⟩ = some (.slice none 0 0) := q03.cell 4
      cases hq : Wi.rr v1 v2 v3 v4 n2
      · have HE : Hid (Wi.prE b = 201) := H01.out.resolve_left (fun h => by have := (HIF.out.2 h).1; rw [hq] at this; cases this)
        have HV := HPB.out (by rw [HE.out]; decide)
        rw [show okE false = 201 from rfl]
        obtain ⟨qF, bF⟩ := set5 q03 bel3 (Nat.le_refl _) (.int .i64 0) (.int .i64 0) (.int .i64 0) (.int .i64 0) (.slice none 0 0)
        go_wp2
        generalize (((((w3.setCell ⟨w.heap.size, 0, none⟩ (.int .i64 0)).setCell ⟨w.heap.size, 1, none⟩ (.int .i64 0)).setCell ⟨w.heap.size, 2, none⟩ (.int .i64 0)).setCell ⟨w.heap.size, 3, none⟩ (.int .i64 0)).setCell ⟨w.heap.size, 4, none⟩ (.slice none 0 0)) = F at *
        have y0 : F.cell? ⟨w.heap.size, 0, none⟩ = some (.int .i64 0) := qF.cell 0
        have y1 : F.cell? ⟨w.heap.size, 1, none⟩ = some (.int .i64 0) := qF.cell 1
        have y2 : F.cell? ⟨w.heap.size, 2, none⟩ = some (.int .i64 0) := qF.cell 2
        have y3 : F.cell? ⟨w.heap.size, 3, none⟩ = some (.int .i64 0) := qF.cell 3
        have y4 : F.cell? ⟨w.heap.size, 4, none⟩ = some (.slice none 0 0) := qF.cell 4
        refine bodyPost_ret (v := .tuple #[.agg zres, .int .i64 201]) (by simp [results, Try.results19, go_sem, y0, y1, y2, y3, y4]) rfl ?_
        exact ⟨none, 0, 0, by rw [HV.1, HE.out], by rw [HV.2]; exact Own8.nil _ _, by simp [blkOf], bF⟩
      · rw [show okE true = 0 from rfl]
        have cv1 : Sem.run Try.prog (convert 25 9 (.slice A3 n3 c3)) w3 = .ok (.string (str (rrL v1 v2 v3 v4 TL))) w3 := run_conv8 (P := Try.prog) bytesT Try.underlying9 A3 n3 c3 _ o3.byt o3.1
        have cv2 : Sem.run Try.prog (convert 25 9 (.slice A n c)) w3 = .ok (.string (str b)) w3 := run_conv8 (P := Try.prog) bytesT Try.underlying9 A n c _ hA3 HN.out
        by_cases hL : rrL v1 v2 v3 v4 TL = b
        · have HE : Hid (Wi.prE b = 0) := HIF.out.1 ⟨hq, hL⟩
          have HV := HPG.out HE.out
          rw [hL] at cv1
          clear o3 hA3 hq hL
          have e0 : w3.cell? ⟨W.heap.size, 0, none⟩ = some (.int .i64 (v1 : Int)) := qF3.cell 0
          have e1 : w3.cell? ⟨W.heap.size, 1, none⟩ = some (.int .i64 (v2 : Int)) := qF3.cell 1
          have e2 : w3.cell? ⟨W.heap.size, 2, none⟩ = some (.int .i64 (v3 : Int)) := qF3.cell 2
          have e3 : w3.cell? ⟨W.heap.size, 3, none⟩ = some (.int .i64 (v4 : Int)) := qF3.cell 3
          have e4 : w3.cell? ⟨W.heap.size, 4, none⟩ = some (.slice A2 n2 c2) := qF3.cell 4
          have oF := (chg5 w3 w.heap.size (.int .i64 (v1 : Int)) (.int .i64 (v2 : Int)) (.int .i64 (v3 : Int)) (.int .i64 (v4 : Int)) (.slice A2 n2 c2)).own o23 (fun q hq e => by have : q = _ := e; have := zA2 q hq; omega)
          obtain ⟨qF, bF⟩ := set5 q03 bel3 (Nat.le_refl _) (.int .i64 (v1 : Int)) (.int .i64 (v2 : Int)) (.int .i64 (v3 : Int)) (.int .i64 (v4 : Int)) (.slice A2 n2 c2)
          go_wp2
          generalize (((((w3.setCell ⟨w.heap.size, 0, none⟩ (.int .i64 (v1 : Int))).setCell ⟨w.heap.size, 1, none⟩ (.int .i64 (v2 : Int))).setCell ⟨w.heap.size, 2, none⟩ (.int .i64 (v3 : Int))).setCell ⟨w.heap.size, 3, none⟩ (.int .i64 (v4 : Int))).setCell ⟨w.heap.size, 4, none⟩ (.slice A2 n2 c2)) = F at *
          have y0 : F.cell? ⟨w.heap.size, 0, none⟩ = some (.int .i64 (v1 : Int)) := qF.cell 0
          have y1 : F.cell? ⟨w.heap.size, 1, none⟩ = some (.int .i64 (v2 : Int)) := qF.cell 1
          have y2 : F.cell? ⟨w.heap.size, 2, none⟩ = some (.int .i64 (v3 : Int)) := qF.cell 2
          have y3 : F.cell? ⟨w.heap.size, 3, none⟩ = some (.int .i64 (v4 : Int)) := qF.cell 3
          have y4 : F.cell? ⟨w.heap.size, 4, none⟩ = some (.slice A2 n2 c2) := qF.cell 4
          refine bodyPost_ret (v := .tuple #[resV v1 v2 v3 v4 A2 n2 c2, .int .i64 0]) (by simp [results, Try.results19, go_sem, y0, y1, y2, y3, y4]) rfl ?_
          exact ⟨A2, n2, c2, by rw [HV.1, HE.out], by rw [HV.2]; exact oF, fun g hg => Nat.le_of_lt (zA2 g hg), bF⟩
        · have HE : Hid (Wi.prE b = 201) := H01.out.resolve_left (fun h => hL (HIF.out.2 h).2)
          have HV := HPB.out (by rw [HE.out]; decide)
          have ne := str_ne hL
          clear o3 hA3 hq hL
          obtain ⟨qF, bF⟩ := set5 q03 bel3 (Nat.le_refl _) (.int .i64 0) (.int .i64 0) (.int .i64 0) (.int .i64 0) (.slice none 0 0)
          go_wp2
          generalize (((((w3.setCell ⟨w.heap.size, 0, none⟩ (.int .i64 0)).setCell ⟨w.heap.size, 1, none⟩ (.int .i64 0)).setCell ⟨w.heap.size, 2, none⟩ (.int .i64 0)).setCell ⟨w.heap.size, 3, none⟩ (.int .i64 0)).setCell ⟨w.heap.size, 4, none⟩ (.slice none 0 0)) = F at *
          have y0 : F.cell? ⟨w.heap.size, 0, none⟩ = some (.int .i64 0) := qF.cell 0
          have y1 : F.cell? ⟨w.heap.size, 1, none⟩ = some (.int .i64 0) := qF.cell 1
          have y2 : F.cell? ⟨w.heap.size, 2, none⟩ = some (.int .i64 0) := qF.cell 2
          have y3 : F.cell? ⟨w.heap.size, 3, none⟩ = some (.int .i64 0) := qF.cell 3
          have y4 : F.cell? ⟨w.heap.size, 4, none⟩ = some (.slice none 0 0) := qF.cell 4
          refine bodyPost_ret (v := .tuple #[.agg zres, .int .i64 201]) (by simp [results, Try.results19, go_sem, y0, y1, y2, y3, y4]) rfl ?_
          exact ⟨none, 0, 0, by rw [HV.1, HE.out], by rw [HV.2]; exact Own8.nil _ _, by simp [blkOf], bF⟩
  · have HE : Hid (Wi.prE b = opE b 6) := opE_pr h0
    have hE : Wi.prE b ≠ 0 := by rw [HE.out]; exact h0
    have HV := pr_bad hE
    have en : (opE b 6 != 0) = true := by simpa using h0
    clear h0 hE
    have z0 := q0.frozen 0
    have z1 := q0.frozen 1
    have z2 := q0.frozen 2
    have z3 := q0.frozen 3
    have z4 := q0.frozen 4
    have k0 : W.cell? ⟨w.heap.size, 0, none⟩ = some (.int .i64 0) := q0.cell 0
    have k1 : W.cell? ⟨w.heap.size, 1, none⟩ = some (.int .i64 0) := q0.cell 1
    have k2 : W.cell? ⟨w.heap.size, 2, none⟩ = some (.int .i64 0) := q0.cell 2
    have k3 : W.cell? ⟨w.heap.size, 3, none⟩ = some (.int .i64 0) := q0.cell 3
    have k4 : W.cell? ⟨w.heap.size, 4, none⟩ = some (.slice none 0 0) := q0.cell 4
    obtain ⟨qF, bF⟩ := set5 q0 bel1 (Nat.le_refl _) (.int .i64 0) (.int .i64 0) (.int .i64 0) (.int .i64 0) (.slice none 0 0)
    go_wp2
    generalize (((((W.setCell ⟨w.heap.size, 0, none⟩ (.int .i64 0)).setCell ⟨w.heap.size, 1, none⟩ (.int .i64 0)).setCell ⟨w.heap.size, 2, none⟩ (.int .i64 0)).setCell ⟨w.heap.size, 3, none⟩ (.int .i64 0)).setCell ⟨w.heap.size, 4, none⟩ (.slice none 0 0)) = F at *
    have y0 : F.cell? ⟨w.heap.size, 0, none⟩ = some (.int .i64 0) := qF.cell 0
    have y1 : F.cell? ⟨w.heap.size, 1, none⟩ = some (.int .i64 0) := qF.cell 1
    have y2 : F.cell? ⟨w.heap.size, 2, none⟩ = some (.int .i64 0) := qF.cell 2
    have y3 : F.cell? ⟨w.heap.size, 3, none⟩ = some (.int .i64 0) := qF.cell 3
    have y4 : F.cell? ⟨w.heap.size, 4, none⟩ = some (.slice none 0 0) := qF.cell 4
    refine bodyPost_ret (v := .tuple #[.agg zres, .int .i64 (opE b 6)]) (by simp [results, Try.results19, go_sem, y0, y1, y2, y3, y4]) rfl ?_
    exact ⟨none, 0, 0, by rw [HV.1, HE.out], by rw [HV.2]; exact Own8.nil _ _, by simp [blkOf], bF⟩
end Go.Proofs.Ytijcollcncjdoaa
