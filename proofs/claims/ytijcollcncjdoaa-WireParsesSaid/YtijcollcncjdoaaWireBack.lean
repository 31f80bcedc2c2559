/- What is written is read again, and what is read was written: plain laws of numbers, a tail and their sum. No conditions. -/
import Derived.Test.YtijcollcncjdoaaWireParseQ
import Derived.Test.YtijcollcncjdoaaGolBack
namespace Go.Proofs.Ytijcollcncjdoaa
open Go.RowKit Kin

theorem codes_cons (v : Nat) (vs : List Nat) : Wi.codes (v :: vs) = Gol.codeB v ++ Wi.codes vs := by simp [Wi.codes]
theorem codes_app (us vs : List Nat) : Wi.codes (us ++ vs) = Wi.codes us ++ Wi.codes vs := by simp [Wi.codes]
/-- the bits of what is ahead of the sum -/
theorem row_body (vs : List Nat) (t : List UInt8) : ∃ E, Bit.row (Wi.body vs t) = Wi.codes vs ++ E := by
  obtain ⟨E, hE⟩ := row_pre (Wi.codes vs)
  exact ⟨E ++ Bit.row t, by unfold Wi.body; rw [row_append, hE, List.append_assoc]⟩
/-- the numbers are read again -/
theorem rd_body {vs : List Nat} (hv : ∀ v ∈ vs, v ≤ 4294967294) (t : List UInt8) : ∀ i, i ≤ vs.length → Wi.rdK (Wi.body vs t) i = (Wi.codes (vs.take i)).length ∧ ∀ (h : i < vs.length), Wi.rdV (Wi.body vs t) i = vs[i] ∧ Wi.rdE (Wi.body vs t) i = 0 := by
  obtain ⟨E, hE⟩ := row_body vs t
  have key : ∀ i (h : i < vs.length), Wi.rdK (Wi.body vs t) i = (Wi.codes (vs.take i)).length → bitsOf (Wi.body vs t) (Wi.rdK (Wi.body vs t) i) = Gol.codeB vs[i] ++ (Wi.codes (vs.drop (i + 1)) ++ E) := by
    intro i h hk
    show (Bit.row (Wi.body vs t)).drop _ = _
    have e : Wi.codes vs = Wi.codes (vs.take i) ++ (Gol.codeB vs[i] ++ Wi.codes (vs.drop (i + 1))) := by
      rw [← codes_cons, ← codes_app, ← List.drop_eq_getElem_cons h, List.take_append_drop]
    rw [hE, hk, e, List.append_assoc, List.drop_left, List.append_assoc]
  intro i
  induction i with
  | zero =>
    intro _
    refine ⟨rfl, fun h => ?_⟩
    have hb := key 0 h rfl
    unfold Wi.rdV Wi.rdE
    rw [hb]
    exact ⟨Gol.gV_code (hv _ (List.getElem_mem h)) _, Gol.gE_code (hv _ (List.getElem_mem h)) _⟩
  | succ i ih =>
    intro hi
    obtain ⟨h1, _⟩ := ih (by omega)
    have hb := key i (by omega) h1
    have hk : Wi.rdK (Wi.body vs t) (i + 1) = (Wi.codes (vs.take (i + 1))).length := by
      show Wi.rdK (Wi.body vs t) i + Gol.gK _ = _
      have hvi := hv _ (List.getElem_mem (show i < vs.length by omega))
      rw [hb, Gol.gK_code hvi, h1, take_codes (by omega), List.length_append, Gol.length_codeB hvi]
    refine ⟨hk, fun h => ?_⟩
    have hb := key (i + 1) h hk
    unfold Wi.rdV Wi.rdE
    rw [hb]
    exact ⟨Gol.gV_code (hv _ (List.getElem_mem h)) _, Gol.gE_code (hv _ (List.getElem_mem h)) _⟩
/-- are m numbers, and the fill behind them, there? -/
def opOk (l : List UInt8) (m : Nat) : Bool := Wi.numsOk l m && Bit.restB (Bit.row l) (Wi.rdK l m)
theorem paOk_eq (l : List UInt8) (kind m : Nat) : Wi.paOk l kind m = (opOk l m && (Wi.rdV l 0 == kind && ((Wi.tail l m).length == Wi.rdV l (m - 1)))) := by
  unfold Wi.paOk opOk Wi.tail
  cases Wi.numsOk l m <;> cases Bit.restB (Bit.row l) (Wi.rdK l m) <;> simp
theorem op_body {vs : List Nat} (hv : ∀ v ∈ vs, v ≤ 4294967294) (t : List UInt8) : opOk (Wi.body vs t) vs.length = true ∧ Wi.tail (Wi.body vs t) vs.length = t := by
  have hk := (rd_body hv t vs.length (Nat.le_refl _)).1
  rw [List.take_length] at hk
  refine ⟨?_, ?_⟩
  · unfold opOk
    rw [hk]
    rw [show Bit.restB (Bit.row (Wi.body vs t)) (Wi.codes vs).length = true from restB_app _ _, Bool.and_true]
    unfold Wi.numsOk
    rw [List.all_eq_true]
    intro i hi
    have hi := List.mem_range.1 hi
    rw [((rd_body hv t i (by omega)).2 hi).2]
    rfl
  · unfold Wi.tail
    rw [hk]
    exact List.drop_left' (Bit.length_pack _)
/-- what is read was written -/
def rdVs (l : List UInt8) (m : Nat) : List Nat := (List.range m).map (Wi.rdV l)
theorem rdVs_succ (l : List UInt8) (m : Nat) : rdVs l (m + 1) = rdVs l m ++ [Wi.rdV l m] := by unfold rdVs; rw [List.range_succ, List.map_append]; rfl
theorem rdVs_le (l : List UInt8) (m : Nat) : ∀ v ∈ rdVs l m, v ≤ 4294967294 := by
  intro v hv
  unfold rdVs at hv
  rw [List.mem_map] at hv
  obtain ⟨i, _, rfl⟩ := hv
  exact gV_le _
theorem nums_of {l : List UInt8} : ∀ {m : Nat}, Wi.numsOk l m = true → Bit.row l = Wi.codes (rdVs l m) ++ bitsOf l (Wi.rdK l m) ∧ Wi.rdK l m = (Wi.codes (rdVs l m)).length
  | 0, _ => ⟨rfl, rfl⟩
  | m + 1, h => by
    have h0 : Wi.numsOk l m = true ∧ Wi.rdE l m = 0 := by
      unfold Wi.numsOk at h ⊢
      rw [List.range_succ, List.all_append, Bool.and_eq_true] at h
      exact ⟨h.1, by simpa using h.2⟩
    obtain ⟨h1, h2⟩ := nums_of h0.1
    have hE : Gol.gE (bitsOf l (Wi.rdK l m)) = 0 := h0.2
    obtain ⟨c1, c2⟩ := code_of hE
    have hd : bitsOf l (Wi.rdK l (m + 1)) = (bitsOf l (Wi.rdK l m)).drop (Gol.gK (bitsOf l (Wi.rdK l m))) := by
      show (Bit.row l).drop (Wi.rdK l m + _) = _
      rw [List.drop_drop]
    refine ⟨?_, ?_⟩
    · rw [rdVs_succ, Wi.codes_snoc, List.append_assoc, hd]
      show _ = _ ++ (Gol.codeB (Gol.gV (bitsOf l (Wi.rdK l m))) ++ _)
      rw [← c1]
      exact h1
    · show Wi.rdK l m + Gol.gK (bitsOf l (Wi.rdK l m)) = _
      rw [rdVs_succ, Wi.codes_snoc, List.length_append, ← h2]
      show _ = _ + (Gol.codeB (Gol.gV (bitsOf l (Wi.rdK l m)))).length
      rw [Gol.length_codeB (gV_le _), c2]
theorem op_of {l : List UInt8} {m : Nat} (h : opOk l m = true) : l = Wi.body (rdVs l m) (Wi.tail l m) := by
  unfold opOk at h
  rw [Bool.and_eq_true] at h
  obtain ⟨hn, hr⟩ := h
  obtain ⟨h1, h2⟩ := nums_of hn
  have hle : Wi.rdK l m ≤ 8 * l.length := by
    have := congrArg List.length h1
    rw [Bit.length_row, List.length_append] at this
    omega
  generalize hC : Wi.codes (rdVs l m) = C at *
  obtain ⟨q, hq⟩ : ∃ q, q = (Wi.rdK l m + 7) / 8 := ⟨_, rfl⟩
  have hql : q ≤ l.length := by omega
  have ht : l.take q = Bit.pack C := by
    have e : Bit.row (l.take q) = Bit.fill C := by
      have hrow : Bit.row l = Bit.row (l.take q) ++ Bit.row (l.drop q) := by rw [← row_append, List.take_append_drop]
      have hl1 : (Bit.row (l.take q)).length = 8 * q := by rw [Bit.length_row, List.length_take]; omega
      have e1 : Bit.row (l.take q) = (Bit.row l).take (8 * q) := by rw [hrow, List.take_left' hl1]
      rw [e1]
      apply List.ext_getElem?
      intro i
      by_cases hi : i < 8 * q
      · rw [List.getElem?_take_of_lt hi]
        have hi2 : i < (Bit.row l).length := by rw [Bit.length_row]; omega
        by_cases hi3 : i < C.length
        · rw [h1, List.getElem?_append_left hi3]
          unfold Bit.fill
          rw [List.getElem?_append_left hi3]
        · unfold Bit.fill
          rw [List.getElem?_append_right (by omega), List.getElem?_replicate, if_pos (by omega), List.getElem?_eq_getElem hi2]
          congr 1
          exact restB_at hr (by omega) (by omega) hi2
      · rw [List.getElem?_eq_none (by rw [List.length_take]; omega), List.getElem?_eq_none (by rw [Bit.length_fill]; omega)]
    rw [← Bit.pack_row (l.take q), e, Bit.pack_fill]
  unfold Wi.body Wi.tail
  rw [hC, ← ht, ← hq, List.take_append_drop]
/-- the sum -/
theorem of4_four (n : Nat) (h : n < 4294967296) : Wi.of4 (Wi.four n) = n := by
  simp [Wi.of4, Wi.four, List.getD]
  omega
theorem four_of4 {l : List UInt8} (h : l.length = 4) : Wi.four (Wi.of4 l) = l := by
  rcases l with _ | ⟨a, _ | ⟨b, _ | ⟨c, _ | ⟨d, _ | ⟨e, l⟩⟩⟩⟩⟩ <;> simp at h
  have ha := a.toNat_lt
  have hb := b.toNat_lt
  have hc := c.toNat_lt
  have hd := d.toNat_lt
  have e0 : Wi.of4 [a, b, c, d] = ((a.toNat * 256 + b.toNat) * 256 + c.toNat) * 256 + d.toNat := rfl
  rw [e0]
  unfold Wi.four
  congr 1
  · apply UInt8.toNat_inj.1; rw [Wi.u8m]; omega
  congr 1
  · apply UInt8.toNat_inj.1; rw [Wi.u8m]; omega
  congr 1
  · apply UInt8.toNat_inj.1; rw [Wi.u8m]; omega
  congr 1
  · apply UInt8.toNat_inj.1; rw [Wi.u8m]; omega
theorem wire_parts (vs : List Nat) (t : List UInt8) : 4 ≤ (Wi.wire vs t).length ∧ Wi.ahead (Wi.wire vs t) = Wi.body vs t ∧ Wi.told (Wi.wire vs t) = Crc.sum (Wi.body vs t) := by
  have hl : (Wi.wire vs t).length = (Wi.body vs t).length + 4 := by unfold Wi.wire; rw [List.length_append, Wi.length_four]
  refine ⟨by omega, ?_, ?_⟩
  · unfold Wi.ahead
    rw [hl, Nat.add_sub_cancel]
    unfold Wi.wire
    exact List.take_left' rfl
  · unfold Wi.told
    rw [hl, Nat.add_sub_cancel]
    unfold Wi.wire
    rw [List.drop_left' rfl]
    exact of4_four _ (Crc.more_lt 0 _)
theorem wire_of {b : List UInt8} {m : Nat} (h4 : 4 ≤ b.length) (hs : Crc.sum (Wi.ahead b) = Wi.told b) (ho : opOk (Wi.ahead b) m = true) : b = Wi.wire (rdVs (Wi.ahead b) m) (Wi.tail (Wi.ahead b) m) := by
  have e := op_of ho
  unfold Wi.wire
  rw [← e, hs]
  unfold Wi.told
  rw [four_of4 (by rw [List.length_drop]; omega)]
  unfold Wi.ahead
  rw [List.take_append_drop]
theorem vs_at {vs : List Nat} {t : List UInt8} (hv : ∀ v ∈ vs, v ≤ 4294967294) {i : Nat} {x : Nat} (h : vs[i]? = some x) : Wi.rdV (Wi.body vs t) i = x := by
  obtain ⟨h1, h2⟩ := List.getElem?_eq_some_iff.1 h
  rw [((rd_body hv t i (by omega)).2 h1).1, h2]
/-- parse's error of what was written -/
theorem paE_wire {vs : List Nat} {t : List UInt8} (hv : ∀ v ∈ vs, v ≤ 4294967294) (kind : Nat) (h0 : vs[0]? = some kind) (h1 : vs[vs.length - 1]? = some t.length) : Wi.paE (Wi.wire vs t) kind vs.length = 0 := by
  obtain ⟨p1, p2, p3⟩ := wire_parts vs t
  obtain ⟨o1, o2⟩ := op_body hv t
  unfold Wi.paE
  rw [if_neg (by omega), p2, p3, if_neg (by simp), paOk_eq, o1, o2, vs_at hv h0, vs_at hv h1]
  simp
theorem paE_of {b : List UInt8} {kind m : Nat} (h : Wi.paE b kind m = 0) : 4 ≤ b.length ∧ Crc.sum (Wi.ahead b) = Wi.told b ∧ opOk (Wi.ahead b) m = true ∧ Wi.rdV (Wi.ahead b) 0 = kind ∧ (Wi.tail (Wi.ahead b) m).length = Wi.rdV (Wi.ahead b) (m - 1) := by
  unfold Wi.paE at h
  split at h
  · omega
  · split at h
    · omega
    · split at h
      · rename_i h1 h2 h3
        rw [paOk_eq, Bool.and_eq_true, Bool.and_eq_true] at h3
        refine ⟨by omega, by simpa using h2, h3.1, by simpa using h3.2.1, by simpa using h3.2.2⟩
      · omega
/-- a request's bytes are parsed -/
theorem pq_back {id : Int} {p : ByteArray} {fr to : Int} (h : Wi.rq id p fr to = true) : Wi.pqE (rqL id p fr to) = 0 ∧ Wi.pqI (rqL id p fr to) = id ∧ Wi.pqP (rqL id p fr to) = p ∧ Wi.pqF (rqL id p fr to) = fr ∧ Wi.pqT (rqL id p fr to) = to := by
  obtain ⟨⟨i1, i2⟩, ⟨p1, p2⟩, ⟨f1, f2⟩, t1, t2⟩ := rq_of h
  have hL : rqL id p fr to = Wi.wire (rqN id p fr to) p.data.toList := by unfold rqL; rw [if_pos h]
  have hv : ∀ v ∈ rqN id p fr to, v ≤ 4294967294 := by
    unfold rqN
    intro v hv
    simp at hv
    rcases hv with rfl | rfl | rfl | rfl | rfl <;> omega
  rw [hL]
  have hps : p.size = p.data.toList.length := rfl
  have e5 : Wi.paE (Wi.wire (rqN id p fr to) p.data.toList) 0 5 = 0 := paE_wire hv 0 rfl (by rw [← hps]; exact rfl)
  obtain ⟨w1, w2, w3⟩ := wire_parts (rqN id p fr to) p.data.toList
  have o2 : Wi.tail (Wi.body (rqN id p fr to) p.data.toList) 5 = p.data.toList := (op_body hv p.data.toList).2
  have v1 : Wi.rdV (Wi.body (rqN id p fr to) p.data.toList) 1 = id.toNat := vs_at hv rfl
  have v2 : Wi.rdV (Wi.body (rqN id p fr to) p.data.toList) 2 = fr.toNat := vs_at hv rfl
  have v3 : Wi.rdV (Wi.body (rqN id p fr to) p.data.toList) 3 = (to + 1).toNat := vs_at hv rfl
  have hp : str p.data.toList = p := rfl
  have a1 : ((id.toNat : Nat) : Int) = id := by omega
  have a2 : ((fr.toNat : Nat) : Int) = fr := by omega
  have a3 : (((to + 1).toNat : Nat) : Int) - 1 = to := by omega
  have hq : Wi.qok (Wi.wire (rqN id p fr to) p.data.toList) = true := by
    unfold Wi.qok
    rw [w2, v1, v2, v3, o2, hp, a1, a2, a3, h]
  have hE : Wi.pqE (Wi.wire (rqN id p fr to) p.data.toList) = 0 := by
    unfold Wi.pqE
    rw [if_pos e5, if_pos hq]
  refine ⟨hE, ?_, ?_, ?_, ?_⟩
  · unfold Wi.pqI; rw [if_pos hE, w2, v1, a1]
  · unfold Wi.pqP; rw [if_pos hE, w2, o2, hp]
  · unfold Wi.pqF; rw [if_pos hE, w2, v2, a2]
  · unfold Wi.pqT; rw [if_pos hE, w2, v3, a3]
/-- a response's bytes are parsed -/
theorem pr_back {id st fr sz : Int} {t : List UInt8} (h : Wi.rr id st fr sz t.length = true) : Wi.prE (rrL id st fr sz t) = 0 ∧ Wi.prI (rrL id st fr sz t) = id ∧ Wi.prS (rrL id st fr sz t) = st ∧ Wi.prF (rrL id st fr sz t) = fr ∧ Wi.prZ (rrL id st fr sz t) = sz ∧ Wi.prB (rrL id st fr sz t) = t := by
  obtain ⟨⟨i1, i2⟩, ⟨p1, p2⟩, ⟨f1, f2⟩, ⟨t1, t2⟩, n1⟩ := rr_of h
  have hL : rrL id st fr sz t = Wi.wire (rrN id st fr sz t.length) t := by unfold rrL; rw [if_pos h]
  have hv : ∀ v ∈ rrN id st fr sz t.length, v ≤ 4294967294 := by
    unfold rrN
    intro v hv
    simp at hv
    rcases hv with rfl | rfl | rfl | rfl | rfl | rfl <;> omega
  rw [hL]
  have e5 : Wi.paE (Wi.wire (rrN id st fr sz t.length) t) 1 6 = 0 := paE_wire hv 1 rfl rfl
  obtain ⟨w1, w2, w3⟩ := wire_parts (rrN id st fr sz t.length) t
  have o2 : Wi.tail (Wi.body (rrN id st fr sz t.length) t) 6 = t := (op_body hv t).2
  have v1 : Wi.rdV (Wi.body (rrN id st fr sz t.length) t) 1 = id.toNat := vs_at hv rfl
  have v2 : Wi.rdV (Wi.body (rrN id st fr sz t.length) t) 2 = st.toNat := vs_at hv rfl
  have v3 : Wi.rdV (Wi.body (rrN id st fr sz t.length) t) 3 = fr.toNat := vs_at hv rfl
  have v4 : Wi.rdV (Wi.body (rrN id st fr sz t.length) t) 4 = sz.toNat := vs_at hv rfl
  have a1 : ((id.toNat : Nat) : Int) = id := by omega
  have a2 : ((st.toNat : Nat) : Int) = st := by omega
  have a3 : ((fr.toNat : Nat) : Int) = fr := by omega
  have a4 : ((sz.toNat : Nat) : Int) = sz := by omega
  have hq : Wi.rok (Wi.wire (rrN id st fr sz t.length) t) = true := by
    unfold Wi.rok
    rw [w2, v1, v2, v3, v4, o2, a1, a2, a3, a4, h]
  have hE : Wi.prE (Wi.wire (rrN id st fr sz t.length) t) = 0 := by
    unfold Wi.prE
    rw [if_pos e5, if_pos hq]
  refine ⟨hE, ?_, ?_, ?_, ?_, ?_⟩
  · unfold Wi.prI; rw [if_pos hE, w2, v1, a1]
  · unfold Wi.prS; rw [if_pos hE, w2, v2, a2]
  · unfold Wi.prF; rw [if_pos hE, w2, v3, a3]
  · unfold Wi.prZ; rw [if_pos hE, w2, v4, a4]
  · unfold Wi.prB; rw [if_pos hE, w2, o2]
theorem pqE_zero {b : List UInt8} (h : Wi.pqE b = 0) : Wi.paE b 0 5 = 0 ∧ Wi.qok b = true := by
  unfold Wi.pqE at h
  by_cases h1 : Wi.paE b 0 5 = 0
  · rw [if_pos h1] at h
    cases h2 : Wi.qok b
    · rw [h2] at h; exact absurd h (by decide)
    · exact ⟨h1, rfl⟩
  · rw [if_neg h1] at h; exact absurd h h1
theorem prE_zero {b : List UInt8} (h : Wi.prE b = 0) : Wi.paE b 1 6 = 0 ∧ Wi.rok b = true := by
  unfold Wi.prE at h
  by_cases h1 : Wi.paE b 1 6 = 0
  · rw [if_pos h1] at h
    cases h2 : Wi.rok b
    · rw [h2] at h; exact absurd h (by decide)
    · exact ⟨h1, rfl⟩
  · rw [if_neg h1] at h; exact absurd h h1
/-- what is parsed has these bytes, and is right -/
theorem pq_of {b : List UInt8} (h : Wi.pqE b = 0) : Wi.rq (Wi.pqI b) (Wi.pqP b) (Wi.pqF b) (Wi.pqT b) = true ∧ rqL (Wi.pqI b) (Wi.pqP b) (Wi.pqF b) (Wi.pqT b) = b := by
  have hI : Wi.pqI b = (Wi.rdV (Wi.ahead b) 1 : Int) := if_pos h
  have hP : Wi.pqP b = str (Wi.tail (Wi.ahead b) 5) := if_pos h
  have hF : Wi.pqF b = (Wi.rdV (Wi.ahead b) 2 : Int) := if_pos h
  have hT : Wi.pqT b = (Wi.rdV (Wi.ahead b) 3 : Int) - 1 := if_pos h
  have h5 := pqE_zero h
  obtain ⟨h4, hs, ho, v0, hl⟩ := paE_of h5.1
  have hr : Wi.rq (Wi.pqI b) (Wi.pqP b) (Wi.pqF b) (Wi.pqT b) = true := by rw [hI, hP, hF, hT]; exact h5.2
  refine ⟨hr, ?_⟩
  have hw := wire_of h4 hs ho
  have e : rqN (Wi.pqI b) (Wi.pqP b) (Wi.pqF b) (Wi.pqT b) = rdVs (Wi.ahead b) 5 := by
    unfold rqN
    rw [hI, hP, hF, hT, Int.toNat_natCast, Int.toNat_natCast, show ((Wi.rdV (Wi.ahead b) 3 : Int) - 1 + 1).toNat = Wi.rdV (Wi.ahead b) 3 by omega, show (str (Wi.tail (Wi.ahead b) 5)).size = (Wi.tail (Wi.ahead b) 5).length from rfl, hl, ← v0]
    rfl
  unfold rqL
  rw [if_pos hr, e, hP]
  exact hw.symm
theorem pr_of {b : List UInt8} (h : Wi.prE b = 0) : Wi.rr (Wi.prI b) (Wi.prS b) (Wi.prF b) (Wi.prZ b) (Wi.prB b).length = true ∧ rrL (Wi.prI b) (Wi.prS b) (Wi.prF b) (Wi.prZ b) (Wi.prB b) = b := by
  have hI : Wi.prI b = (Wi.rdV (Wi.ahead b) 1 : Int) := if_pos h
  have hS : Wi.prS b = (Wi.rdV (Wi.ahead b) 2 : Int) := if_pos h
  have hF : Wi.prF b = (Wi.rdV (Wi.ahead b) 3 : Int) := if_pos h
  have hZ : Wi.prZ b = (Wi.rdV (Wi.ahead b) 4 : Int) := if_pos h
  have hB : Wi.prB b = Wi.tail (Wi.ahead b) 6 := if_pos h
  have h5 := prE_zero h
  obtain ⟨h4, hs, ho, v0, hl⟩ := paE_of h5.1
  have hr : Wi.rr (Wi.prI b) (Wi.prS b) (Wi.prF b) (Wi.prZ b) (Wi.prB b).length = true := by rw [hI, hS, hF, hZ, hB]; exact h5.2
  refine ⟨hr, ?_⟩
  have hw := wire_of h4 hs ho
  have e : rrN (Wi.prI b) (Wi.prS b) (Wi.prF b) (Wi.prZ b) (Wi.prB b).length = rdVs (Wi.ahead b) 6 := by
    unfold rrN
    rw [hI, hS, hF, hZ, hB, Int.toNat_natCast, Int.toNat_natCast, Int.toNat_natCast, Int.toNat_natCast, hl, show rdVs (Wi.ahead b) 6 = [Wi.rdV (Wi.ahead b) 0, Wi.rdV (Wi.ahead b) 1, Wi.rdV (Wi.ahead b) 2, Wi.rdV (Wi.ahead b) 3, Wi.rdV (Wi.ahead b) 4, Wi.rdV (Wi.ahead b) 5] from rfl, v0]
  unfold rrL
  rw [if_pos hr, e, hB]
  exact hw.symm
/-- no bytes are both -/
theorem not_both {b : List UInt8} (h : Wi.pqE b = 0) : Wi.prE b ≠ 0 := by
  intro h'
  have h5 := (pqE_zero h).1
  have h6 := (prE_zero h').1
  have := (paE_of h5).2.2.2.1
  have := (paE_of h6).2.2.2.1
  omega
end Go.Proofs.Ytijcollcncjdoaa
