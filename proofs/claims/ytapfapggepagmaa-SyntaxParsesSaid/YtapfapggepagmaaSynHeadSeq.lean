/- Headers that are parsed: just those that begin the bytes. Plain laws. No conditions. -/
import Derived.Test.YtapfapggepagmaaSynHead
import Derived.Test.YtapfapggepagmaaSynSeq
namespace Go.Proofs.Ytapfapggepagmaa
open Go.RowKit Kin

theorem fdE_zero {E : Int} {l : List UInt8} {k n : Nat} (h : fdE E l k n = 0) : E = 0 ∧ (if 0 < n then getE (8 * l.length) k n else Gol.gE (bitsOf l k)) = 0 := by
  unfold fdE at h
  split at h
  · exact ⟨by assumption, h⟩
  · contradiction
theorem getE_zero {L k n : Nat} (h : getE L k n = 0) : k + n ≤ L := by
  unfold getE at h
  split at h
  · omega
  · split at h
    · omega
    · simp at *; omega
theorem getV_of {l : List UInt8} {k n : Nat} (h : getE (8 * l.length) k n = 0) : getV l k n = Bit.get l k n := by unfold getV; rw [if_pos h, Int.toNat_natCast]
theorem getK_of {L k n : Nat} (h : getE L k n = 0) : getK L k n = k + n := by unfold getK; rw [if_pos h, Int.toNat_natCast]
theorem take_digits' {l : List UInt8} {k n : Nat} (h : k + n ≤ 8 * l.length) : ((Bit.row l).drop k).take n = Bit.digits (Bit.get l k n) n := by
  have h1 := get_row l k n h
  have h2 := Bit.digits_num (((Bit.row l).drop k).take n)
  rw [h1, List.length_take, List.length_drop, Bit.length_row, show min n (8 * l.length - k) = n from by omega] at h2
  exact h2.symm
theorem restB_app (B : List Bool) (r : List UInt8) : Bit.restB (Bit.row (Bit.pack B ++ r)) B.length = true := by
  refine restB_of fun i h1 h2 => ?_
  have hl := Bit.length_pack B
  have := row_pack_get B i
  rw [Syn.row_append, List.getD, List.getElem?_append_left (by rw [Bit.length_row]; omega)]
  rw [List.getD] at this
  rw [this, List.getD, List.getElem?_eq_none h1]; rfl

theorem ph_of {K : Bool} {N Q W H G : Int} (h : Syn.fitsB K N Q W H G = true) (r : List UInt8) :
    phOk (Syn.headL K N Q W H G ++ r) W H G = true ∧ phKey (Syn.headL K N Q W H G ++ r) = K ∧ (phN (Syn.headL K N Q W H G ++ r) : Int) = N ∧ (phQ (Syn.headL K N Q W H G ++ r) : Int) = Q ∧ (phK3 (Syn.headL K N Q W H G ++ r) + 7) / 8 = (Syn.headL K N Q W H G).length := by
  obtain ⟨hri, ⟨q1, q2, n1, n2⟩, hk⟩ := Syn.fits_of h
  obtain ⟨_, _, g1, g2⟩ := Syn.right_of hri
  rw [Syn.headL_yes h]
  obtain ⟨E, hE⟩ := Syn.row_pre (Syn.headB K N Q)
  have hrest := restB_app (Syn.headB K N Q) r
  have hlp := Bit.length_pack (Syn.headB K N Q)
  obtain ⟨a, ha⟩ : ∃ a : Nat, N.toNat = a := ⟨_, rfl⟩
  obtain ⟨b, hb⟩ : ∃ b : Nat, Q.toNat = b := ⟨_, rfl⟩
  have hHB : Syn.headB K N Q = Bit.digits K.toNat 1 ++ (Gol.codeB a ++ Bit.digits b 5) := by unfold Syn.headB; rw [ha, hb, List.append_assoc]
  have hlen : (Syn.headB K N Q).length = 1 + Gol.gl a + 5 := by
    rw [hHB, List.length_append, List.length_append, Bit.length_digits, Bit.length_digits, Gol.length_codeB (by omega)]; omega
  have hrow : Bit.row (Bit.pack (Syn.headB K N Q) ++ r) = Bit.digits K.toNat 1 ++ (Gol.codeB a ++ (Bit.digits b 5 ++ (E ++ Bit.row r))) := by
    rw [Syn.row_append, hE, hHB]
    simp only [List.append_assoc]
  have hL : (Bit.pack (Syn.headB K N Q) ++ r).length = (Bit.pack (Syn.headB K N Q)).length + r.length := List.length_append
  generalize hl : Bit.pack (Syn.headB K N Q) ++ r = l at *
  have e1 : getE (8 * l.length) 0 ((1 : Nat) : Int) = 0 := getE_ok (by omega) (by omega)
  have E1 : phE1 l = 0 := e1
  have k1 : phK1 l = 1 := by show getK (8 * l.length) 0 ((1 : Nat) : Int) = 1; rw [getK_of e1]
  have v1 : phV1 l = K.toNat := by
    show getV l 0 ((1 : Nat) : Int) = K.toNat
    rw [getV_of e1]
    have h2 := get_row l 0 1 (by omega)
    rw [List.drop_zero, hrow, List.take_left' (by rw [Bit.length_digits]), Bit.num_digits] at h2
    rw [← h2]
    cases K <;> rfl
  have b1 : bitsOf l (phK1 l) = Gol.codeB a ++ (Bit.digits b 5 ++ (E ++ Bit.row r)) := by
    show (Bit.row l).drop _ = _
    rw [k1, hrow]
    exact List.drop_left' (by rw [Bit.length_digits])
  have E2 : phE2 l = 0 := by show fdE _ _ _ _ = 0; unfold fdE; rw [if_pos E1, if_neg (by omega), b1, Gol.gE_code (by omega)]
  have k2 : phK2 l = 1 + Gol.gl a := by show fdK _ _ _ _ = _; unfold fdK; rw [if_pos E1, if_neg (by omega), b1, Gol.gK_code (by omega), k1]
  have vN : phN l = a := by show fdV _ _ _ _ = _; unfold fdV; rw [if_pos E1, if_neg (by omega), b1, Gol.gV_code (by omega)]
  have e3 : getE (8 * l.length) (phK2 l) ((5 : Nat) : Int) = 0 := getE_ok (by omega) (by omega)
  have E3 : phE3 l = 0 := by show fdE _ _ _ _ = 0; unfold fdE; rw [if_pos E2, if_pos (by omega)]; exact e3
  have k3 : phK3 l = (Syn.headB K N Q).length := by
    show fdK _ _ _ _ = _
    unfold fdK
    rw [if_pos E2, if_pos (by omega), hlen]
    have := getK_of e3
    omega
  have vQ : phQ l = b := by
    show fdV _ _ _ _ = _
    unfold fdV
    rw [if_pos E2, if_pos (by omega), getV_of e3, ← get_row l _ 5 (by omega)]
    have : (Bit.row l).drop (phK2 l) = Bit.digits b 5 ++ (E ++ Bit.row r) := by
      have h2 : bitsOf l (phK2 l) = (bitsOf l (phK1 l)).drop (Gol.gl a) := by
        rw [k2, k1]
        show (Bit.row l).drop _ = ((Bit.row l).drop 1).drop _
        rw [List.drop_drop]
      show bitsOf l (phK2 l) = _
      rw [h2, b1]
      exact List.drop_left' (Gol.length_codeB (by omega))
    rw [this, List.take_left' (by rw [Bit.length_digits]), Bit.num_digits]
    exact Nat.mod_eq_of_lt (by omega)
  have hK : phKey l = K := by
    show ((phV1 l : Int) == 1) = K
    rw [v1]
    cases K <;> rfl
  have hN : (phN l : Int) = N := by rw [vN]; omega
  have hQ : (phQ l : Int) = Q := by rw [vQ]; omega
  refine ⟨?_, hK, hN, hQ, ?_⟩
  · unfold phOk
    rw [hK, hN, hQ, h, E3, k3, hrest]; rfl
  · rw [k3]; exact hlp.symm

theorem ph_spec {l : List UInt8} {W H G : Int} (h : phOk l W H G = true) :
    Syn.fitsB (phKey l) (phN l) (phQ l) W H G = true ∧ l = Syn.headL (phKey l) (phN l) (phQ l) W H G ++ l.drop ((phK3 l + 7) / 8) := by
  unfold phOk at h
  simp only [Bool.and_eq_true, beq_iff_eq] at h
  obtain ⟨⟨e3, hfi⟩, hrb⟩ := h
  refine ⟨hfi, ?_⟩
  obtain ⟨hri, ⟨q1, q2, n1, n2⟩, hk⟩ := Syn.fits_of hfi
  obtain ⟨_, _, g1, g2⟩ := Syn.right_of hri
  obtain ⟨e2, g3⟩ := fdE_zero e3
  obtain ⟨e1, gg⟩ := fdE_zero e2
  obtain ⟨_, g0⟩ := fdE_zero e1
  rw [if_pos (by omega)] at g3 g0
  rw [if_neg (by omega)] at gg
  have l1 := getE_zero g0
  have l3 := getE_zero g3
  have k1 : phK1 l = 1 := by show fdK _ _ _ _ = 1; unfold fdK; rw [if_pos rfl, if_pos (by omega), getK_of g0]
  have v1 : phV1 l = Bit.get l 0 1 := by show fdV _ _ _ _ = _; unfold fdV; rw [if_pos rfl, if_pos (by omega), getV_of g0]
  have k2 : phK2 l = phK1 l + Gol.gK (bitsOf l (phK1 l)) := by show fdK _ _ _ _ = _; unfold fdK; rw [if_pos e1, if_neg (by omega)]
  have vN : phN l = Gol.gV (bitsOf l (phK1 l)) := by show fdV _ _ _ _ = _; unfold fdV; rw [if_pos e1, if_neg (by omega)]
  have k3 : phK3 l = phK2 l + 5 := by show fdK _ _ _ _ = _; unfold fdK; rw [if_pos e2, if_pos (by omega), getK_of g3]
  have vQ : phQ l = Bit.get l (phK2 l) 5 := by show fdV _ _ _ _ = _; unfold fdV; rw [if_pos e2, if_pos (by omega), getV_of g3]
  have hK1 : (phKey l).toNat = Bit.get l 0 1 := by
    show ((phV1 l : Int) == 1).toNat = _
    have := Bit.get_lt l 0 1
    rw [v1]
    have hc : Bit.get l 0 1 = 0 ∨ Bit.get l 0 1 = 1 := by omega
    rcases hc with hc | hc <;> rw [hc] <;> rfl
  have c1 := code_of gg
  have hB : Bit.row l = Syn.headB (phKey l) (phN l) (phQ l) ++ (Bit.row l).drop (phK3 l) := by
    unfold Syn.headB
    rw [Int.toNat_natCast, Int.toNat_natCast, hK1, vN, vQ, ← take_digits' (by omega), ← take_digits' (by omega), List.drop_zero, List.append_assoc, List.append_assoc]
    have d3 : ((Bit.row l).drop (phK2 l)).take 5 ++ (Bit.row l).drop (phK3 l) = (Bit.row l).drop (phK2 l) := by
      rw [k3, ← List.drop_drop]; exact List.take_append_drop _ _
    have d2 : (Bit.row l).drop (phK2 l) = (bitsOf l (phK1 l)).drop (Gol.gK (bitsOf l (phK1 l))) := by rw [k2]; simp [bitsOf, List.drop_drop]
    rw [d3, d2, ← c1.1]
    show _ = (Bit.row l).take 1 ++ (Bit.row l).drop (phK1 l)
    rw [k1]; exact (List.take_append_drop _ _).symm
  have hlen : phK3 l = (Syn.headB (phKey l) (phN l) (phQ l)).length := by
    unfold Syn.headB
    rw [List.length_append, List.length_append, Bit.length_digits, Bit.length_digits, Int.toNat_natCast, vN, Gol.length_codeB (gV_le _), ← c1.2]; omega
  have hk3l : phK3 l ≤ 8 * l.length := by omega
  rw [Syn.headL_yes hfi]
  generalize Syn.headB (phKey l) (phN l) (phQ l) = B at *
  have hf : (phK3 l + 7) / 8 ≤ l.length := by omega
  have hpk : Bit.pack B = l.take ((phK3 l + 7) / 8) := by
    have hfill : Bit.fill B = Bit.row (l.take ((phK3 l + 7) / 8)) := by
      have hr : Bit.row l = Bit.row (l.take ((phK3 l + 7) / 8)) ++ Bit.row (l.drop ((phK3 l + 7) / 8)) := by rw [← Syn.row_append, List.take_append_drop]
      have ht : Bit.row (l.take ((phK3 l + 7) / 8)) = (Bit.row l).take (8 * ((phK3 l + 7) / 8)) := by
        rw [hr]
        exact (List.take_left' (by rw [Bit.length_row, List.length_take]; omega)).symm
      rw [ht, hB]
      unfold Bit.fill
      rw [List.take_append, List.take_of_length_le (by omega), ← hlen]
      congr 1
      apply List.ext_getElem?
      intro i
      by_cases hi : i < 8 * ((phK3 l + 7) / 8) - phK3 l
      · rw [List.getElem?_replicate, if_pos hi, List.getElem?_take_of_lt hi, List.getElem?_drop]
        have hi2 : phK3 l + i < (Bit.row l).length := by rw [Bit.length_row]; omega
        rw [List.getElem?_eq_getElem hi2]
        congr 1
        exact (restB_at hrb (by omega) (by omega) hi2).symm
      · rw [List.getElem?_eq_none (by simp; omega), List.getElem?_eq_none (by rw [List.length_take]; omega)]
    rw [← Bit.pack_fill, hfill, Bit.pack_row]
  rw [hpk, List.take_append_drop]
end Go.Proofs.Ytapfapggepagmaa
