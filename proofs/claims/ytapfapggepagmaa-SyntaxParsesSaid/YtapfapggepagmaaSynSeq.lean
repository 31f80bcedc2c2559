/- Sequences that are parsed: just the bytes of right sequences are. Plain laws. No conditions. -/
import Derived.Test.YtapfapggepagmaaSynParse
import Derived.Test.YtapfapggepagmaaSynPlain2
import Derived.Test.YtapfapggepagmaaPlay
namespace Go.Proofs.Ytapfapggepagmaa
open Go.RowKit Kin

theorem bl_of {x n : Nat} (h1 : 2 ^ n ≤ x) (h2 : x < 2 ^ (n + 1)) (hn : n < 64) : Gol.bl x = n + 1 := by
  have hle := Gol.bl_le h2 (by omega)
  have hp := Nat.two_pow_pos n
  have h64 : x < 2 ^ 64 := Nat.lt_of_lt_of_le h2 (Nat.pow_le_pow_right (by omega) (by omega))
  obtain ⟨_, _, i3⟩ := Gol.bl_spec x x (Nat.le_refl _) (by omega) h64
  rcases Nat.lt_or_ge (Gol.bl x) (n + 1) with h | h
  · have : 2 ^ Gol.bl x ≤ 2 ^ n := Nat.pow_le_pow_right (by omega) (by omega)
    omega
  · omega
theorem tw_next (B : List Bool) (h : (B.takeWhile (! ·)).length < B.length) : B.getD (B.takeWhile (! ·)).length false = true := by
  induction B with
  | nil => simp at h
  | cons b B ih =>
    cases b
    · rw [List.takeWhile_cons] at h ⊢
      simp only [Bool.not_false, if_true, List.length_cons] at h ⊢
      have := ih (by omega)
      simpa [List.getD] using this
    · rfl
/-- what is got is a code -/
theorem code_of {B : List Bool} (h : Gol.gE B = 0) : B = Gol.codeB (Gol.gV B) ++ B.drop (Gol.gK B) ∧ Gol.gK B = Gol.gl (Gol.gV B) := by
  have h2 : Gol.gN B ≠ 32 := fun e => by unfold Gol.gE at h; rw [if_pos e] at h; omega
  have hl : 2 * Gol.gN B + 1 ≤ B.length := by
    unfold Gol.gE at h
    rw [if_neg h2] at h
    split at h
    · omega
    · omega
  have hN : Gol.gN B = (B.takeWhile (! ·)).length := by unfold Gol.gN at *; omega
  have h3 := (Gol.gN_le B).1
  have hK : Gol.gK B = 2 * Gol.gN B + 1 := if_pos h
  have hV : Gol.gV B = Bit.num (B.take (2 * Gol.gN B + 1)) - 1 := if_pos h
  have hle := gV_le B
  have hb : B.getD (Gol.gN B) false = true := by rw [hN]; exact tw_next B (by omega)
  have hbit : B[Gol.gN B]'(by omega) = true := by
    rw [List.getD, List.getElem?_eq_getElem (by omega)] at hb
    simpa using hb
  have e : B.take (2 * Gol.gN B + 1) = List.replicate (Gol.gN B) false ++ (true :: (B.drop (Gol.gN B + 1)).take (Gol.gN B)) := by
    rw [show 2 * Gol.gN B + 1 = Gol.gN B + (Gol.gN B + 1) from by omega, List.take_add, tw_false B _ (by omega)]
    congr 1
    rw [List.drop_eq_getElem_cons (by omega), hbit, List.take_succ_cons]
  clear hbit
  generalize hn : Gol.gN B = n at *
  have hnum : Bit.num (B.take (2 * n + 1)) = 2 ^ n + Bit.num ((B.drop (n + 1)).take n) := by
    rw [e, Bit.num_append, num_zeros, Nat.zero_mul, Nat.zero_add]
    have := Bit.num_append [true] ((B.drop (n + 1)).take n)
    rw [List.singleton_append] at this
    rw [this, List.length_take, List.length_drop, show min n (B.length - (n + 1)) = n from by omega]
    show 1 * 2 ^ n + _ = _
    omega
  have hT := Bit.num_lt ((B.drop (n + 1)).take n)
  rw [List.length_take, List.length_drop, show min n (B.length - (n + 1)) = n from by omega] at hT
  have hp := Nat.two_pow_pos n
  have hv1 : Gol.gV B + 1 = Bit.num (B.take (2 * n + 1)) := by omega
  have hbl : Gol.bl (Gol.gV B + 1) = n + 1 := by
    rw [hv1, hnum]
    exact bl_of (by omega) (by rw [Nat.pow_succ]; omega) (by omega)
  have hcode : Gol.codeB (Gol.gV B) = B.take (2 * n + 1) := by
    unfold Gol.codeB
    rw [hbl, hv1, show 2 * (n + 1) - 1 = 2 * n + 1 from by omega]
    have := Bit.digits_num (B.take (2 * n + 1))
    rw [List.length_take, show min (2 * n + 1) B.length = 2 * n + 1 from by omega] at this
    exact this
  refine ⟨?_, ?_⟩
  · rw [hcode, hK, List.take_append_drop]
  · rw [hK, Gol.gl_of hle, hbl]; omega

theorem stE_zero {E : Int} {B : List Bool} (h : stE E B = 0) : E = 0 ∧ Gol.gE B = 0 := by
  unfold stE at h
  split at h
  · exact ⟨by assumption, h⟩
  · contradiction
theorem num_inj' {A B : List Bool} (hl : A.length = B.length) (h : Bit.num A = Bit.num B) : A = B := by
  rw [← Bit.digits_num A, ← Bit.digits_num B, h, hl]

theorem ps_spec {l : List UInt8} (h : psOk l = true) : Syn.rightB (16 * psW l) (16 * psH l) (psG l) = true ∧ l = Syn.seqL (16 * psW l) (16 * psH l) (psG l) := by
  unfold psOk at h
  simp only [Bool.and_eq_true, beq_iff_eq, decide_eq_true_eq] at h
  obtain ⟨⟨⟨⟨e4, hhd⟩, hri⟩, hrb⟩, hlen⟩ := h
  refine ⟨hri, ?_⟩
  obtain ⟨e3, g3⟩ := stE_zero e4
  obtain ⟨e2, g2⟩ := stE_zero e3
  obtain ⟨e1, g1⟩ := stE_zero e2
  have hl16 : 16 ≤ 8 * l.length := by
    unfold psE1 getE at e1
    rw [if_neg (by omega)] at e1
    split at e1
    · omega
    · simp at *; omega
  have e1' : getE (8 * l.length) 0 ((16 : Nat) : Int) = 0 := getE_ok (by omega) (by omega)
  have k1 : psK1 l = 16 := by
    show getK (8 * l.length) 0 ((16 : Nat) : Int) = 16
    unfold getK; rw [if_pos e1']; rfl
  have hv : Bit.get l 0 16 = 19273 := by
    have : getV l 0 ((16 : Nat) : Int) = Bit.get l 0 16 := by unfold getV; rw [if_pos e1']; rfl
    rw [← this]; exact hhd
  have hD : (Bit.row l).take 16 = Bit.digits 19273 16 := by
    apply num_inj'
    · rw [List.length_take, Bit.length_row, Bit.length_digits]; omega
    · have := get_row l 0 16 (by omega)
      rw [List.drop_zero] at this
      rw [this, hv]; decide +kernel
  have c1 := code_of g1
  have c2 := code_of g2
  have c3 := code_of g3
  have hW : psW l = (Gol.gV (bitsOf l (psK1 l)) : Int) + 1 := if_pos e1
  have hH : psH l = (Gol.gV (bitsOf l (psK2 l)) : Int) + 1 := if_pos e2
  have hG : psG l = (Gol.gV (bitsOf l (psK3 l)) : Int) + 1 := if_pos e3
  have k2 : psK2 l = psK1 l + Gol.gK (bitsOf l (psK1 l)) := by show _ + stK _ _ = _; rw [show stK (psE1 l) (bitsOf l (psK1 l)) = Gol.gK (bitsOf l (psK1 l)) from if_pos e1]
  have k3 : psK3 l = psK2 l + Gol.gK (bitsOf l (psK2 l)) := by show _ + stK _ _ = _; rw [show stK (psE2 l) (bitsOf l (psK2 l)) = Gol.gK (bitsOf l (psK2 l)) from if_pos e2]
  have k4 : psK4 l = psK3 l + Gol.gK (bitsOf l (psK3 l)) := by show _ + stK _ _ = _; rw [show stK (psE3 l) (bitsOf l (psK3 l)) = Gol.gK (bitsOf l (psK3 l)) from if_pos e3]
  have d2 : bitsOf l (psK2 l) = (bitsOf l (psK1 l)).drop (Gol.gK (bitsOf l (psK1 l))) := by rw [k2]; simp [bitsOf, List.drop_drop]
  have d3 : bitsOf l (psK3 l) = (bitsOf l (psK2 l)).drop (Gol.gK (bitsOf l (psK2 l))) := by rw [k3]; simp [bitsOf, List.drop_drop]
  have d4 : bitsOf l (psK4 l) = (bitsOf l (psK3 l)).drop (Gol.gK (bitsOf l (psK3 l))) := by rw [k4]; simp [bitsOf, List.drop_drop]
  have hB : Bit.row l = Syn.seqB (16 * psW l) (16 * psH l) (psG l) ++ bitsOf l (psK4 l) := by
    unfold Syn.seqB
    rw [show (16 * psW l / 16 - 1).toNat = Gol.gV (bitsOf l (psK1 l)) from by omega, show (16 * psH l / 16 - 1).toNat = Gol.gV (bitsOf l (psK2 l)) from by omega, show (psG l - 1).toNat = Gol.gV (bitsOf l (psK3 l)) from by omega]
    rw [List.append_assoc, List.append_assoc, List.append_assoc]
    rw [d4, ← c3.1, d3, ← c2.1, d2, ← c1.1, k1, ← hD]
    exact (List.take_append_drop 16 (Bit.row l)).symm
  have hl4 : psK4 l = (Syn.seqB (16 * psW l) (16 * psH l) (psG l)).length := by
    unfold Syn.seqB
    rw [show (16 * psW l / 16 - 1).toNat = Gol.gV (bitsOf l (psK1 l)) from by omega, show (16 * psH l / 16 - 1).toNat = Gol.gV (bitsOf l (psK2 l)) from by omega, show (psG l - 1).toNat = Gol.gV (bitsOf l (psK3 l)) from by omega]
    simp only [List.length_append, Bit.length_digits, Gol.length_codeB (gV_le _)]
    rw [← c1.2, ← c2.2, ← c3.2]
    omega
  rw [Syn.seqL_yes hri]
  generalize hS : Syn.seqB (16 * psW l) (16 * psH l) (psG l) = S at *
  have hR : bitsOf l (psK4 l) = List.replicate (8 * ((S.length + 7) / 8) - S.length) false := by
    apply List.ext_getElem?
    intro i
    have hlr : (bitsOf l (psK4 l)).length = 8 * ((S.length + 7) / 8) - S.length := by rw [length_bitsOf, ← hlen, hl4]
    by_cases hi : i < 8 * ((S.length + 7) / 8) - S.length
    · rw [List.getElem?_replicate, if_pos hi, List.getElem?_drop]
      have hi2 : psK4 l + i < (Bit.row l).length := by rw [Bit.length_row]; omega
      rw [List.getElem?_eq_getElem hi2]
      congr 1
      exact restB_at hrb (by omega) (by omega) hi2
    · rw [List.getElem?_eq_none (by omega), List.getElem?_eq_none (by simp; omega)]
  have : Bit.row l = Bit.fill S := by rw [hB, hR]; rfl
  rw [← Bit.pack_row l, this, Bit.pack_fill]

theorem st_code {v : Nat} (h : v ≤ 4294967294) {E : Int} (hE : E = 0) (D : List Bool) : stE E (Gol.codeB v ++ D) = 0 ∧ stV E (Gol.codeB v ++ D) = (v : Int) + 1 ∧ stK E (Gol.codeB v ++ D) = Gol.gl v := by
  refine ⟨?_, ?_, ?_⟩
  · unfold stE; rw [if_pos hE, Gol.gE_code h]
  · unfold stV; rw [if_pos hE, Gol.gV_code h]
  · unfold stK; rw [if_pos hE, Gol.gK_code h]
theorem ps_of {W H G : Int} (hri : Syn.rightB W H G = true) : psOk (Syn.seqL W H G) = true ∧ 16 * psW (Syn.seqL W H G) = W ∧ 16 * psH (Syn.seqL W H G) = H ∧ psG (Syn.seqL W H G) = G := by
  obtain ⟨a1, a2, a3⟩ := Syn.right_of hri
  have hl3 := Syn.len_seq hri
  rw [Syn.seqL_yes hri]
  obtain ⟨E, hE⟩ := Syn.row_pre (Syn.seqB W H G)
  have hrest := restB_end (Syn.seqB W H G)
  have hlp := Bit.length_pack (Syn.seqB W H G)
  have hSB : Syn.seqB W H G = Bit.digits 19273 16 ++ (Gol.codeB (W / 16 - 1).toNat ++ (Gol.codeB (H / 16 - 1).toNat ++ Gol.codeB (G - 1).toNat)) := by
    unfold Syn.seqB
    rw [List.append_assoc, List.append_assoc]
  generalize hl : Bit.pack (Syn.seqB W H G) = l at *
  obtain ⟨a, ha⟩ : ∃ a : Nat, (W / 16 - 1).toNat = a := ⟨_, rfl⟩
  obtain ⟨b, hb⟩ : ∃ a : Nat, (H / 16 - 1).toNat = a := ⟨_, rfl⟩
  obtain ⟨g, hg⟩ : ∃ a : Nat, (G - 1).toNat = a := ⟨_, rfl⟩
  rw [ha, hb, hg] at hSB
  have hrow : Bit.row l = Bit.digits 19273 16 ++ (Gol.codeB a ++ (Gol.codeB b ++ (Gol.codeB g ++ E))) := by
    rw [hE, hSB, List.append_assoc, List.append_assoc, List.append_assoc]
  have hlen : (Syn.seqB W H G).length = 16 + Gol.gl a + Gol.gl b + Gol.gl g := by
    rw [hSB]
    simp only [List.length_append, Bit.length_digits, Gol.length_codeB (show a ≤ 4294967294 by omega), Gol.length_codeB (show b ≤ 4294967294 by omega), Gol.length_codeB (show g ≤ 4294967294 by omega)]
    omega
  have e1 : getE (8 * l.length) 0 ((16 : Nat) : Int) = 0 := getE_ok (by omega) (by omega)
  have k1 : psK1 l = 16 := by
    show getK (8 * l.length) 0 ((16 : Nat) : Int) = 16
    unfold getK; rw [if_pos e1]; rfl
  have hv : getV l 0 16 = 19273 := by
    have h1 : getV l 0 ((16 : Nat) : Int) = Bit.get l 0 16 := by unfold getV; rw [if_pos e1]; rfl
    have h2 := get_row l 0 16 (by omega)
    rw [List.drop_zero, hrow, List.take_left' (by rw [Bit.length_digits])] at h2
    show getV l 0 ((16 : Nat) : Int) = 19273
    rw [h1, ← h2]; decide +kernel
  have b1 : bitsOf l (psK1 l) = Gol.codeB a ++ (Gol.codeB b ++ (Gol.codeB g ++ E)) := by
    show (Bit.row l).drop _ = _
    rw [k1, hrow]
    exact List.drop_left' (by rw [Bit.length_digits])
  obtain ⟨s1, s2, s3⟩ := st_code (v := a) (by omega) (E := psE1 l) e1 (Gol.codeB b ++ (Gol.codeB g ++ E))
  rw [← b1] at s1 s2 s3
  have k2 : psK2 l = 16 + Gol.gl a := by show psK1 l + stK _ _ = _; rw [s3, k1]
  have b2 : bitsOf l (psK2 l) = Gol.codeB b ++ (Gol.codeB g ++ E) := by
    have : bitsOf l (psK2 l) = (bitsOf l (psK1 l)).drop (Gol.gl a) := by rw [k2, k1]; simp [bitsOf, List.drop_drop]
    rw [this, b1]
    exact List.drop_left' (Gol.length_codeB (by omega))
  obtain ⟨t1, t2, t3⟩ := st_code (v := b) (by omega) (E := psE2 l) s1 (Gol.codeB g ++ E)
  rw [← b2] at t1 t2 t3
  have k3 : psK3 l = 16 + Gol.gl a + Gol.gl b := by show psK2 l + stK _ _ = _; rw [t3, k2]
  have b3 : bitsOf l (psK3 l) = Gol.codeB g ++ E := by
    have : bitsOf l (psK3 l) = (bitsOf l (psK2 l)).drop (Gol.gl b) := by rw [k3, k2]; simp [bitsOf, List.drop_drop]
    rw [this, b2]
    exact List.drop_left' (Gol.length_codeB (by omega))
  obtain ⟨u1, u2, u3⟩ := st_code (v := g) (by omega) (E := psE3 l) t1 E
  rw [← b3] at u1 u2 u3
  have k4 : psK4 l = (Syn.seqB W H G).length := by show psK3 l + stK _ _ = _; rw [u3, k3, hlen]
  have hW : 16 * psW l = W := by show 16 * stV _ _ = _; rw [s2]; omega
  have hH : 16 * psH l = H := by show 16 * stV _ _ = _; rw [t2]; omega
  have hG : psG l = G := by show stV _ _ = _; rw [u2]; omega
  refine ⟨?_, hW, hH, hG⟩
  unfold psOk
  rw [hW, hH, hG, hri, hv, k4, hrest, show psE4 l = 0 from u1, decide_eq_true (by omega)]; rfl
end Go.Proofs.Ytapfapggepagmaa
