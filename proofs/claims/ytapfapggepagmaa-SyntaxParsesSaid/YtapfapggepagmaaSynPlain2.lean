/- Sequences and headers, plain: none begins another one. No program here; no conditions. -/
import Derived.Test.YtapfapggepagmaaSynPlain
namespace Kin.Syn
open Kin

/- no header begins another one -/
theorem code_cancel {a b : Nat} {T T' : List Bool} (ha : a ≤ 4294967294) (hb : b ≤ 4294967294) (h : Gol.codeB a ++ T = Gol.codeB b ++ T') : a = b ∧ T = T' := by
  have h1 := Gol.gV_code ha T
  rw [h, Gol.gV_code hb T'] at h1
  subst h1
  exact ⟨rfl, List.append_cancel_left h⟩
theorem digits_cancel {a b n : Nat} {T T' : List Bool} (ha : a < 2 ^ n) (hb : b < 2 ^ n) (h : Bit.digits a n ++ T = Bit.digits b n ++ T') : a = b ∧ T = T' := by
  have h1 := List.append_inj h (by rw [Bit.length_digits, Bit.length_digits])
  exact ⟨Bit.digits_inj ha hb h1.1, h1.2⟩
theorem row_pre (C : List Bool) : ∃ E, Bit.row (Bit.pack C) = C ++ E := by
  have h : C <+: Bit.row (Bit.pack C) := by
    rw [List.prefix_iff_eq_take]
    apply List.ext_getElem?
    intro i
    by_cases hi : i < C.length
    · rw [List.getElem?_take_of_lt hi, Bit.row_at _ (by rw [Bit.length_pack]; omega), Bit.rbit_pack, List.getD, List.getElem?_eq_getElem hi]; rfl
    · rw [List.getElem?_eq_none (by omega), List.getElem?_eq_none (by rw [List.length_take]; omega)]
  obtain ⟨E, e⟩ := h
  exact ⟨E, e.symm⟩
theorem row_append (l m : List UInt8) : Bit.row (l ++ m) = Bit.row l ++ Bit.row m := by
  apply List.ext_getElem?
  intro k
  by_cases hk : k < 8 * l.length
  · rw [List.getElem?_append_left (by rw [Bit.length_row]; exact hk), Bit.row_at _ (by rw [List.length_append]; omega), Bit.row_at _ hk]
    congr 1
    unfold Bit.rbit
    rw [List.getD, List.getD, List.getElem?_append_left (by omega)]
  · rw [List.getElem?_append_right (by rw [Bit.length_row]; omega), Bit.length_row]
    by_cases hk2 : k < 8 * (l.length + m.length)
    · rw [Bit.row_at _ (by rw [List.length_append]; exact hk2), Bit.row_at _ (by omega)]
      congr 1
      unfold Bit.rbit
      rw [List.getD, List.getD, List.getElem?_append_right (by omega), show k / 8 - l.length = (k - 8 * l.length) / 8 from by omega, show (k - 8 * l.length) % 8 = k % 8 from by omega]
    · rw [List.getElem?_eq_none (by rw [Bit.length_row, List.length_append]; omega), List.getElem?_eq_none (by rw [Bit.length_row]; omega)]
/-- bytes that begin bytes: bits that begin bits -/
theorem bits_of_pre {B C : List Bool} (h : Bit.pack B <+: Bit.pack C) : ∃ T T', B ++ T = C ++ T' := by
  obtain ⟨m, e⟩ := h
  obtain ⟨E, hE⟩ := row_pre B
  obtain ⟨F, hF⟩ := row_pre C
  refine ⟨E ++ Bit.row m, F, ?_⟩
  rw [← hF, ← e, row_append, hE, List.append_assoc]
theorem head_cancel {K K' : Bool} {N Q N' Q' : Int} {T T' : List Bool} (hN : 0 ≤ N ∧ N ≤ 4294967294) (hQ : 0 ≤ Q ∧ Q ≤ 31) (hN' : 0 ≤ N' ∧ N' ≤ 4294967294) (hQ' : 0 ≤ Q' ∧ Q' ≤ 31) (h : headB K N Q ++ T = headB K' N' Q' ++ T') :
    (K = K' ∧ N = N' ∧ Q = Q') ∧ T = T' := by
  unfold headB at h
  rw [List.append_assoc, List.append_assoc, List.append_assoc, List.append_assoc] at h
  have hk : K.toNat < 2 ^ 1 := by have := Bool.toNat_le K; omega
  have hk' : K'.toNat < 2 ^ 1 := by have := Bool.toNat_le K'; omega
  obtain ⟨h1, h⟩ := digits_cancel hk hk' h
  obtain ⟨h2, h⟩ := code_cancel (by omega) (by omega) h
  obtain ⟨h3, h⟩ := digits_cancel (n := 5) (by omega) (by omega) h
  refine ⟨⟨?_, by omega, by omega⟩, h⟩
  cases K <;> cases K' <;> first | rfl | (exact absurd h1 (by decide))
theorem seq_cancel {W H G W' H' G' : Int} {T T' : List Bool} (h1 : rightB W H G = true) (h2 : rightB W' H' G' = true) (h : seqB W H G ++ T = seqB W' H' G' ++ T') : (W = W' ∧ H = H' ∧ G = G') ∧ T = T' := by
  obtain ⟨a1, a2, a3⟩ := right_of h1
  obtain ⟨b1, b2, b3⟩ := right_of h2
  unfold seqB at h
  simp only [List.append_assoc] at h
  have h := List.append_cancel_left h
  obtain ⟨e1, h⟩ := code_cancel (by omega) (by omega) h
  obtain ⟨e2, h⟩ := code_cancel (by omega) (by omega) h
  obtain ⟨e3, h⟩ := code_cancel (by omega) (by omega) h
  exact ⟨by omega, h⟩
theorem take_min {α : Type} {X Y : List α} {n : Nat} (hn : n = min X.length Y.length) (h : X.take n = Y.take n) : X <+: Y ∨ Y <+: X := by
  rcases Nat.le_total X.length Y.length with hle | hle
  · left
    rw [List.take_of_length_le (by omega)] at h
    rw [h]; exact List.take_prefix _ _
  · right
    rw [List.take_of_length_le (l := Y) (by omega)] at h
    rw [← h]; exact List.take_prefix _ _
theorem len_head (K : Bool) (N Q : Int) (_hN : 0 ≤ N ∧ N ≤ 4294967294) : 0 < (Bit.pack (headB K N Q)).length := by
  rw [Bit.length_pack]
  unfold headB
  rw [List.length_append, List.length_append, Bit.length_digits, Bit.length_digits]
  omega
theorem len_code (v : Nat) (h : v ≤ 4294967294) : 1 ≤ (Gol.codeB v).length := by
  rw [Gol.length_codeB h, Gol.gl_of h]
  have := (Gol.bl_code h).1
  omega
theorem len_seq {W H G : Int} (h : rightB W H G = true) : 3 ≤ (Bit.pack (seqB W H G)).length := by
  obtain ⟨a1, a2, a3⟩ := right_of h
  rw [Bit.length_pack]
  unfold seqB
  simp only [List.length_append, Bit.length_digits]
  have := len_code (W / 16 - 1).toNat (by omega)
  have := len_code (H / 16 - 1).toNat (by omega)
  have := len_code (G - 1).toNat (by omega)
  omega
theorem head_apart {K K' : Bool} {N Q N' Q' W H G : Int} {n : Nat} (h1 : fitsB K N Q W H G = true) (h2 : fitsB K' N' Q' W H G = true) (hn : n = min (headL K N Q W H G).length (headL K' N' Q' W H G).length) :
    0 < n ∧ ((headL K N Q W H G).take n = (headL K' N' Q' W H G).take n ↔ K = K' ∧ N = N' ∧ Q = Q') := by
  rw [headL_yes h1, headL_yes h2] at *
  obtain ⟨r, f1, _⟩ := fits_of h1
  obtain ⟨_, f2, _⟩ := fits_of h2
  obtain ⟨_, _, r3⟩ := right_of r
  have l1 := len_head K N Q (by omega)
  have l2 := len_head K' N' Q' (by omega)
  refine ⟨by omega, fun h => ?_, fun ⟨e1, e2, e3⟩ => by subst e1 e2 e3; rfl⟩
  rcases take_min hn h with hp | hp
  · obtain ⟨T, T', e⟩ := bits_of_pre hp
    exact (head_cancel (by omega) (by omega) (by omega) (by omega) e).1
  · obtain ⟨T, T', e⟩ := bits_of_pre hp
    obtain ⟨e1, e2, e3⟩ := (head_cancel (by omega) (by omega) (by omega) (by omega) e).1
    exact ⟨e1.symm, e2.symm, e3.symm⟩
theorem seq_apart {W H G W' H' G' : Int} {n : Nat} (h1 : rightB W H G = true) (h2 : rightB W' H' G' = true) (hn : n = min (seqL W H G).length (seqL W' H' G').length) :
    3 ≤ n ∧ ((seqL W H G).take n = (seqL W' H' G').take n ↔ W = W' ∧ H = H' ∧ G = G') := by
  rw [seqL_yes h1, seqL_yes h2] at *
  have l1 := len_seq h1
  have l2 := len_seq h2
  refine ⟨by omega, fun h => ?_, fun ⟨e1, e2, e3⟩ => by subst e1 e2 e3; rfl⟩
  rcases take_min hn h with hp | hp
  · obtain ⟨T, T', e⟩ := bits_of_pre hp
    exact (seq_cancel h1 h2 e).1
  · obtain ⟨T, T', e⟩ := bits_of_pre hp
    obtain ⟨e1, e2, e3⟩ := (seq_cancel h2 h1 e).1
    exact ⟨e1.symm, e2.symm, e3.symm⟩
end Kin.Syn
