/- Sequences and headers, plain: which are right, their bits. No program here; no conditions. -/
import Derived.Test.YtapfapggepagmaaGolPlain
namespace Kin.Syn
open Kin

def sideB (x : Int) : Bool := decide (16 ≤ x ∧ x ≤ 4096 ∧ x % 16 = 0)
def gopB (g : Int) : Bool := decide (1 ≤ g ∧ g ≤ 64)
def rightB (W H G : Int) : Bool := sideB W && sideB H && gopB G
def fitsB (K : Bool) (N Q W H G : Int) : Bool := rightB W H G && decide (0 ≤ Q ∧ Q ≤ 31 ∧ 0 ≤ N ∧ N < G) && (K == decide (N = 0))
/-- the bits of a sequence -/
def seqB (W H G : Int) : List Bool := Bit.digits 19273 16 ++ Gol.codeB (W / 16 - 1).toNat ++ Gol.codeB (H / 16 - 1).toNat ++ Gol.codeB (G - 1).toNat
/-- the bits of a header -/
def headB (K : Bool) (N Q : Int) : List Bool := Bit.digits K.toNat 1 ++ Gol.codeB N.toNat ++ Bit.digits Q.toNat 5
theorem side_of {x : Int} (h : sideB x = true) : 16 ≤ x ∧ x ≤ 4096 ∧ x % 16 = 0 := of_decide_eq_true h
theorem right_of {W H G : Int} (h : rightB W H G = true) : (16 ≤ W ∧ W ≤ 4096 ∧ W % 16 = 0) ∧ (16 ≤ H ∧ H ≤ 4096 ∧ H % 16 = 0) ∧ 1 ≤ G ∧ G ≤ 64 := by
  unfold rightB at h
  rw [Bool.and_eq_true, Bool.and_eq_true] at h
  exact ⟨side_of h.1.1, side_of h.1.2, of_decide_eq_true h.2⟩
theorem fits_of {K : Bool} {N Q W H G : Int} (h : fitsB K N Q W H G = true) : rightB W H G = true ∧ (0 ≤ Q ∧ Q ≤ 31 ∧ 0 ≤ N ∧ N < G) ∧ K = decide (N = 0) := by
  unfold fitsB at h
  rw [Bool.and_eq_true, Bool.and_eq_true] at h
  exact ⟨h.1.1, of_decide_eq_true h.1.2, by simpa using h.2⟩
theorem right_true {W H G : Int} (h : (16 ≤ W ∧ W ≤ 4096 ∧ W % 16 = 0) ∧ (16 ≤ H ∧ H ≤ 4096 ∧ H % 16 = 0) ∧ 1 ≤ G ∧ G ≤ 64) : rightB W H G = true := by
  unfold rightB sideB gopB
  rw [decide_eq_true h.1, decide_eq_true h.2.1, decide_eq_true h.2.2]; rfl
theorem right_false {W H G : Int} (h : ¬ ((16 ≤ W ∧ W ≤ 4096 ∧ W % 16 = 0) ∧ (16 ≤ H ∧ H ≤ 4096 ∧ H % 16 = 0) ∧ 1 ≤ G ∧ G ≤ 64)) : rightB W H G = false := by
  cases e : rightB W H G
  · rfl
  · exact absurd (right_of e) h
theorem fits_true {K : Bool} {N Q W H G : Int} (h : rightB W H G = true) (h2 : 0 ≤ Q ∧ Q ≤ 31 ∧ 0 ≤ N ∧ N < G) (h3 : K = decide (N = 0)) : fitsB K N Q W H G = true := by
  unfold fitsB
  rw [h, decide_eq_true h2, h3]; simp
theorem fits_false {K : Bool} {N Q W H G : Int} (h : ¬ (rightB W H G = true ∧ (0 ≤ Q ∧ Q ≤ 31 ∧ 0 ≤ N ∧ N < G) ∧ K = decide (N = 0))) : fitsB K N Q W H G = false := by
  cases e : fitsB K N Q W H G
  · rfl
  · exact absurd (fits_of e) h
theorem tmod16 (x : Int) : 0 ≤ x → x.tmod 16 = x % 16 := fun h => Int.tmod_eq_emod_of_nonneg h
/-- what is answered for a sequence, a header -/
def seqL (W H G : Int) : List UInt8 := if rightB W H G then Bit.pack (seqB W H G) else []
def seqE (W H G : Int) : Int := if rightB W H G then 0 else 121
def headL (K : Bool) (N Q W H G : Int) : List UInt8 := if fitsB K N Q W H G then Bit.pack (headB K N Q) else []
def headE (K : Bool) (N Q W H G : Int) : Int := if fitsB K N Q W H G then 0 else 121
theorem seqL_no {W H G : Int} (h : rightB W H G = false) : seqL W H G = [] := by unfold seqL; rw [h]; rfl
theorem seqL_yes {W H G : Int} (h : rightB W H G = true) : seqL W H G = Bit.pack (seqB W H G) := by unfold seqL; rw [h]; rfl
theorem seqE_no {W H G : Int} (h : rightB W H G = false) : seqE W H G = 121 := by unfold seqE; rw [h]; rfl
theorem seqE_yes {W H G : Int} (h : rightB W H G = true) : seqE W H G = 0 := by unfold seqE; rw [h]; rfl
theorem headL_no {K : Bool} {N Q W H G : Int} (h : fitsB K N Q W H G = false) : headL K N Q W H G = [] := by unfold headL; rw [h]; rfl
theorem headL_yes {K : Bool} {N Q W H G : Int} (h : fitsB K N Q W H G = true) : headL K N Q W H G = Bit.pack (headB K N Q) := by unfold headL; rw [h]; rfl
theorem headE_no {K : Bool} {N Q W H G : Int} (h : fitsB K N Q W H G = false) : headE K N Q W H G = 121 := by unfold headE; rw [h]; rfl
theorem headE_yes {K : Bool} {N Q W H G : Int} (h : fitsB K N Q W H G = true) : headE K N Q W H G = 0 := by unfold headE; rw [h]; rfl
end Kin.Syn
