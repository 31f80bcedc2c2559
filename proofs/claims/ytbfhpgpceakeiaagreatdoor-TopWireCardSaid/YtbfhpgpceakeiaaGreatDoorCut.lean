/- Cuts of slices of bytes: b[l:h], b[l:], b[:h]. Over any program; no conditions but the bounds. -/
import Derived.Test.YtbfhpgpceakeiaaGreatDoorApp
import Derived.Laws.Slices
namespace Kin
open Go Go.RowKit

/-- where a cut from k on lies -/
def cutA (A : Option Addr) (c k : Nat) : Option Addr := if c = k then A else A.map (·.add k)
theorem Byt.cut {w : World} {B : Nat} {A : Option Addr} {l : List UInt8} {c : Nat} (h : Byt w B A l) (k : Nat) (hc : l.length ≤ c) : Byt w B (cutA A c k) (l.drop k) := fun hl => by
  rw [List.length_drop] at hl
  obtain ⟨b, off, e, hb, hcell⟩ := h (by omega)
  subst e
  unfold cutA
  rw [if_neg (by omega)]
  refine ⟨b, off + k, by simp [Addr.add_lit], hb, fun j x hx => ?_⟩
  rw [List.getElem?_drop] at hx
  rw [Nat.add_assoc]
  exact hcell _ x hx
theorem Byt.take {w : World} {B : Nat} {A : Option Addr} {l : List UInt8} (h : Byt w B A l) (n : Nat) : Byt w B A (l.take n) := by
  intro hpos
  have hl : 0 < l.length := by rw [List.length_take] at hpos; omega
  obtain ⟨b, off, hA, hb, hc⟩ := h hl
  refine ⟨b, off, hA, hb, fun j x hx => ?_⟩
  rw [List.getElem?_take] at hx
  split at hx
  · exact hc j x hx
  · cases hx

section
variable {P : Program} {t e : TypeId}

theorem run_cut8 (ht : IsBytes P t e) (A : Option Addr) (n c : Nat) (kl kh : IntKind) (l h : Nat) (li hi : Int) (hl : li = l) (hh : hi = h) (h1 : l ≤ h) (h2 : h ≤ c) (w : World) :
    (Instr.sliceAt t (.slice A n c) (some (.int kl li)) (some (.int kh hi)) none).run P w = .ok (.slice (cutA A c l) (h - l) (c - l)) w := by
  subst hl hh
  obtain ⟨ht, _, i, hi, _, hs, _⟩ := ht
  have he : P.elem t = e := by simp [Program.elem, ht]
  have ht' : P.underlying t = some (.slice (P.elem t)) := by rw [he]; exact ht
  rw [run_sliceAt_slice w t _ _ _ _ ht', run_slice_lh w t A n c ht' kl kh l h (by omega) (by omega) (by omega)]
  simp [he, Go.sizeOf, typeInfo, hi, hs, sliced, cutA, Result.andThen]
theorem run_cut8l (ht : IsBytes P t e) (A : Option Addr) (n c : Nat) (kl : IntKind) (l : Nat) (li : Int) (hl : li = l) (h1 : l ≤ n) (w : World) :
    (Instr.sliceAt t (.slice A n c) (some (.int kl li)) none none).run P w = .ok (.slice (cutA A c l) (n - l) (c - l)) w := by
  subst hl
  obtain ⟨ht, _, i, hi, _, hs, _⟩ := ht
  have he : P.elem t = e := by simp [Program.elem, ht]
  have ht' : P.underlying t = some (.slice (P.elem t)) := by rw [he]; exact ht
  rw [run_sliceAt_slice w t _ _ _ _ ht', run_slice_l w t A n c ht' kl l (by omega) (by omega)]
  simp [he, Go.sizeOf, typeInfo, hi, hs, sliced, cutA, Result.andThen]
theorem run_cut8h (ht : IsBytes P t e) (A : Option Addr) (n c : Nat) (kh : IntKind) (h : Nat) (hi : Int) (hh : hi = h) (h2 : h ≤ c) (w : World) :
    (Instr.sliceAt t (.slice A n c) none (some (.int kh hi)) none).run P w = .ok (.slice A h c) w := by
  subst hh
  obtain ⟨ht, _, i, hi, _, hs, _⟩ := ht
  have he : P.elem t = e := by simp [Program.elem, ht]
  have ht' : P.underlying t = some (.slice (P.elem t)) := by rw [he]; exact ht
  rw [run_sliceAt_slice w t _ _ _ _ ht', run_slice_h w t A n c ht' kh h (by omega) (by omega)]
  have : A.map (·.add 0) = A := by cases A <;> simp [Addr.add]
  simp [he, Go.sizeOf, typeInfo, hi, hs, sliced, Result.andThen, this]
end
end Kin
