/- From a statement's arguments to what the walks ask: a slice of bytes that came in reads as a list of bytes. No conditions. -/
import Derived.Test.YtijcollcncjdoaaApp
import Derived.WalkKit
import Derived.ProofKit
import Derived.OpenShut
import Derived.ShutString
import Derived.ChangeOld
namespace Kin
open Go Go.RowKit Go.ChangeShapes Go.WideShapes Go.ChangeAt

theorem u8_of_wf {z : Int} (h : (Lit.int .u8 z).wf = true) : ((UInt8.ofNat z.toNat).toNat : Int) = z := by
  have hb := bounds_u8 h
  have : z.toNat < 256 := by omega
  rw [UInt8.toNat_ofNat_of_lt' (by simpa using this)]
  omega

theorem byt_open {H : Type} {enc : TypeId × Value → H} {P : Program} {W : World} {base : Nat} {spare : Nat → Bool} {held : Bool} {t e : TypeId} {v : Value} {d : DataW H} {p : List MemPlace} {r : Reach} {b0 : Nat}
    (ht : IsBytes P t e) (hc : P.cellsOf e = 1) (hv : Value.okWide P W r b0 t v) (h : DataW.Trod enc P W base spare held t v d p) :
    ∃ A n c l, v = .slice A n c ∧ n = l.length ∧ n ≤ maxLen ∧ Byt W W.heap.size A l := by
  obtain ⟨A, n, c, rfl⟩ := okWide_slice ht.1 hv
  obtain ⟨fuel, hf⟩ := h
  rcases open_ints ht.1 ht.2.1 hc hf with ⟨hcs, _⟩ | ⟨x, n', c', zs, hcs, _, hl, hm, hz, _, hcell, hwz⟩
  · simp [Value.cells] at hcs
    obtain ⟨rfl, rfl, rfl⟩ := hcs
    exact ⟨none, 0, 0, [], rfl, rfl, Nat.zero_le _, Byt.nil⟩
  · simp [Value.cells] at hcs
    obtain ⟨rfl, rfl, rfl⟩ := hcs
    have hlen : n ≤ zs.length := by rw [hz]; split <;> omega
    refine ⟨some x, n, c, (zs.take n).map fun z => UInt8.ofNat z.toNat, rfl, by simp; omega, by omega, fun hpos => ?_⟩
    simp at hpos
    obtain ⟨b, off, spot⟩ := x
    have hc0 := hcell 0 (by omega)
    have hspot : spot = none := by simpa [Addr.add] using World.cell?_spot hc0
    subst hspot
    refine ⟨b, off, rfl, ?_, fun j x hx => ?_⟩
    · have := block_lt_of_cell hc0
      simpa [Addr.add] using this
    · rw [List.getElem?_map] at hx
      rcases hj : (zs.take n)[j]? with _ | z
      · rw [hj] at hx; cases hx
      · rw [hj] at hx
        injection hx with hx
        have hjn : j < n := by
          have := (List.getElem?_eq_some_iff.1 hj).1
          simp at this; omega
        rw [List.getElem?_take_of_lt hjn] at hj
        have hjz := (List.getElem?_eq_some_iff.1 hj).1
        have hcj := hcell j hjz
        rw [Addr.add_lit] at hcj
        have hg : zs.getD j 0 = z := by simp [List.getD, hj]
        rw [hcj, hg, ← hx, u8_of_wf (hwz z (List.mem_of_getElem? hj))]
end Kin
