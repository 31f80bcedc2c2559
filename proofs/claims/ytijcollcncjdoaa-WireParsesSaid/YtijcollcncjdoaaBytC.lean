/- From a statement's arguments to what the walks ask: a slice of bytes with its room. No conditions. -/
import Derived.Test.YtijcollcncjdoaaLift
namespace Kin
open Go Go.RowKit Go.ChangeShapes Go.WideShapes Go.ChangeAt

theorem bytc_trod {H : Type} {enc : TypeId × Value → H} {P : Program} {W : World} {base : Nat} {spare : Nat → Bool} {held : Bool} {t e : TypeId} {v : Value} {fuel : Nat} {x : DataW H × List MemPlace}
    (ht : IsBytes P t e) (hc : P.cellsOf e = 1) (hf : DataW.trod enc P W base spare held fuel t [v] = some x) :
    ∃ A n c l, v = .slice A n c ∧ n = l.length ∧ n ≤ maxLen ∧ n ≤ c ∧ Byt W W.heap.size A l := by
  rcases open_ints ht.1 ht.2.1 hc hf with ⟨hcs, _⟩ | ⟨y, n, c, zs, hcs, _, hl, hm, hz, _, hcell, hwz⟩
  · simp at hcs
    subst hcs
    exact ⟨none, 0, 0, [], rfl, rfl, Nat.zero_le _, Nat.le_refl _, Byt.nil⟩
  · simp at hcs
    subst hcs
    have hlen : n ≤ zs.length := by rw [hz]; split <;> omega
    refine ⟨some y, n, c, (zs.take n).map fun z => UInt8.ofNat z.toNat, rfl, by simp; omega, by omega, hl, fun hpos => ?_⟩
    simp at hpos
    obtain ⟨b, off, spot⟩ := y
    have hc0 := hcell 0 (by omega)
    have hspot : spot = none := by simpa [Addr.add] using World.cell?_spot hc0
    subst hspot
    refine ⟨b, off, rfl, ?_, fun j x hx => ?_⟩
    · have := block_lt_of_cell hc0
      simpa [Addr.add] using this
    · rw [List.getElem?_map] at hx
      rcases hj : (zs.take n)[j]? with _ | z
      · rw [hj] at hx; cases hx
      · rw [hj] at hx
        injection hx with hx
        have hjn : j < n := by
          have := (List.getElem?_eq_some_iff.1 hj).1
          simp at this; omega
        rw [List.getElem?_take_of_lt hjn] at hj
        have hjz := (List.getElem?_eq_some_iff.1 hj).1
        have hcj := hcell j hjz
        rw [Addr.add_lit] at hcj
        have hg : zs.getD j 0 = z := by simp [List.getD, hj]
        rw [hcj, hg, ← hx, u8_of_wf (hwz z (List.mem_of_getElem? hj))]
theorem bytc_open {H : Type} {enc : TypeId × Value → H} {P : Program} {W : World} {base : Nat} {spare : Nat → Bool} {held : Bool} {t e : TypeId} {v : Value} {d : DataW H} {p : List MemPlace} {r : Reach} {b0 : Nat}
    (ht : IsBytes P t e) (hc : P.cellsOf e = 1) (hv : Value.okWide P W r b0 t v) (h : DataW.Trod enc P W base spare held t v d p) :
    ∃ A n c l, v = .slice A n c ∧ n = l.length ∧ n ≤ maxLen ∧ n ≤ c ∧ Byt W W.heap.size A l := by
  obtain ⟨A, n, c, rfl⟩ := okWide_slice ht.1 hv
  obtain ⟨fuel, hf⟩ := h
  exact bytc_trod ht hc hf
end Kin
