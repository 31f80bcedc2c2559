/- From a statement's arguments to what the walks ask: a slice of boxes that came in reads as boxes; a slice of bytes with its room. No conditions. -/
import Derived.Test.YtjofojjinoipaaaBoxMem
import Derived.Test.YtjofojjinoipaaaBoxWalks
import Derived.Test.YtjofojjinoipaaaLift
import Derived.ChangeArms
namespace Kin
open Go Go.RowKit Go.ChangeShapes Go.WideShapes Go.ChangeAt
theorem bytc_trod {H : Type} {enc : TypeId × Value → H} {P : Program} {W : World} {base : Nat} {spare : Nat → Bool} {held : Bool} {t e : TypeId} {v : Value} {fuel : Nat} {x : DataW H × List MemPlace}
    (ht : IsBytes P t e) (hc : P.cellsOf e = 1) (hf : DataW.trod enc P W base spare held fuel t [v] = some x) :
    ∃ A n c l, v = .slice A n c ∧ n = l.length ∧ n ≤ maxLen ∧ n ≤ c ∧ Byt W W.heap.size A l := by
  rcases open_ints ht.1 ht.2.1 hc hf with ⟨hcs, _⟩ | ⟨y, n, c, zs, hcs, _, hl, hm, hz, _, hcell, hwz⟩
  · simp at hcs
    subst hcs
    exact ⟨none, 0, 0, [], rfl, rfl, Nat.zero_le _, Nat.le_refl _, Byt.nil⟩
  · simp at hcs
    subst hcs
    have hlen : n ≤ zs.length := by rw [hz]; split <;> omega
    refine ⟨some y, n, c, (zs.take n).map fun z => UInt8.ofNat z.toNat, rfl, by simp; omega, by omega, hl, fun hpos => ?_⟩
    simp at hpos
    obtain ⟨b, off, spot⟩ := y
    have hc0 := hcell 0 (by omega)
    have hspot : spot = none := by simpa [Addr.add] using World.cell?_spot hc0
    subst hspot
    refine ⟨b, off, rfl, ?_, fun j x hx => ?_⟩
    · have := block_lt_of_cell hc0
      simpa [Addr.add] using this
    · rw [List.getElem?_map] at hx
      rcases hj : (zs.take n)[j]? with _ | z
      · rw [hj] at hx; cases hx
      · rw [hj] at hx
        injection hx with hx
        have hjn : j < n := by
          have := (List.getElem?_eq_some_iff.1 hj).1
          simp at this; omega
        rw [List.getElem?_take_of_lt hjn] at hj
        have hjz := (List.getElem?_eq_some_iff.1 hj).1
        have hcj := hcell j hjz
        rw [Addr.add_lit] at hcj
        have hg : zs.getD j 0 = z := by simp [List.getD, hj]
        rw [hcj, hg, ← hx, u8_of_wf (hwz z (List.mem_of_getElem? hj))]
theorem bytc_open {H : Type} {enc : TypeId × Value → H} {P : Program} {W : World} {base : Nat} {spare : Nat → Bool} {held : Bool} {t e : TypeId} {v : Value} {d : DataW H} {p : List MemPlace} {r : Reach} {b0 : Nat}
    (ht : IsBytes P t e) (hc : P.cellsOf e = 1) (hv : Value.okWide P W r b0 t v) (h : DataW.Trod enc P W base spare held t v d p) :
    ∃ A n c l, v = .slice A n c ∧ n = l.length ∧ n ≤ maxLen ∧ n ≤ c ∧ Byt W W.heap.size A l := by
  obtain ⟨A, n, c, rfl⟩ := okWide_slice ht.1 hv
  obtain ⟨fuel, hf⟩ := h
  exact bytc_trod ht hc hf
theorem list_of_rows {α β : Type} (f : α → β) (p : α → Prop) : ∀ (rows : List β), (∀ r ∈ rows, ∃ x, r = f x ∧ p x) → ∃ xs : List α, xs.map f = rows ∧ ∀ x ∈ xs, p x
  | [], _ => ⟨[], rfl, by simp⟩
  | r :: rows, h => by
    obtain ⟨x, hx, px⟩ := h r (by simp)
    obtain ⟨xs, e, hp⟩ := list_of_rows f p rows (fun r hr => h r (by simp [hr]))
    refine ⟨x :: xs, by rw [List.map_cons, e, hx], fun y hy => ?_⟩
    rcases List.mem_cons.1 hy with rfl | hy
    · exact px
    · exact hp y hy
end Kin
namespace Go.Proofs.Ytjofojjinoipaaa
open Go.RowKit Kin Go.ChangeShapes Go.WideShapes Go.ChangeAt

theorem boxes_open {H : Type} {enc : TypeId × Value → H} {w : World} {base : Nat} {spare : Nat → Bool} {held : Bool} {v : Value} {d : DataW H} {p : List MemPlace} {r : Reach} {b0 : Nat}
    (hv : Value.okWide Try.prog w r b0 22 v) (h : DataW.Trod enc Try.prog w base spare held 22 v d p) :
    ∃ A n c xs, v = .slice A n c ∧ n = xs.length ∧ n ≤ maxLen ∧ Bx.Boxes w w.heap.size A xs ∧ ∀ x ∈ xs, x.t.size ≤ maxLen := by
  obtain ⟨A, n, c, rows, rfl, hn, hm, hr, hR⟩ := recs_open (fun row => ∃ x : Bx.Cel, row = x.row ∧ (x.ok w w.heap.size ∧ x.t.size ≤ maxLen)) Try.underlying22 Try.underlying36 (by kernel_rfl) (by kernel_rfl) (by decide) (fun row hl ⟨k, hf⟩ => by
    match row, hl with
    | [x, y], _ =>
      obtain ⟨v0, y0, h0, t0⟩ := hf 0 _ rfl
      obtain ⟨v1, y1, h1, t1⟩ := hf 1 _ rfl
      injection h0 with h0
      injection h1 with h1
      subst h0 h1
      obtain ⟨s, e0, _, hs⟩ := DataW.trod_string Try.underlying9 t0
      obtain ⟨A, n, c, l, e1, g1, g2, _, g4⟩ := bytc_trod bytesT (by kernel_rfl) t1
      simp only [List.cons.injEq, and_true] at e0
      subst e0 e1
      exact ⟨⟨s, A, n, c, l⟩, rfl, ⟨g1, g2, g4⟩, hs⟩) hv h
  obtain ⟨xs, e, hx⟩ := list_of_rows Bx.Cel.row _ rows hR
  subst e
  exact ⟨A, n, c, xs, rfl, by rw [hn, List.length_map], hm, ⟨hr, fun x h => (hx x h).1⟩, fun x h => (hx x h).2⟩
end Go.Proofs.Ytjofojjinoipaaa
