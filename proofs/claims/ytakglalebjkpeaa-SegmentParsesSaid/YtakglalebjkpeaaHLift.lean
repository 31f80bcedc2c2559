/- Texts of this claim in one: HLift. What each proves, and on what conditions, its own words say. -/
import Derived.Test.YtakglalebjkpeaaHLib
import Derived.WalkKit
import Derived.ProofKit
import Derived.OpenShut
import Derived.ShutString
import Derived.ChangeOld
import Derived.Test.YtakglalebjkpeaaHLib2
namespace Kin
open Go Go.RowKit Go.ChangeShapes Go.WideShapes Go.ChangeAt

theorem u8_of_wf {z : Int} (h : (Lit.int .u8 z).wf = true) : ((UInt8.ofNat z.toNat).toNat : Int) = z := by
  have hb := bounds_u8 h
  have : z.toNat < 256 := by omega
  rw [UInt8.toNat_ofNat_of_lt' (by simpa using this)]
  omega

theorem byt_open {H : Type} {enc : TypeId × Value → H} {P : Program} {W : World} {base : Nat} {spare : Nat → Bool} {held : Bool} {t e : TypeId} {v : Value} {d : DataW H} {p : List MemPlace} {r : Reach} {b0 : Nat}
    (ht : IsBytes P t e) (hc : P.cellsOf e = 1) (hv : Value.okWide P W r b0 t v) (h : DataW.Trod enc P W base spare held t v d p) :
    ∃ A n c l, v = .slice A n c ∧ n = l.length ∧ n ≤ maxLen ∧ Byt W W.heap.size A l := by
  obtain ⟨A, n, c, rfl⟩ := okWide_slice ht.1 hv
  obtain ⟨fuel, hf⟩ := h
  rcases open_ints ht.1 ht.2.1 hc hf with ⟨hcs, _⟩ | ⟨x, n', c', zs, hcs, _, hl, hm, hz, _, hcell, hwz⟩
  · simp [Value.cells] at hcs
    obtain ⟨rfl, rfl, rfl⟩ := hcs
    exact ⟨none, 0, 0, [], rfl, rfl, Nat.zero_le _, Byt.nil⟩
  · simp [Value.cells] at hcs
    obtain ⟨rfl, rfl, rfl⟩ := hcs
    have hlen : n ≤ zs.length := by rw [hz]; split <;> omega
    refine ⟨some x, n, c, (zs.take n).map fun z => UInt8.ofNat z.toNat, rfl, by simp; omega, by omega, fun hpos => ?_⟩
    simp at hpos
    obtain ⟨b, off, spot⟩ := x
    have hc0 := hcell 0 (by omega)
    have hspot : spot = none := by simpa [Addr.add] using World.cell?_spot hc0
    subst hspot
    refine ⟨b, off, rfl, ?_, fun j x hx => ?_⟩
    · have := block_lt_of_cell hc0
      simpa [Addr.add] using this
    · rw [List.getElem?_map] at hx
      rcases hj : (zs.take n)[j]? with _ | z
      · rw [hj] at hx; cases hx
      · rw [hj] at hx
        injection hx with hx
        have hjn : j < n := by
          have := (List.getElem?_eq_some_iff.1 hj).1
          simp at this; omega
        rw [List.getElem?_take_of_lt hjn] at hj
        have hjz := (List.getElem?_eq_some_iff.1 hj).1
        have hcj := hcell j hjz
        rw [Addr.add_lit] at hcj
        have hg : zs.getD j 0 = z := by simp [List.getD, hj]
        rw [hcj, hg, ← hx, u8_of_wf (hwz z (List.mem_of_getElem? hj))]
end Kin
namespace Kin
open Go Go.RowKit Go.ChangeShapes Go.WideShapes Go.Deep Go.ChangeAt

/-- the slice at A reads as the values xs, and lies below block B -/
def Vals (w : World) (B : Nat) (A : Option Addr) (xs : List Value) : Prop :=
  0 < xs.length → ∃ b off, A = some ⟨b, off, none⟩ ∧ b < B ∧ ∀ j v, xs[j]? = some v → w.cell? ⟨b, off + j, none⟩ = some v
section
variable {w w' : World} {B : Nat} {A : Option Addr} {xs : List Value}

theorem Vals.keep (h : Vals w B A xs) (hk : ∀ p : Addr, p.block < B → w'.cell? p = w.cell? p) : Vals w' B A xs := fun hl => by
  obtain ⟨b, off, e, hb, hc⟩ := h hl
  exact ⟨b, off, e, hb, fun j x hx => (hk ⟨b, off + j, none⟩ hb).trans (hc j x hx)⟩
theorem Vals.below (h : Vals w B A xs) (hb : Below B w w') : Vals w' B A xs := h.keep fun _ hp => hb.cell hp
theorem Vals.at_ (h : Vals w B A xs) {k : Nat} (hk : k < xs.length) : ∃ b off, A = some ⟨b, off, none⟩ ∧ b < B ∧ w.cell? ⟨b, off + k, none⟩ = some xs[k] := by
  obtain ⟨b, off, e, hb, hc⟩ := h (by omega)
  exact ⟨b, off, e, hb, hc k _ (List.getElem?_eq_getElem hk)⟩
end

section
variable {H : Type} {enc : TypeId × Value → H} {P : Program} {w : World} {base : Nat} {spare : Nat → Bool} {held : Bool}

theorem vals_open {t e : TypeId} {v : Value} {d : DataW H} {p : List MemPlace} {r : Reach} {b0 : Nat} (R : Value → Prop)
    (ht : P.underlying t = some (.slice e)) (hC : P.cellsOf e = 1) (hR : ∀ (v : Value) (n : Nat) (y : DataW H × List MemPlace), DataW.trod enc P w base spare held n e [v] = some y → R v)
    (hv : Value.okWide P w r b0 t v) (h : DataW.Trod enc P w base spare held t v d p) :
    ∃ A n c xs, v = .slice A n c ∧ n = xs.length ∧ n ≤ maxLen ∧ Vals w w.heap.size A xs ∧ ∀ x ∈ xs, R x := by
  obtain ⟨A, n, c, rfl⟩ := okWide_slice ht hv
  obtain ⟨fuel, hf⟩ := h
  rcases open_slice ht hf with ⟨hcs, _⟩ | ⟨a, n', c', m, k, D, Pl, hcs, hb, hl, hm, hmm, hx, hi⟩
  · simp [Value.cells] at hcs
    obtain ⟨rfl, rfl, rfl⟩ := hcs
    exact ⟨none, 0, 0, [], rfl, rfl, Nat.zero_le _, fun h => absurd h (by simp), fun _ h => by cases h⟩
  · simp [Value.cells] at hcs
    obtain ⟨rfl, rfl, rfl⟩ := hcs
    have hnm : n ≤ m := by rw [hmm]; split <;> omega
    have cellAt : ∀ i, i < n → ∃ v y, w.cell? (a.add i) = some v ∧ DataW.trod enc P w base spare held k e [v] = some y := by
      intro i hin
      obtain ⟨cs', hc, ht'⟩ := hi i (by omega)
      rw [hC] at hc
      obtain ⟨_, hcl, hat⟩ := World.cells?_some hc
      match cs', hcl with
      | [v], _ =>
        have := hat 0 (by omega)
        rw [Go.Deep.add_add] at this
        exact ⟨v, _, by simpa using this, ht'⟩
    let f := fun i : Nat => (w.cell? (a.add i)).getD undef
    obtain ⟨b, off, spot⟩ := a
    refine ⟨some ⟨b, off, spot⟩, n, c, (List.range n).map f, rfl, by simp, by omega, fun hp => ?_, ?_⟩
    · have hn0 : 0 < n := by simpa using hp
      obtain ⟨v0, y0, hv0, _⟩ := cellAt 0 hn0
      have hspot : spot = none := by simpa [Addr.add] using World.cell?_spot hv0
      subst hspot
      refine ⟨b, off, rfl, ?_, fun j v hj => ?_⟩
      · have := block_lt_of_cell hv0
        simpa [Addr.add] using this
      · have hjn : j < n := by
          rcases Nat.lt_or_ge j n with h | h
          · exact h
          · rw [List.getElem?_eq_none (by simpa using h)] at hj; cases hj
        obtain ⟨v', y', hv', _⟩ := cellAt j hjn
        simp only [f, List.getElem?_map, List.getElem?_range hjn, Option.map_some] at hj
        injection hj with hj
        rw [hv', Option.getD_some] at hj
        subst hj
        rw [Addr.add_lit] at hv'
        exact hv'
    · intro x hx
      obtain ⟨i, hi', rfl⟩ := List.mem_map.1 hx
      obtain ⟨v, y, hv, hy⟩ := cellAt i (by simpa using hi')
      simp only [f, hv, Option.getD_some]
      exact hR v k y hy
def U64 (v : Value) : Prop := ∃ x : Nat, v = .int .u64 (x : Int) ∧ x < 18446744073709551616
def I64 (v : Value) : Prop := ∃ x : Int, v = .int .i64 x ∧ -9223372036854775808 ≤ x ∧ x ≤ 9223372036854775807
def IsBool (v : Value) : Prop := ∃ b : Bool, v = .bool b
theorem u64s_open {t e : TypeId} {v : Value} {d : DataW H} {p : List MemPlace} {r : Reach} {b0 : Nat} (ht : P.underlying t = some (.slice e)) (hC : P.cellsOf e = 1) (he : P.underlying e = some (.int .u64))
    (hv : Value.okWide P w r b0 t v) (h : DataW.Trod enc P w base spare held t v d p) : ∃ A n c xs, v = .slice A n c ∧ n = xs.length ∧ n ≤ maxLen ∧ Vals w w.heap.size A xs ∧ ∀ x ∈ xs, U64 x :=
  vals_open U64 ht hC (fun v n y hy => by
    obtain ⟨z, e1, _, wf⟩ := DataW.trod_int he hy
    simp only [List.cons.injEq, and_true] at e1
    subst e1
    have ⟨b1, b2⟩ := bounds_u64 wf
    exact ⟨z.toNat, by congr 1; omega, by omega⟩) hv h
theorem i64s_open {t e : TypeId} {v : Value} {d : DataW H} {p : List MemPlace} {r : Reach} {b0 : Nat} (ht : P.underlying t = some (.slice e)) (hC : P.cellsOf e = 1) (he : P.underlying e = some (.int .i64))
    (hv : Value.okWide P w r b0 t v) (h : DataW.Trod enc P w base spare held t v d p) : ∃ A n c xs, v = .slice A n c ∧ n = xs.length ∧ n ≤ maxLen ∧ Vals w w.heap.size A xs ∧ ∀ x ∈ xs, I64 x :=
  vals_open I64 ht hC (fun v n y hy => by
    obtain ⟨z, e1, _, wf⟩ := DataW.trod_int he hy
    simp only [List.cons.injEq, and_true] at e1
    subst e1
    have ⟨b1, b2⟩ := bounds_i64 wf
    exact ⟨z, rfl, by omega, by omega⟩) hv h
theorem bools_open {t e : TypeId} {v : Value} {d : DataW H} {p : List MemPlace} {r : Reach} {b0 : Nat} (ht : P.underlying t = some (.slice e)) (hC : P.cellsOf e = 1) (he : P.underlying e = some .bool)
    (hv : Value.okWide P w r b0 t v) (h : DataW.Trod enc P w base spare held t v d p) : ∃ A n c xs, v = .slice A n c ∧ n = xs.length ∧ n ≤ maxLen ∧ Vals w w.heap.size A xs ∧ ∀ x ∈ xs, IsBool x :=
  vals_open IsBool ht hC (fun v n y hy => by
    obtain ⟨z, e1, _⟩ := DataW.trod_bool he hy
    simp only [List.cons.injEq, and_true] at e1
    subst e1
    exact ⟨z, rfl⟩) hv h
end
end Kin
namespace Kin
open Go Go.RowKit Go.ChangeShapes Go.WideShapes Go.ChangeAt

theorem bytc_trod {H : Type} {enc : TypeId × Value → H} {P : Program} {W : World} {base : Nat} {spare : Nat → Bool} {held : Bool} {t e : TypeId} {v : Value} {fuel : Nat} {x : DataW H × List MemPlace}
    (ht : IsBytes P t e) (hc : P.cellsOf e = 1) (hf : DataW.trod enc P W base spare held fuel t [v] = some x) :
    ∃ A n c l, v = .slice A n c ∧ n = l.length ∧ n ≤ maxLen ∧ n ≤ c ∧ Byt W W.heap.size A l := by
  rcases open_ints ht.1 ht.2.1 hc hf with ⟨hcs, _⟩ | ⟨y, n, c, zs, hcs, _, hl, hm, hz, _, hcell, hwz⟩
  · simp at hcs
    subst hcs
    exact ⟨none, 0, 0, [], rfl, rfl, Nat.zero_le _, Nat.le_refl _, Byt.nil⟩
  · simp at hcs
    subst hcs
    have hlen : n ≤ zs.length := by rw [hz]; split <;> omega
    refine ⟨some y, n, c, (zs.take n).map fun z => UInt8.ofNat z.toNat, rfl, by simp; omega, by omega, hl, fun hpos => ?_⟩
    simp at hpos
    obtain ⟨b, off, spot⟩ := y
    have hc0 := hcell 0 (by omega)
    have hspot : spot = none := by simpa [Addr.add] using World.cell?_spot hc0
    subst hspot
    refine ⟨b, off, rfl, ?_, fun j x hx => ?_⟩
    · have := block_lt_of_cell hc0
      simpa [Addr.add] using this
    · rw [List.getElem?_map] at hx
      rcases hj : (zs.take n)[j]? with _ | z
      · rw [hj] at hx; cases hx
      · rw [hj] at hx
        injection hx with hx
        have hjn : j < n := by
          have := (List.getElem?_eq_some_iff.1 hj).1
          simp at this; omega
        rw [List.getElem?_take_of_lt hjn] at hj
        have hjz := (List.getElem?_eq_some_iff.1 hj).1
        have hcj := hcell j hjz
        rw [Addr.add_lit] at hcj
        have hg : zs.getD j 0 = z := by simp [List.getD, hj]
        rw [hcj, hg, ← hx, u8_of_wf (hwz z (List.mem_of_getElem? hj))]
theorem bytc_open {H : Type} {enc : TypeId × Value → H} {P : Program} {W : World} {base : Nat} {spare : Nat → Bool} {held : Bool} {t e : TypeId} {v : Value} {d : DataW H} {p : List MemPlace} {r : Reach} {b0 : Nat}
    (ht : IsBytes P t e) (hc : P.cellsOf e = 1) (hv : Value.okWide P W r b0 t v) (h : DataW.Trod enc P W base spare held t v d p) :
    ∃ A n c l, v = .slice A n c ∧ n = l.length ∧ n ≤ maxLen ∧ n ≤ c ∧ Byt W W.heap.size A l := by
  obtain ⟨A, n, c, rfl⟩ := okWide_slice ht.1 hv
  obtain ⟨fuel, hf⟩ := h
  exact bytc_trod ht hc hf
end Kin
