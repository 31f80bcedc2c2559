/- A slice of structs that reads as a list of rows of values. Over any program; no conditions. -/
import Derived.Test.YtbfhpgpceakeiaaGreatDoorApp
import Derived.Deep.Slices
import Derived.Deep.Fields
import Derived.ChangeSame
import Derived.OpenShut
namespace Kin
open Go Go.RowKit Go.ChangeShapes Go.WideShapes Go.Deep

/-- the slice at A reads as the rows xs, each of k cells, and lies below block B -/
def Recs (w : World) (B k : Nat) (A : Option Addr) (xs : List (List Value)) : Prop :=
  0 < xs.length → ∃ b off, A = some ⟨b, off, none⟩ ∧ b < B ∧ ∀ i row, xs[i]? = some row → row.length = k ∧ ∀ j v, row[j]? = some v → w.cell? ⟨b, off + i * k + j, none⟩ = some v

section
variable {w w' : World} {B B' k : Nat} {A : Option Addr} {xs : List (List Value)}

theorem Recs.nil : Recs w B k A [] := fun h => absurd h (by simp)
theorem Recs.keep (h : Recs w B k A xs) (hk : ∀ p : Addr, p.block < B → w'.cell? p = w.cell? p) : Recs w' B k A xs := fun hl => by
  obtain ⟨b, off, e, hb, hc⟩ := h hl
  exact ⟨b, off, e, hb, fun i row hi => ⟨(hc i row hi).1, fun j v hv => (hk ⟨b, _, none⟩ hb).trans ((hc i row hi).2 j v hv)⟩⟩
theorem Recs.below (h : Recs w B k A xs) (hb : Below B w w') : Recs w' B k A xs := h.keep fun _ hp => hb.cell hp
theorem Recs.drew (h : Recs w B k A xs) : Recs w.drew B k A xs := h
theorem Recs.drewN (h : Recs w B k A xs) (n : Nat) : Recs (w.drewN n) B k A xs := h
theorem Recs.at_ (h : Recs w B k A xs) {i : Nat} (hi : i < xs.length) : ∃ b off, A = some ⟨b, off, none⟩ ∧ b < B ∧ (xs[i]).length = k ∧ ∀ j v, (xs[i])[j]? = some v → w.cell? ⟨b, off + i * k + j, none⟩ = some v := by
  obtain ⟨b, off, e, hb, hc⟩ := h (by omega)
  have := hc i _ (List.getElem?_eq_getElem hi)
  exact ⟨b, off, e, hb, this.1, this.2⟩
end

section
variable {H : Type} {enc : TypeId × Value → H} {P : Program} {w : World} {base : Nat} {spare : Nat → Bool} {held : Bool}

theorem open_slice_fields {t e : TypeId} {fs : Array Field} {fuel : Nat} {cs : List Value} {x : DataW H × List MemPlace} (ht : P.underlying t = some (.slice e)) (he : P.underlying e = some (.struct fs))
    (hone : oneCellFields P fs = true) (hC : P.cellsOf e = fs.size) (h : DataW.trod enc P w base spare held fuel t cs = some x) :
    (cs = [.slice none 0 0] ∧ x = (.nil, [])) ∨
    ∃ (a : Addr) (len cap m : Nat), cs = [.slice (some a) len cap] ∧ len ≤ cap ∧ cap ≤ maxLen ∧ len ≤ m ∧
      ∀ i, i < m → ∃ (n : Nat), 
        ∀ (j : Nat) (f : Field), fs[j]? = some f → ∃ (v : Value) (y : DataW H × List MemPlace), w.cell? (a.add (i * fs.size + j)) = some v ∧ DataW.trod enc P w base spare held n f.type [v] = some y := by
  rcases open_slice ht h with h0 | ⟨a, len, cap, m, n, D, Pl, hcs, hb, hl, hm, hmm, hx, hi⟩
  · exact .inl h0
  · refine .inr ⟨a, len, cap, m, hcs, hl, hm, by rw [hmm]; split <;> omega, fun i him => ?_⟩
    obtain ⟨cs', hc, ht'⟩ := hi i him
    rw [hC] at hc
    obtain ⟨ys, n', hn', hy, hlen, hyl, hf⟩ := DataW.trod_struct he ht'
    obtain ⟨_, hcl, hat⟩ := World.cells?_some hc
    refine ⟨n', fun j f hj => ?_⟩
    obtain ⟨ho, hk⟩ := hone_of hone j f hj
    have hjl : j < fs.size := (Array.getElem?_eq_some_iff.1 hj).1
    have hcell := hat j hjl
    have hv : cs'[j]? = some (cs'[j]'(by omega)) := List.getElem?_eq_getElem (by omega)
    have h1 := hf j f hj
    rw [ho, hk] at h1
    have hone' : (cs'.drop j).take 1 = [cs'[j]'(by omega)] := by
      rw [List.drop_eq_getElem_cons (by omega)]
      rfl
    rw [hone'] at h1
    have hys : ys[j]? = some (ys[j]'(by omega)) := List.getElem?_eq_getElem (by omega)
    refine ⟨_, _, ?_, h1.trans hys⟩
    rw [← Go.Deep.add_add, hcell, hv]

/-- a slice of structs that came in reads as rows, if each row of cells that may lie there is one of the kind R -/
theorem recs_open {t e : TypeId} {fs : Array Field} {v : Value} {d : DataW H} {p : List MemPlace} {r : Reach} {b0 : Nat} (R : List Value → Prop)
    (ht : P.underlying t = some (.slice e)) (he : P.underlying e = some (.struct fs)) (hone : oneCellFields P fs = true) (hC : P.cellsOf e = fs.size) (hpos : 0 < fs.size)
    (hR : ∀ row : List Value, row.length = fs.size → (∃ n, ∀ (j : Nat) (f : Field), fs[j]? = some f → ∃ (v : Value) (y : DataW H × List MemPlace), row[j]? = some v ∧ DataW.trod enc P w base spare held n f.type [v] = some y) → R row)
    (hv : Value.okWide P w r b0 t v) (h : DataW.Trod enc P w base spare held t v d p) :
    ∃ A n c xs, v = .slice A n c ∧ n = xs.length ∧ n ≤ maxLen ∧ Recs w w.heap.size fs.size A xs ∧ ∀ row ∈ xs, R row := by
  obtain ⟨A, n, c, rfl⟩ := okWide_slice ht hv
  obtain ⟨fuel, hf⟩ := h
  rcases open_slice_fields ht he hone hC hf with ⟨hcs, _⟩ | ⟨a, n', c', m, hcs, hl, hm, hnm, hi⟩
  · simp [Value.cells] at hcs
    obtain ⟨rfl, rfl, rfl⟩ := hcs
    exact ⟨none, 0, 0, [], rfl, rfl, Nat.zero_le _, Recs.nil, fun _ h => by cases h⟩
  · simp [Value.cells] at hcs
    obtain ⟨rfl, rfl, rfl⟩ := hcs
    obtain ⟨b, off, spot⟩ := a
    have cellAt : ∀ i, i < n → ∀ j, j < fs.size → ∃ v, w.cell? ((⟨b, off, spot⟩ : Addr).add (i * fs.size + j)) = some v := by
      intro i hin j hj
      obtain ⟨k, hk⟩ := hi i (by omega)
      obtain ⟨v, y, hc, _⟩ := hk j fs[j] (Array.getElem?_eq_getElem hj)
      exact ⟨v, hc⟩
    let row := fun i : Nat => (List.range fs.size).map fun j => (w.cell? ((⟨b, off, spot⟩ : Addr).add (i * fs.size + j))).getD undef
    refine ⟨some ⟨b, off, spot⟩, n, c, (List.range n).map row, rfl, by simp, by omega, fun hp => ?_, ?_⟩
    · have hn0 : 0 < n := by simpa using hp
      obtain ⟨v0, hv0⟩ := cellAt 0 hn0 0 hpos
      have hspot : spot = none := by simpa [Addr.add] using World.cell?_spot hv0
      subst hspot
      refine ⟨b, off, rfl, ?_, fun i rw_ hrow => ?_⟩
      · have := block_lt_of_cell hv0
        simpa [Addr.add] using this
      · have hin : i < n := by
          rcases Nat.lt_or_ge i n with h | h
          · exact h
          · rw [List.getElem?_eq_none (by simpa using h)] at hrow; cases hrow
        rw [List.getElem?_map, List.getElem?_range hin] at hrow
        injection hrow with hrow
        subst hrow
        refine ⟨by simp [row], fun j v hj => ?_⟩
        have hjn : j < fs.size := by
          rcases Nat.lt_or_ge j fs.size with h | h
          · exact h
          · rw [List.getElem?_eq_none (by simpa [row] using h)] at hj; cases hj
        obtain ⟨v', hv'⟩ := cellAt i hin j hjn
        simp only [row, List.getElem?_map, List.getElem?_range hjn, Option.map_some] at hj
        injection hj with hj
        rw [hv', Option.getD_some] at hj
        subst hj
        rw [Addr.add_lit] at hv'
        rw [Nat.add_assoc]
        exact hv'
    · intro rw_ hrow
      obtain ⟨i, hi', rfl⟩ := List.mem_map.1 hrow
      have hin : i < n := by simpa using hi'
      refine hR _ (by simp [row]) ?_
      obtain ⟨k, hk⟩ := hi i (by omega)
      refine ⟨k, fun j f hj => ?_⟩
      obtain ⟨v, y, hc, hy⟩ := hk j f hj
      have hjl : j < fs.size := (Array.getElem?_eq_some_iff.1 hj).1
      refine ⟨v, y, ?_, hy⟩
      simp only [row, List.getElem?_map, List.getElem?_range hjl, Option.map_some, hc, Option.getD_some]
end
end Kin
