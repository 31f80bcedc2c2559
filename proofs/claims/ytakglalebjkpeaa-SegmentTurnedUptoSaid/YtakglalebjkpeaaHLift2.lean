/- From a statement's arguments to what the walks ask: an array of integers by value. No conditions. -/
import Derived.Test.YtakglalebjkpeaaHLift
namespace Kin
open Go Go.RowKit Go.ChangeShapes Go.WideShapes Go.ChangeAt

theorem open_intarr {H : Type} {enc : TypeId × Value → H} {P : Program} {W : World} {base : Nat} {spare : Nat → Bool} {held : Bool} {t e : TypeId} {q : IntKind} {k : Nat} {v : Value} {d : DataW H} {p : List MemPlace} {r : Reach} {b0 : Nat}
    (ht : P.underlying t = some (.array k e)) (he : P.underlying e = some (.int q)) (hc : P.cellsOf e = 1) (hct : P.cellsOf t = k) (hv : Value.okWide P W r b0 t v) (h : DataW.Trod enc P W base spare held t v d p) :
    ∃ zs : List Int, zs.length = k ∧ v = .agg (zs.map (Value.int q)).toArray ∧ ∀ z ∈ zs, (Lit.int q z).wf = true := by
  obtain ⟨cs, rfl, hsz⟩ : ∃ cs, v = .agg cs ∧ cs.size = P.cellsOf t := by
    simp only [Value.okWide, ht] at hv
    obtain ⟨cs, h1, h2, _⟩ := hv
    exact ⟨cs, h1, h2⟩
  obtain ⟨fuel, hf⟩ := h
  obtain ⟨xs, m, rfl, hx, hlen, hl, hel⟩ := DataW.trod_array ht hf
  obtain ⟨l⟩ := cs
  rw [hct] at hsz
  have hsz : l.length = k := by simpa using hsz
  have hi : ∀ i : Nat, i < k → ∃ z, l[i]? = some (.int q z) ∧ (Lit.int q z).wf = true := by
    intro i hi
    have h1 := hel i hi
    have hxi : i < xs.length := by omega
    rw [List.getElem?_eq_getElem hxi, hc] at h1
    obtain ⟨z, e, _, wf⟩ := DataW.trod_int he h1
    refine ⟨z, ?_, wf⟩
    have : (List.take 1 (List.drop (i * 1) (Value.agg ⟨l⟩).cells.toList))[0]? = some (.int q z) := by rw [e]; rfl
    simpa [Value.cells] using this
  refine ⟨l.map fun v => match v with | .int _ z => z | _ => 0, by simpa using hsz, ?_, ?_⟩
  · congr 1
    apply congrArg List.toArray
    apply List.ext_getElem?
    intro i
    by_cases hik : i < k
    · obtain ⟨z, hz, _⟩ := hi i hik
      simp [hz]
    · rw [List.getElem?_eq_none (by omega), List.getElem?_eq_none (by simp; omega)]
  · intro z hz
    obtain ⟨v, hv, rfl⟩ := List.mem_map.1 hz
    obtain ⟨i, hi', he'⟩ := List.getElem_of_mem hv
    obtain ⟨z, hz', wf⟩ := hi i (by omega)
    rw [List.getElem?_eq_getElem hi', he'] at hz'
    injection hz' with hz'
    subst hz'
    exact wf

theorem list_two {l : List Int} (h : l.length = 2) : ∃ a b, l = [a, b] := by
  match l, h with
  | [a, b], _ => exact ⟨a, b, rfl⟩
end Kin
