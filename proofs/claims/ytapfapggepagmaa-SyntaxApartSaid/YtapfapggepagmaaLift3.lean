/- From a statement's arguments to what the walks ask: an array of two sequences by value. No conditions. -/
import Derived.Test.YtapfapggepagmaaLift
import Derived.Test.YtapfapggepagmaaSynWalks
import Derived.Deep.Slices
import Derived.Deep.Fields
namespace Go.Proofs.Ytapfapggepagmaa
open Go.RowKit Kin Go.ChangeShapes Go.WideShapes Go.ChangeAt Go.Deep

theorem open_three {H : Type} {enc : TypeId × Value → H} {w : World} {base : Nat} {spare : Nat → Bool} {held : Bool} {n : Nat} {cs : List Value} {x : DataW H × List MemPlace}
    (h : DataW.trod enc Try.prog w base spare held n 23 cs = some x) : ∃ a b c : Int, cs = [.int .i64 a, .int .i64 b, .int .i64 c] := by
  obtain ⟨ys, m, hm, hy, hlen, hyl, hf⟩ := DataW.trod_struct Try.underlying23 h
  have hone : oneCellFields Try.prog (Try.prog.fieldsOf 23) = true := by kernel_rfl
  have hC : Try.prog.cellsOf 23 = 3 := by kernel_rfl
  rw [hC] at hlen
  match cs, hlen with
  | [p, q, r], _ =>
    have g : ∀ j, j < 3 → ∃ z, [p, q, r][j]? = some (.int .i64 z) := by
      intro j hj
      have hyj : j < ys.length := by rw [hyl]; exact hj
      have key : ∀ (f : Field), (Try.prog.fieldsOf 23)[j]? = some f → f.type = 3 → ∃ z, [p, q, r][j]? = some (.int .i64 z) := by
        intro f hfj hft
        obtain ⟨ho, hk⟩ := hone_of hone j f hfj
        have h1 := hf j f hfj
        rw [ho, hk, List.getElem?_eq_getElem hyj, hft] at h1
        obtain ⟨z, e, _, _⟩ := DataW.trod_int Try.underlying3 h1
        refine ⟨z, ?_⟩
        have : (List.take 1 (List.drop j [p, q, r]))[0]? = some (.int .i64 z) := by rw [e]; rfl
        simpa using this
      have hcase : j = 0 ∨ j = 1 ∨ j = 2 := by omega
      rcases hcase with rfl | rfl | rfl
      · exact key _ rfl rfl
      · exact key _ rfl rfl
      · exact key _ rfl rfl
    obtain ⟨a, ha⟩ := g 0 (by omega)
    obtain ⟨b, hb⟩ := g 1 (by omega)
    obtain ⟨c, hc⟩ := g 2 (by omega)
    simp at ha hb hc
    exact ⟨a, b, c, by rw [ha, hb, hc]⟩

theorem open_two_seqs {H : Type} {enc : TypeId × Value → H} {W : World} {base : Nat} {spare : Nat → Bool} {held : Bool} {v : Value} {d : DataW H} {p : List MemPlace} {r : Reach} {b0 : Nat}
    (hv : Value.okWide Try.prog W r b0 35 v) (h : DataW.Trod enc Try.prog W base spare held 35 v d p) :
    ∃ a b c a' b' c' : Int, v = .agg #[.int .i64 a, .int .i64 b, .int .i64 c, .int .i64 a', .int .i64 b', .int .i64 c'] := by
  have hC : Try.prog.cellsOf 23 = 3 := by kernel_rfl
  have hCt : Try.prog.cellsOf 35 = 6 := by kernel_rfl
  obtain ⟨cs, rfl, hsz⟩ : ∃ cs, v = .agg cs ∧ cs.size = Try.prog.cellsOf 35 := by
    simp only [Value.okWide, Try.underlying35] at hv
    obtain ⟨cs, h1, h2, _⟩ := hv
    exact ⟨cs, h1, h2⟩
  obtain ⟨fuel, hf⟩ := h
  obtain ⟨xs, m, rfl, hx, hlen, hl, hel⟩ := DataW.trod_array Try.underlying35 hf
  obtain ⟨l⟩ := cs
  rw [hCt] at hsz
  have h0 := hel 0 (by omega)
  have h1 := hel 1 (by omega)
  rw [List.getElem?_eq_getElem (by omega), hC] at h0 h1
  obtain ⟨a, b, c, e0⟩ := open_three h0
  obtain ⟨a', b', c', e1⟩ := open_three h1
  match l, hsz with
  | [x0, x1, x2, x3, x4, x5], _ =>
    simp [Value.cells] at e0 e1
    obtain ⟨rfl, rfl, rfl⟩ := e0
    obtain ⟨rfl, rfl, rfl⟩ := e1
    exact ⟨a, b, c, a', b', c', rfl⟩
end Go.Proofs.Ytapfapggepagmaa
