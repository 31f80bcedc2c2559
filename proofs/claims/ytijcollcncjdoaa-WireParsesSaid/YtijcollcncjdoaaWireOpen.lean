/- From a statement's arguments to what the walks ask: a request and a response by value; and where they lie. No conditions. -/
import Derived.Test.YtijcollcncjdoaaLift
import Derived.Test.YtijcollcncjdoaaBytC
import Derived.Test.YtijcollcncjdoaaLaw20Alive
import Derived.Lib.SmallJoins
import Derived.Deep.Slices
import Derived.Deep.Fields
namespace Go.Proofs.Ytijcollcncjdoaa
open Go.RowKit Kin Go.ChangeShapes Go.WideShapes Go.ChangeAt Go.Deep

theorem req_open {H : Type} {enc : TypeId × Value → H} {w : World} {base : Nat} {spare : Nat → Bool} {held : Bool} {v : Value} {d : DataW H} {p : List MemPlace} {r : Reach} {b0 : Nat}
    (hv : Value.okWide Try.prog w r b0 23 v) (h : DataW.Trod enc Try.prog w base spare held 23 v d p) :
    ∃ (id : Int) (s : ByteArray) (fr to : Int), v = reqV id s fr to ∧ s.size ≤ maxLen := by
  obtain ⟨x0, x1, x2, x3, y0, y1, y2, y3, m, rfl, _, _, h0, h1, h2, h3⟩ := Joins.open_agg4 Try.underlying23 (by kernel_rfl) (by kernel_rfl) hv h
  obtain ⟨a0, e0, _, _⟩ := DataW.trod_int Try.underlying3 h0
  obtain ⟨s, e1, _, hs⟩ := DataW.trod_string Try.underlying9 h1
  obtain ⟨a2, e2, _, _⟩ := DataW.trod_int Try.underlying3 h2
  obtain ⟨a3, e3, _, _⟩ := DataW.trod_int Try.underlying3 h3
  simp only [List.cons.injEq, and_true] at e0 e1 e2 e3
  subst e0 e1 e2 e3
  exact ⟨a0, s, a2, a3, rfl, hs⟩
set_option maxRecDepth 100000 in
theorem res_open {H : Type} {enc : TypeId × Value → H} {w : World} {base : Nat} {spare : Nat → Bool} {held : Bool} {v : Value} {d : DataW H} {p : List MemPlace} {r : Reach} {b0 : Nat}
    (hv : Value.okWide Try.prog w r b0 27 v) (h : DataW.Trod enc Try.prog w base spare held 27 v d p) :
    ∃ (id st fr sz : Int) (A : Option Addr) (n c : Nat) (l : List UInt8), v = resV id st fr sz A n c ∧ n = l.length ∧ n ≤ maxLen ∧ n ≤ c ∧ Byt w w.heap.size A l := by
  have hone : oneCellFields Try.prog (Try.prog.fieldsOf 27) = true := by kernel_rfl
  have hC : Try.prog.cellsOf 27 = 5 := by kernel_rfl
  obtain ⟨cs, rfl, hsz⟩ := okWide_struct Try.underlying27 hv
  obtain ⟨fuel, hf0⟩ := h
  obtain ⟨ys, m, hm, hy, hlen, hyl, hf⟩ := DataW.trod_struct Try.underlying27 hf0
  obtain ⟨l⟩ := cs
  rw [hC] at hsz
  match l, hsz with
  | [x0, x1, x2, x3, x4], _ =>
    have key : ∀ j (f : Field) v, (Try.prog.fieldsOf 27)[j]? = some f → [x0, x1, x2, x3, x4][j]? = some v → j < 5 → ∃ y, DataW.trod enc Try.prog w base spare held m f.type [v] = some y := by
      intro j f v hfj hj h5
      have hyj : j < ys.length := by rw [hyl]; exact h5
      obtain ⟨ho, hk⟩ := hone_of hone j f hfj
      have h1 := hf j f hfj
      rw [ho, hk, List.getElem?_eq_getElem hyj] at h1
      have e : List.take 1 (List.drop j (Value.agg #[x0, x1, x2, x3, x4]).cells.toList) = [v] := by
        have e2 : (Value.agg #[x0, x1, x2, x3, x4]).cells.toList = [x0, x1, x2, x3, x4] := rfl
        rw [e2]
        obtain ⟨hl, he⟩ := List.getElem?_eq_some_iff.1 hj
        rw [List.drop_eq_getElem_cons hl, List.take_succ_cons, List.take_zero, he]
      rw [e] at h1
      exact ⟨_, h1⟩
    obtain ⟨y0, h0⟩ := key 0 _ _ rfl rfl (by omega)
    obtain ⟨y1, h1⟩ := key 1 _ _ rfl rfl (by omega)
    obtain ⟨y2, h2⟩ := key 2 _ _ rfl rfl (by omega)
    obtain ⟨y3, h3⟩ := key 3 _ _ rfl rfl (by omega)
    obtain ⟨y4, h4⟩ := key 4 _ _ rfl rfl (by omega)
    obtain ⟨a0, e0, _, _⟩ := DataW.trod_int Try.underlying3 h0
    obtain ⟨a1, e1, _, _⟩ := DataW.trod_int Try.underlying24 h1
    obtain ⟨a2, e2, _, _⟩ := DataW.trod_int Try.underlying3 h2
    obtain ⟨a3, e3, _, _⟩ := DataW.trod_int Try.underlying3 h3
    obtain ⟨A, n, c, l, e4, g1, g2, g3, g4⟩ := bytc_trod bytesT (by kernel_rfl) h4
    simp only [List.cons.injEq, and_true] at e0 e1 e2 e3
    subst e0 e1 e2 e3 e4
    exact ⟨a0, a1, a2, a3, A, n, c, l, rfl, g1, g2, g3, g4⟩

/-- the world with the two arguments boxed -/
abbrev boxed (w : World) (id : Int) (p : ByteArray) (fr to id' st fr' sz : Int) (A : Option Addr) (n c : Nat) : World :=
  (w.alloc (.cells #[.int .i64 id, .string p, .int .i64 fr, .int .i64 to] 23)).alloc (.cells #[.int .i64 id', .int .i64 st, .int .i64 fr', .int .i64 sz, .slice A n c] 27)
theorem boxed_two (w : World) (id : Int) (p : ByteArray) (fr to id' st fr' sz : Int) (A : Option Addr) (n c : Nat) :
    Blk (boxed w id p fr to id' st fr' sz A n c) w.heap.size 23 #[.int .i64 id, .string p, .int .i64 fr, .int .i64 to] ∧ Blk (boxed w id p fr to id' st fr' sz A n c) (w.heap.size + 1) 27 #[.int .i64 id', .int .i64 st, .int .i64 fr', .int .i64 sz, .slice A n c] ∧ Below w.heap.size w (boxed w id p fr to id' st fr' sz A n c) := by
  have n1 := Blk.new w 23 #[.int .i64 id, .string p, .int .i64 fr, .int .i64 to]
  have n2 := Blk.new (w.alloc (.cells #[.int .i64 id, .string p, .int .i64 fr, .int .i64 to] 23)) 27 #[.int .i64 id', .int .i64 st, .int .i64 fr', .int .i64 sz, .slice A n c]
  have s1 : (w.alloc (.cells #[.int .i64 id, .string p, .int .i64 fr, .int .i64 to] 23)).heap.size = w.heap.size + 1 := World.size_alloc _ _
  rw [s1] at n2
  exact ⟨n1.alloc _, n2, ((Below.refl _ _).alloc (Nat.le_refl _) _).alloc (by rw [s1]; omega) _⟩
theorem tl_ne {t k : ByteArray} (h : ¬ t = k) : (t.toList == k.toList) = false := by
  rw [Bool.eq_false_iff]
  intro e
  apply h
  have := beq_iff_eq.1 e
  rw [Lib.toList_data, Lib.toList_data] at this
  cases t; cases k
  simpa using this
end Go.Proofs.Ytijcollcncjdoaa
