/- Texts of this claim in one: HArgs. What each proves, and on what conditions, its own words say. -/
import Derived.Test.YtbfhpgpceakeiaaGreatDoorConP11
import Derived.Test.YtbfhpgpceakeiaaGreatDoorHLaw
import Derived.Test.YtbfhpgpceakeiaaGreatDoorHPlain
import Derived.Test.YtbfhpgpceakeiaaGreatDoorHWire
import Derived.Lib.SmallJoins
import Derived.Deep.Slices
import Derived.Deep.Fields
import Derived.Test.YtbfhpgpceakeiaaGreatDoorRows
import Derived.Lib.LaidU8
namespace Go.Proofs.YtbfhpgpceakeiaaGreatDoor.Tw
open Kex Kex.Sh Go Go.Proofs Go.RowKit Kin

def GA : Fac := SF.den (fun _ => 0) (.ro (.k 1) (is [0, 0, 0, 0, 8, 0, 0, 0, 8, 0, 8, 8, 1, 0, 0, 2, 0, 0] []))
def GB : Fac := SF.den (fun _ => 0) (.ro (.k 0) ([1, 10, 100, 1000, 10000, 100000, 1000000, 10000000, 100000000, 1000000000, 10000000000, 100000000000, 1000000000000, 10000000000000, 100000000000000, 1000000000000000, 10000000000000000, 100000000000000000, 1000000000000000000, 10000000000000000000].map (w .u64)))
theorem awake_ok : AwakeOK GA GB := fun w h => by
  have hg := g3874.1 (fun _ => 0) w h
  refine Calls.mono hg ?_
  rintro e w' ⟨ρ', rfl, _, hp⟩
  exact ⟨rfl, hp.below rfl⟩
end Go.Proofs.YtbfhpgpceakeiaaGreatDoor.Tw
namespace Go.Proofs.YtbfhpgpceakeiaaGreatDoor.Tw
open Go Go.Proofs Go.RowKit Kin Go.ChangeShapes Go.WideShapes Go.ChangeAt Go.Deep Go.Proofs.YtbfhpgpceakeiaaGreatDoor Go.Proofs.YtbfhpgpceakeiaaGreatDoor.C20

set_option maxRecDepth 100000 in
theorem req_open {H : Type} {enc : TypeId × Value → H} {w : World} {base : Nat} {spare : Nat → Bool} {held : Bool} {v : Value} {d : DataW H} {p : List MemPlace} {r : Reach} {b0 : Nat}
    (hv : Value.okWide Tryz.prog w r b0 27 v) (h : DataW.Trod enc Tryz.prog w base spare held 27 v d p) :
    ∃ (id : Int) (s : ByteArray) (fr to : Int), v = reqV id s fr to ∧ s.size ≤ maxLen := by
  obtain ⟨x0, x1, x2, x3, y0, y1, y2, y3, m, rfl, _, _, h0, h1, h2, h3⟩ := Joins.open_agg4 Tryz.underlying27 (by kernel_rfl) (by kernel_rfl) hv h
  obtain ⟨a0, e0, _, _⟩ := DataW.trod_int Tryz.underlying3 h0
  obtain ⟨s, e1, _, hs⟩ := DataW.trod_string Tryz.underlying9 h1
  obtain ⟨a2, e2, _, _⟩ := DataW.trod_int Tryz.underlying3 h2
  obtain ⟨a3, e3, _, _⟩ := DataW.trod_int Tryz.underlying3 h3
  simp only [List.cons.injEq, and_true] at e0 e1 e2 e3
  subst e0 e1 e2 e3
  exact ⟨a0, s, a2, a3, rfl, hs⟩
set_option maxRecDepth 100000 in
theorem res_open {H : Type} {enc : TypeId × Value → H} {w : World} {base : Nat} {spare : Nat → Bool} {held : Bool} {v : Value} {d : DataW H} {p : List MemPlace} {r : Reach} {b0 : Nat}
    (hv : Value.okWide Tryz.prog w r b0 25 v) (h : DataW.Trod enc Tryz.prog w base spare held 25 v d p) :
    ∃ (id st fr sz : Int) (A : Option Addr) (n c : Nat) (l : List UInt8), v = resV id st fr sz A n c ∧ n = l.length ∧ n ≤ maxLen ∧ n ≤ c ∧ Byt w w.heap.size A l := by
  have hone : oneCellFields Tryz.prog (Tryz.prog.fieldsOf 25) = true := by kernel_rfl
  have hC : Tryz.prog.cellsOf 25 = 5 := by kernel_rfl
  obtain ⟨cs, rfl, hsz⟩ := okWide_struct Tryz.underlying25 hv
  obtain ⟨fuel, hf0⟩ := h
  obtain ⟨ys, m, hm, hy, hlen, hyl, hf⟩ := DataW.trod_struct Tryz.underlying25 hf0
  obtain ⟨l⟩ := cs
  rw [hC] at hsz
  match l, hsz with
  | [x0, x1, x2, x3, x4], _ =>
    have key : ∀ j (f : Field) v, (Tryz.prog.fieldsOf 25)[j]? = some f → [x0, x1, x2, x3, x4][j]? = some v → j < 5 → ∃ y, DataW.trod enc Tryz.prog w base spare held m f.type [v] = some y := by
      intro j f v hfj hj h5
      have hyj : j < ys.length := by rw [hyl]; exact h5
      obtain ⟨ho, hk⟩ := hone_of hone j f hfj
      have h1 := hf j f hfj
      rw [ho, hk, List.getElem?_eq_getElem hyj] at h1
      have e : List.take 1 (List.drop j (Value.agg #[x0, x1, x2, x3, x4]).cells.toList) = [v] := by
        have e2 : (Value.agg #[x0, x1, x2, x3, x4]).cells.toList = [x0, x1, x2, x3, x4] := rfl
        rw [e2]
        obtain ⟨hl, he⟩ := List.getElem?_eq_some_iff.1 hj
        rw [List.drop_eq_getElem_cons hl, List.take_succ_cons, List.take_zero, he]
      rw [e] at h1
      exact ⟨_, h1⟩
    obtain ⟨y0, h0⟩ := key 0 _ _ rfl rfl (by omega)
    obtain ⟨y1, h1⟩ := key 1 _ _ rfl rfl (by omega)
    obtain ⟨y2, h2⟩ := key 2 _ _ rfl rfl (by omega)
    obtain ⟨y3, h3⟩ := key 3 _ _ rfl rfl (by omega)
    obtain ⟨y4, h4⟩ := key 4 _ _ rfl rfl (by omega)
    obtain ⟨a0, e0, _, _⟩ := DataW.trod_int Tryz.underlying3 h0
    obtain ⟨a1, e1, _, _⟩ := DataW.trod_int Tryz.underlying22 h1
    obtain ⟨a2, e2, _, _⟩ := DataW.trod_int Tryz.underlying3 h2
    obtain ⟨a3, e3, _, _⟩ := DataW.trod_int Tryz.underlying3 h3
    obtain ⟨A, n, c, l, e4, g1, g2, g3, g4⟩ := bytc_trod bytesT (by kernel_rfl) h4
    simp only [List.cons.injEq, and_true] at e0 e1 e2 e3
    subst e0 e1 e2 e3 e4
    exact ⟨a0, a1, a2, a3, A, n, c, l, rfl, g1, g2, g3, g4⟩
set_option maxRecDepth 100000 in
theorem fate_open {H : Type} {enc : TypeId × Value → H} {w : World} {base : Nat} {spare : Nat → Bool} {held : Bool} {v : Value} {d : DataW H} {p : List MemPlace} {r : Reach} {b0 : Nat}
    (hv : Value.okWide Tryz.prog w r b0 29 v) (h : DataW.Trod enc Tryz.prog w base spare held 29 v d p) :
    ∃ (K D N : Int), v = .agg #[.int .i64 K, .int .i64 D, .int .i64 N] ∧ (-9223372036854775808 ≤ N ∧ N ≤ 9223372036854775807) := by
  obtain ⟨x0, x1, x2, y0, y1, y2, m, rfl, _, _, h0, h1, h2⟩ := Joins.open_agg3 Tryz.underlying29 (by kernel_rfl) (by kernel_rfl) hv h
  obtain ⟨a0, e0, _, _⟩ := DataW.trod_int Tryz.underlying3 h0
  obtain ⟨a1, e1, _, _⟩ := DataW.trod_int Tryz.underlying3 h1
  obtain ⟨a2, e2, _, hw⟩ := DataW.trod_int Tryz.underlying3 h2
  simp only [List.cons.injEq, and_true] at e0 e1 e2
  subst e0 e1 e2
  refine ⟨a0, a1, a2, rfl, ?_⟩
  have hw : IntKind.min .i64 ≤ a2 ∧ a2 ≤ IntKind.max .i64 := by simpa [Lit.wf] using hw
  simpa [IntKind.min, IntKind.max, IntKind.signed, IntKind.bits] using hw
-- the two tables
theorem cell_lt {w : World} {g j : Nat} {v : Value} (h : w.cell? ⟨g, j, none⟩ = some v) : g < w.heap.size := by
  rcases Nat.lt_or_ge g w.heap.size with e | e
  · exact e
  · unfold World.cell? at h
    simp [Array.getElem?_eq_none e] at h
theorem gb_of {W : World} {nm : String} (hgn : Tryz.prog.globalNamed nm = some 0) (h : Lib.VarReads Tryz.prog W nm Rows.laid_internal_strconv_uint64pow10) : GB.say W := by
  obtain ⟨g, t, cs, fuel, p, hg, ht, hv, hd⟩ := h
  obtain rfl := Option.some.inj (hgn.symm.trans hg)
  obtain rfl := Option.some.inj ((show (Tryz.prog.globals[0]?).map (·.type) = some 372 by kernel_rfl).symm.trans ht)
  have hc := Lib.cells_of_tab (k := .u64) (zs := [1, 10, 100, 1000, 10000, 100000, 1000000, 10000000, 100000000, 1000000000, 10000000000, 100000000000, 1000000000000, 10000000000000, 100000000000000, 1000000000000000, 10000000000000000, 100000000000000000, 1000000000000000000, 10000000000000000000]) (show Tryz.prog.underlying 372 = some (.array 20 122) by kernel_rfl) (show Tryz.prog.underlying 122 = some (.int .u64) by kernel_rfl) (by kernel_rfl) (by kernel_rfl) hd
  have key : ∀ (j : Nat) (v : Value), (Kex.dens (fun _ => 0) ([1, 10, 100, 1000, 10000, 100000, 1000000, 10000000, 100000000, 1000000000, 10000000000, 100000000000, 1000000000000, 10000000000000, 100000000000000, 1000000000000000, 10000000000000000, 100000000000000000, 1000000000000000000, 10000000000000000000].map (Kex.Sh.w .u64)))[j]? = some v → W.cell? ⟨0, j, none⟩ = some v := fun j v hj => by
    rw [World.var?_cell hg hv j, ← Array.getElem?_toList, hc]
    exact hj
  exact ⟨cell_lt (key 0 _ rfl), key⟩
def zsP : List (List Int) := [[0, 0, 0], [0, 8, 0], [0, 0, 8], [0, 8, 8], [1, 0, 0], [2, 0, 0]]
def fldOk (P : Program) (j : Nat) (f : Field) : Bool := (match P.underlying f.type with
  | some (.int .i64) => true
  | _ => false) && (f.offset == j) && (P.cellsOf f.type == 1)
theorem flds : ((List.range 3).all fun j => match (Tryz.prog.fieldsOf 318)[j]? with
  | some f => fldOk Tryz.prog j f
  | none => false) = true := by kernel_rfl
set_option maxRecDepth 100000 in
theorem ga_of {W : World} {nm : String} (hgn : Tryz.prog.globalNamed nm = some 1) (h : Lib.VarReads Tryz.prog W nm Rows.laid_kinora_encoder_places) : GA.say W := by
  obtain ⟨g, t, cs, fuel, p, hg, ht, hv, hd⟩ := h
  obtain rfl := Option.some.inj (hgn.symm.trans hg)
  obtain rfl := Option.some.inj ((show (Tryz.prog.globals[1]?).map (·.type) = some 319 by kernel_rfl).symm.trans ht)
  obtain ⟨xs, m, _, ex, _, hl, hel⟩ := DataW.trod_array (show Tryz.prog.underlying 319 = some (.array 6 318) by kernel_rfl) hd
  have c3 : Tryz.prog.cellsOf 318 = 3 := by kernel_rfl
  have hx : xs.map (·.1) = zsP.map fun zs => (DataW.agg (zs.map fun z => .lit (.int .i64 z)) : DataW Unit) := (DataW.agg.inj (Prod.mk.inj ex).1).symm
  have hu : Tryz.prog.underlying 318 = some (.struct (Tryz.prog.fieldsOf 318)) := by kernel_rfl
  have hch : ∀ i, i < 6 → ∃ zs, zsP[i]? = some zs ∧ (cs.toList.drop (i * 3)).take 3 = zs.map (Value.int .i64) := fun i hi => by
    have hE := hel i hi
    rw [c3, List.getElem?_eq_getElem (by omega)] at hE
    have h1 : (xs.map (·.1))[i]? = some (xs[i]'(by omega)).1 := by rw [List.getElem?_map, List.getElem?_eq_getElem (by omega)]; rfl
    rw [hx, List.getElem?_map] at h1
    obtain ⟨zs, hz, e⟩ := Option.map_eq_some_iff.1 h1
    refine ⟨zs, hz, ?_⟩
    generalize xs[i]'(by omega) = xx at hE e
    obtain ⟨x1, x2⟩ := xx
    have e : (DataW.agg (zs.map fun z => .lit (.int .i64 z)) : DataW Unit) = x1 := e
    subst e
    exact Lib.ints_of_struct hu (fun j f hf => by
      have hlt : j < 3 := by
        have h3 : (Tryz.prog.fieldsOf 318).size = 3 := by kernel_rfl
        have := (Array.getElem?_eq_some_iff.1 hf).1
        omega
      have h1 := List.all_eq_true.1 flds j (List.mem_range.2 hlt)
      rw [hf] at h1
      simp only [fldOk, Bool.and_eq_true, beq_iff_eq] at h1
      obtain ⟨⟨h2, h3⟩, h4⟩ := h1
      refine ⟨?_, h3, h4⟩
      split at h2
      · assumption
      · cases h2) (by kernel_rfl) hE
  have hall : ∀ j, j < 18 → cs.toList[j]? = (zsP.flatten.map (Value.int .i64))[j]? := fun j hj => by
    obtain ⟨zs, hz, he⟩ := hch (j / 3) (by omega)
    have h2 := congrArg (·[j % 3]?) he
    have hm : j % 3 < 3 := Nat.mod_lt _ (by omega)
    simp only [List.getElem?_take_of_lt hm, List.getElem?_drop, show j / 3 * 3 + j % 3 = j by omega, List.getElem?_map] at h2
    have hd : ∀ j : Fin 18, (zsP[j.val / 3]?).bind (fun zs => zs[j.val % 3]?) = zsP.flatten[j.val]? := by decide
    have := hd ⟨j, hj⟩
    simp only [hz, Option.bind_some] at this
    rw [h2, this, List.getElem?_map]
  have key : ∀ (j : Nat) (v : Value), (Kex.dens (fun _ => 0) (Kex.Sh.is [0, 0, 0, 0, 8, 0, 0, 0, 8, 0, 8, 8, 1, 0, 0, 2, 0, 0] []))[j]? = some v → W.cell? ⟨1, j, none⟩ = some v := fun j v hj => by
    have hlt : j < 18 := (List.getElem?_eq_some_iff.1 hj).1
    rw [World.var?_cell hg hv j, ← Array.getElem?_toList, hall j hlt]
    exact hj
  exact ⟨cell_lt (key 0 _ rfl), key⟩
/-- where no byte is, no block is told -/
theorem byt_told {W : World} {A : Option Addr} {l : List UInt8} (hA : Byt W W.heap.size A l) : ∃ A0, (∀ w B, Byt w B A0 l → Byt w B A l) ∧ (Fac.byt A0 l).say W := by
  by_cases hl : 0 < l.length
  · refine ⟨A, fun _ _ h => h, hA, fun k hk => ?_⟩
    obtain ⟨b, off, rfl, hb, _⟩ := hA hl
    injection hk with hk
    rw [← hk]
    exact hb
  · exact ⟨none, fun _ _ _ h => absurd h hl, fun h => absurd h hl, fun k hk => by cases hk⟩
theorem pre_of {W : World} {A0 : Option Addr} {l : List UInt8} (hA : (Fac.byt A0 l).say W) (hL : laidMet Tryz.prog Rows.topWireRow.laid W) : Pre W [Fac.byt A0 l, GA, GB] [] := by
  have r2 := Lib.laidMet.reads hL (List.mem_of_getElem? (i := 2) rfl)
  have r3 := Lib.laidMet.reads hL (List.mem_of_getElem? (i := 3) rfl)
  exact ⟨⟨hA, ga_of (by kernel_rfl) r3, gb_of (by kernel_rfl) r2, trivial⟩, trivial, List.nodup_nil, fun k hk => by simp [owns], fun k _ hk => by simp [owns] at hk⟩
end Go.Proofs.YtbfhpgpceakeiaaGreatDoor.Tw
