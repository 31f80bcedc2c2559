/- Maps with any plain keys whose entries are written out. Over any program; no conditions. -/
import Derived.Test.YtbfhpgpceakeiaaGreatDoorTopSt
import Derived.MapKept
import Derived.Laws.CopyRow
namespace Kex
open Go Go.RowKit Kin MapKept
section
variable {P : Program} {w : World} {t kt et : TypeId} {d : TypeDesc} {g : Nat} {es : Array MapEntry} {n : Nat} {key : Value}
/-- the world with another map at g -/
def setMapW (w : World) (g : Nat) (es : Array MapEntry) (n : Nat) : World := { w with heap := w.heap.setIfInBounds g (.map es n) }
theorem run_mapGetK (hu : P.underlying t = some (.map kt et)) (hd : P.underlying kt = some d) (hk : IsKey d key) (h : MapIs w g es n) {i : Nat} {v : Value} (hf : Instr.findNow d key es.toList 0 = some (some (i, v))) (ok : Bool) :
    Sem.run P (Instr.lookup t (.map (some g)) key ok) w = .ok (if ok then .tuple #[v, .bool true] else v) w := by
  simp [Instr.lookup, run_underlying hu, MapKept.run_getObj_map h, MapKept.run_checkKey hd hk, run_findKey hd hf, Result.andThen]
theorem run_mapNoneK (hu : P.underlying t = some (.map kt et)) (hd : P.underlying kt = some d) (hk : IsKey d key) (h : MapIs w g es n) (hf : Instr.findNow d key es.toList 0 = some none) {z : Value} (hz : (zeroValue et).run P w = .ok z w) (ok : Bool) :
    Sem.run P (Instr.lookup t (.map (some g)) key ok) w = .ok (if ok then .tuple #[z, .bool false] else z) w := by
  simp [Instr.lookup, run_underlying hu, MapKept.run_getObj_map h, MapKept.run_checkKey hd hk, run_findKey hd hf, hz, Result.andThen]
theorem run_mapPutK (hu : P.underlying t = some (.map kt et)) (hd : P.underlying kt = some d) (hk : IsKey d key) (h : MapIs w g es n) (hf : Instr.findNow d key es.toList 0 = some none) (v : Value) :
    Sem.run P (Instr.mapUpdate t (.map (some g)) key v) w = .ok () (setMapW w g (es.push { key := key, val := v, born := n }) (n + 1)) := by
  simp [Instr.mapUpdate, run_underlying hu, MapKept.run_getObj_map h, MapKept.run_checkKey hd hk, run_findKey hd hf, MapKept.run_setObj_map _ h, Result.andThen, setMapW]
theorem setMap_heap (h : MapIs w g es n) (es' : Array MapEntry) (n' : Nat) : MapIs (setMapW w g es' n') g es' n' ∧ ∀ k, k ≠ g → (setMapW w g es' n').heap[k]? = w.heap[k]? := heap_set h
theorem setMap_chg (h : MapIs w g es n) (es' : Array MapEntry) (n' : Nat) : Chg (fun k => k = g) w (setMapW w g es' n') :=
  ⟨rfl, rfl, rfl, by show _ ≤ (w.heap.setIfInBounds _ _).size; rw [Array.size_setIfInBounds]; exact Nat.le_refl _, fun k _ hk => (setMap_heap h es' n').2 k hk⟩
theorem St_setm {w0 : World} {Q F L : List Fac} (h : St w0 Q F w L) (i : Nat) (hi : nth L i = some (Fac.map g es n)) (es' : Array MapEntry) (n' : Nat) : St w0 Q F (setMapW w g es' n') (Fac.map g es' n' :: dropI [i] 0 L) := by
  have hp : pick [i] L = [Fac.map g es n] := by simp [pick, hi]
  have hm : MapIs w g es n := h.get i hi
  refine h.step (G := [Fac.map g es' n']) [i] ?_
  rw [hp]
  exact ⟨⟨(setMap_heap hm es' n').1, trivial⟩, by simp [owns], fun k hk => by simp [rds] at hk, fun k hk => .inl hk, fun k hk => by simp [rds] at hk, (setMap_chg hm es' n').mono (fun k _ e => by simp [owns, e])⟩
theorem St_allocm {w0 : World} {Q F L : List Fac} (h : St w0 Q F w L) {g : Nat} (hg : w.heap.size = g) (es : Array MapEntry) (n : Nat) : St w0 Q F (w.alloc (.map es n)) (Fac.map g es n :: L) := by
  subst hg
  exact h.fresh (G := [Fac.map w.heap.size es n]) ⟨⟨heap_alloc_new w _, trivial⟩, by simp [owns], fun k hk => by simp [rds] at hk, fun k hk => by simp [owns] at hk; right; omega, fun k hk => by simp [rds] at hk, Chg.of_below ((Below.refl _ _).alloc (Nat.le_refl _) _)⟩
end
/-- nothing of the row is frozen -/
def Soft (fz : Nat × Nat) (n : Nat) : Prop := fz.2 = 0 ∨ n ≤ fz.1
theorem soft_at {w : World} {g : Nat} {cur : Array Value} {e : TypeId} {fz : Nat × Nat} (hg : w.heap[g]? = some (.cells cur e fz)) (hf : Soft fz cur.size) {k : Nat} (hk : k < cur.size) : w.frozen? ⟨g, k, none⟩ = false := by
  obtain ⟨lo, hi⟩ := fz
  simp only [World.frozen?, hg, Bool.and_eq_false_iff, decide_eq_false_iff_not]
  rcases hf with h | h
  · right; simp only at h; omega
  · left; simp only at h; omega
theorem run_storeCells_soft (P : Program) (g o : Nat) (t : TypeId) (fz : Nat × Nat) : ∀ (vs : List Value) (i : Nat) (cur : Array Value) (w : World), w.heap[g]? = some (.cells cur t fz) → Soft fz cur.size → o + i + vs.length ≤ cur.size → (∀ v ∈ vs, v.oneCell' = true) →
    (storeCells ⟨g, o, none⟩ vs i).run P w = .ok () (w.setRow g (cur.toList.take (o + i) ++ vs ++ cur.toList.drop (o + i + vs.length)).toArray)
  | [], i, cur, w, hg, _, _, _ => by
    simp only [storeCells, List.append_nil, List.length_nil, Nat.add_zero, List.take_append_drop, Array.toArray_toList]
    rw [setRow_self w g cur t fz hg]
    rfl
  | v :: rest, i, cur, w, hg, hfz, hl, h1 => by
    have hi : o + i < cur.size := by simp at hl; omega
    have hadd : (⟨g, o, none⟩ : Addr).add i = ⟨g, o + i, none⟩ := by unfold Addr.add; split <;> simp_all
    have hcell : w.cell? ⟨g, o + i, none⟩ = some cur[o + i] := by simp [World.cell?, hg, hi]
    have hfro := soft_at hg hfz hi
    have hst : (store ((⟨g, o, none⟩ : Addr).add i) v).run P w = .ok () (w.setRow g (cur.setIfInBounds (o + i) v)) := by
      rw [hadd, run_store P w _ v _ (h1 v (by simp)), hcell]
      simp [hfro, setCell_eq_setRow w g (o + i) cur t fz v hg]
    have ih := run_storeCells_soft P g o t fz rest (i + 1) (cur.setIfInBounds (o + i) v) (w.setRow g (cur.setIfInBounds (o + i) v)) (setRow_heap w g cur _ t _ hg) (by simpa using hfz) (by simp at hl ⊢; omega) (fun x hx => h1 x (by simp [hx]))
    simp only [storeCells, Sem.run_bind, hst, Result.andThen_ok, ih, setRow_setRow]
    congr 3
    have e := list_seg_step cur.toList (o + i) v rest (by simp at hl ⊢; omega)
    simpa [Array.toList_setIfInBounds, Nat.add_assoc] using e

end Kex
