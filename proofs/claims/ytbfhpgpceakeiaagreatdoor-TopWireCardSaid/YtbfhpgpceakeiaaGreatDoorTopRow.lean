/- A block that begins with a list of values; copies into it. Over any program; no conditions. -/
import Derived.Test.YtbfhpgpceakeiaaGreatDoorOwnR
import Derived.Test.YtbfhpgpceakeiaaGreatDoorCut
import Derived.Test.YtbfhpgpceakeiaaGreatDoorConv
import Derived.Laws.CopyOwn
import Derived.Deep.RegionHeld3
namespace Kin
open Go Go.RowKit

/-- block g begins with the values xs -/
def RowV (w : World) (g : Nat) (t : TypeId) (xs : List Value) : Prop := ∃ cur : Array Value, Blk w g t cur ∧ cur.toList.take xs.length = xs
section
variable {w w' : World} {g : Nat} {t : TypeId} {xs : List Value}
theorem RowV.lt (h : RowV w g t xs) : g < w.heap.size := by
  obtain ⟨cur, h1, _⟩ := h
  exact h1.lt
theorem RowV.of_blk {cs : Array Value} (h : Blk w g t cs) : RowV w g t cs.toList := ⟨cs, h, by rw [List.take_of_length_le (Nat.le_refl _)]⟩
theorem RowV.cell (h : RowV w g t xs) {k : Nat} {v : Value} (hk : xs[k]? = some v) : w.cell? ⟨g, k, none⟩ = some v := by
  obtain ⟨cur, h1, h2⟩ := h
  have hl : k < xs.length := (List.getElem?_eq_some_iff.1 hk).1
  rw [h1.cell k, ← hk, ← h2, List.getElem?_take_of_lt hl]
  simp
theorem RowV.frozen (h : RowV w g t xs) (k : Nat) : w.frozen? ⟨g, k, none⟩ = false := by
  obtain ⟨cur, h1, _⟩ := h
  exact h1.frozen k
theorem RowV.set (h : RowV w g t xs) (k : Nat) (v : Value) : RowV (w.setCell ⟨g, k, none⟩ v) g t (xs.set k v) := by
  obtain ⟨cur, h1, h2⟩ := h
  refine ⟨_, h1.set_ k v, ?_⟩
  rw [Array.toList_setIfInBounds, List.length_set, List.take_set, h2]
theorem RowV.far (h : RowV w g t xs) {p : Addr} (hp : g ≠ p.block) (u : Value) : RowV (w.setCell p u) g t xs := by
  obtain ⟨cur, h1, h2⟩ := h
  exact ⟨cur, h1.far hp u, h2⟩
theorem RowV.alloc (h : RowV w g t xs) (o : Obj) : RowV (w.alloc o) g t xs := by
  obtain ⟨cur, h1, h2⟩ := h
  exact ⟨cur, h1.alloc o, h2⟩
theorem RowV.drew (h : RowV w g t xs) : RowV w.drew g t xs := h
theorem RowV.drewN (h : RowV w g t xs) (n : Nat) : RowV (w.drewN n) g t xs := h
theorem RowV.below {B : Nat} (h : RowV w g t xs) (hb : Below B w w') (hg : g < B) : RowV w' g t xs := by
  obtain ⟨cur, h1, h2⟩ := h
  exact ⟨cur, h1.below hb hg, h2⟩
theorem RowV.next (h : RowV w g t xs) (hb : Below w.heap.size w w') : RowV w' g t xs := h.below hb h.lt
theorem Chg.row {S : Nat → Prop} {a b : World} (h : Chg S a b) (hb : RowV a g t xs) (hn : ¬ S g) : RowV b g t xs := by
  obtain ⟨cur, h1, h2⟩ := hb
  exact ⟨cur, h.blk h1 hn, h2⟩
theorem RowV.setRow_far (h : RowV w g t xs) {k : Nat} (hk : g ≠ k) (c' : Array Value) : RowV (w.setRow k c') g t xs := by
  obtain ⟨cur, h1, h2⟩ := h
  exact ⟨cur, h1.setRow_far hk c', h2⟩
theorem RowV.take (h : RowV w g t xs) (n : Nat) : RowV w g t (xs.take n) := by
  obtain ⟨cur, h1, h2⟩ := h
  refine ⟨cur, h1, ?_⟩
  rw [List.length_take]
  conv => rhs; rw [← h2, List.take_take]
theorem RowV.ne_ {g' : Nat} {t' : TypeId} {ys : List Value} (h : RowV w g t xs) (h' : RowV w g' t' ys) (hne : t ≠ t') : g ≠ g' := by
  obtain ⟨cur, h1, _⟩ := h
  obtain ⟨cur', h1', _⟩ := h'
  exact h1.ne_ h1' hne
theorem RowV.ne_blk {g' : Nat} {t' : TypeId} {cs : Array Value} (h : RowV w g t xs) (h' : Blk w g' t' cs) (hne : t ≠ t') : g ≠ g' := by
  obtain ⟨cur, h1, _⟩ := h
  exact h1.ne_ h' hne
/-- the cells of a part of it -/
theorem RowV.part (h : RowV w g t xs) (o m : Nat) : ∀ j v, ((xs.drop o).take m)[j]? = some v → w.cell? ((⟨g, o, none⟩ : Addr).add j) = some v := by
  intro j v hj
  rw [Addr.add_lit]
  refine h.cell ?_
  have hj2 := List.getElem?_eq_some_iff.1 hj
  obtain ⟨hl, _⟩ := hj2
  rw [List.getElem?_take_of_lt (by simp at hl; omega), List.getElem?_drop] at hj
  exact hj
theorem Own8.row {e : TypeId} {n c : Nat} {l : List UInt8} (h : Own8 w e (some ⟨g, 0, none⟩) n c l) : RowV w g e (B8 l) := by
  obtain ⟨hn, h1, h2⟩ := h
  rcases h2 with ⟨hv, _⟩ | ⟨g', cap, cur, hv, _, hh, hnc, hcm, hcs, ht⟩
  · cases hv
  · injection hv with hA
    injection hA with hA
    injection hA with hA
    subst hA
    refine ⟨cur, hh, ?_⟩
    rw [length_B8, ← hn]
    simpa using ht
end
theorem splice_self_length {α : Type} (L : List α) (off : Nat) (cs : List α) (h : off + cs.length ≤ L.length) : (splice L off cs).length = L.length := length_splice L off cs h
theorem run_copyRow {P : Program} {w : World} (dT sT ty elem : TypeId) (hu : P.underlying dT = some (.slice elem)) (hsz : (P.info? elem).map (·.size) = some 1)
    (g off dLen dCap : Nat) (ad : Addr) (sLen sCap : Nat)
    (t : TypeId) (xs : List Value) (hrow : RowV w g t xs) (cs : List Value) (hn : cs.length = Nat.min sLen dLen)
    (hsrc : ∀ j v, cs[j]? = some v → w.cell? (ad.add j) = some v) (hfit : off + cs.length ≤ xs.length) (h1 : ∀ v ∈ cs, v.oneCell' = true) :
    ∃ w', (Builtin.copy_ #[dT, sT] ty #[.slice (some ⟨g, off, none⟩) dLen dCap, .slice (some ad) sLen sCap]).run P w = .ok (goInt cs.length) w' ∧ RowV w' g t (splice xs off cs) ∧ Chg (fun k => k = g) w w' := by
  obtain ⟨cur, hb, ht⟩ := hrow
  have hcur : xs.length ≤ cur.size := by
    have := congrArg List.length ht
    rw [List.length_take] at this
    simp at this
    omega
  have hrun := run_copy_row (P := P) w dT sT ty elem g off dLen dCap ad sLen sCap cur t cs hu hsz hb hn hsrc (by omega) h1
  refine ⟨_, hrun, ⟨_, hb.setRow _, ?_⟩, (Chg.refl (fun k => k = g) _).setRow (g := g) (.inl rfl) _⟩
  rw [splice_self_length xs off cs hfit]
  have hx : cur.toList = xs ++ cur.toList.drop xs.length := by
    conv => lhs; rw [← List.take_append_drop xs.length cur.toList, ht]
  rw [hx]
  unfold splice
  rw [List.take_append_of_le_length (by omega : off ≤ xs.length)]
  rw [List.drop_append_of_le_length hfit, ← List.append_assoc, ← List.append_assoc]
  rw [List.take_append_of_le_length (by simp; omega)]
  rw [List.take_of_length_le (by simp; omega)]
/-- a copy into a block -/
theorem wpList_copyRow {P : Program} {w : World} {ops : Array Oper} {rest : List Oper} {o : Oper} {a : Act} {Q : Exit → Act → World → Prop} (hw : Region.wanted o (yielded ops a.tmps) = true) (d s : Operand) (dT sT elem : TypeId)
    (ho : o.op = .call { callee := .builtin .copy, args := #[d, s], argTypes := #[dT, sT] }) (hu : P.underlying dT = some (.slice elem)) (hsz : (P.info? elem).map (·.size) = some 1)
    (g off dLen dCap : Nat) (ad : Addr) (sLen sCap : Nat) (hd : a.eval d = .slice (some ⟨g, off, none⟩) dLen dCap) (hs : a.eval s = .slice (some ad) sLen sCap)
    (t : TypeId) (xs : List Value) (hrow : RowV w g t xs) (cs : List Value) (hn : cs.length = Nat.min sLen dLen)
    (hsrc : ∀ j v, cs[j]? = some v → w.cell? (ad.add j) = some v) (hfit : off + cs.length ≤ xs.length) (h1 : ∀ v ∈ cs, v.oneCell' = true) (r : Value) (hr : goInt cs.length = r)
    (h : ∀ w', RowV w' g t (splice xs off cs) → Chg (fun k => k = g) w w' → wpList P ops Q rest (a.put o.dst r) w') : wpList P ops Q (o :: rest) a w := by
  subst hr
  obtain ⟨w', hrun, h2, h3⟩ := run_copyRow (P := P) dT sT o.type elem hu hsz g off dLen dCap ad sLen sCap t xs hrow cs hn hsrc hfit h1
  refine BigFrame.wpList_want hw fun K hK => ?_
  unfold Oper.wp
  simp only [execOp, ho, resolve, invoke, builtin, Sem.run_bind, Sem.run_pure, Result.andThen_ok, List.map_toArray, List.map_cons, List.map_nil, hd, hs, hrun]
  exact hK _ _ (h w' h2 h3)
/-- the same, in a region that draws its order -/
theorem step_copyRow {P : Program} {w : World} {ops : Array Oper} {o : Oper} {a : Act} {K : Act → World → Prop} {Q : Exit → Act → World → Prop} (hw : Region.wanted o (yielded ops a.tmps) = true) (d s : Operand) (dT sT elem : TypeId)
    (ho : o.op = .call { callee := .builtin .copy, args := #[d, s], argTypes := #[dT, sT] }) (hu : P.underlying dT = some (.slice elem)) (hsz : (P.info? elem).map (·.size) = some 1)
    (g off dLen dCap : Nat) (ad : Addr) (sLen sCap : Nat) (hd : a.eval d = .slice (some ⟨g, off, none⟩) dLen dCap) (hs : a.eval s = .slice (some ad) sLen sCap)
    (t : TypeId) (xs : List Value) (hrow : RowV w g t xs) (cs : List Value) (hn : cs.length = Nat.min sLen dLen)
    (hsrc : ∀ j v, cs[j]? = some v → w.cell? (ad.add j) = some v) (hfit : off + cs.length ≤ xs.length) (h1 : ∀ v ∈ cs, v.oneCell' = true) (r : Value) (hr : goInt cs.length = r)
    (h : ∀ w', RowV w' g t (splice xs off cs) → Chg (fun k => k = g) w w' → K (a.put o.dst r) w') :
    if Region.wanted o (yielded ops a.tmps) = true then Oper.wp P o a w K Q else K (a.put o.dst undef) w := by
  subst hr
  obtain ⟨w', hrun, h2, h3⟩ := run_copyRow (P := P) dT sT o.type elem hu hsz g off dLen dCap ad sLen sCap t xs hrow cs hn hsrc hfit h1
  rw [if_pos hw]
  unfold Oper.wp
  simp only [execOp, ho, resolve, invoke, builtin, Sem.run_bind, Sem.run_pure, Result.andThen_ok, List.map_toArray, List.map_cons, List.map_nil, hd, hs, hrun]
  exact h w' h2 h3
end Kin
