/- Texts of this claim in one: HLib2. What each proves, and on what conditions, its own words say. -/
import Derived.Deep.RegionHeld3
import Derived.Test.YtakglalebjkpeaaHLib
import Derived.Deep.Slices
import Derived.Deep.Fields
import Derived.ChangeSame
import Derived.OpenShut
import Derived.Lib.AppendStr
import Derived.Laws.MakeOwn
namespace Kin
open Go

/-- a region's way on, where R is held besides -/
def Strong (_R : World → Prop) (p : Prop) : Prop := p
theorem shut_strong (R : World → Prop) (p : Prop) : Shut p = Strong R p := rfl
theorem strong_strong (R R' : World → Prop) (p : Prop) : Strong R p = Strong R' p := rfl

theorem wpAnyH_imp {P : Program} {md : Region.Mode} {ops : Array Oper} {Q : Exit → Act → World → Prop} {S S' : World → Prop} (imp : ∀ w, S' w → S w) :
    ∀ (fuel : Nat) (listed : Array Bool) (a : Act) (w : World), wpAnyH P md ops Q S' fuel listed a w → wpAnyH P md ops Q S fuel listed a w
  | 0, _, _, _, h => h
  | fuel + 1, _, _, _, h => ⟨h.1, fun i hi => wpOp_mono (fun a' w' h' => ⟨imp _ h'.1, wpAnyH_imp imp fuel _ a' w' h'.2⟩) (h.2 i hi)⟩

theorem Strong.out {R : World → Prop} {P : Program} {md : Region.Mode} {ops : Array Oper} {Q : Exit → Act → World → Prop} {S : World → Prop} {fuel : Nat} {listed : Array Bool} {K : Act → World → Prop}
    (h : Strong R (∀ a w, S w → (S w → wpAnyH P md ops Q S fuel listed a w) → K a w)) :
    ∀ a w, S w ∧ R w → (S w ∧ R w → wpAnyH P md ops Q (fun w => S w ∧ R w) fuel listed a w) → K a w :=
  fun a w hs hw => h a w hs.1 (fun _ => wpAnyH_imp (fun _ k => k.1) fuel listed a w (hw hs))

/-- append of bytes at a step of a region that draws its order -/
theorem step_append8 {P : Program} {w : World} {ops : Array Oper} {o : Oper} {a : Act} {K : Act → World → Prop} {Q : Exit → Act → World → Prop} (hw : Region.wanted o (yielded ops a.tmps) = true) (s x : Operand) (t e : TypeId)
    (ho : o.op = .call { callee := .builtin .append, args := #[s, x], argTypes := #[t, t] }) (ht : IsBytes P t e)
    (A : Option Addr) (n c : Nat) (l : List UInt8) (hs : a.eval s = .slice A n c) (hown : Own8 w e A n c l) (B : Nat) (A2 : Option Addr) (n2 c2 : Nat) (m : List UInt8) (hx : a.eval x = .slice A2 n2 c2) (hr : Byt w B A2 m) (hn2 : n2 = m.length) (hb : n + n2 ≤ 140737488355328)
    (h : ∀ A' c' w', Own8 w' e A' (n + n2) c' (l ++ m) → w.grownBy w' (blkOf A) → (blkOf A' = blkOf A ∨ blkOf A' = some w.heap.size) → K (a.put o.dst (.slice A' (n + n2) c')) w') :
    if Region.wanted o (yielded ops a.tmps) = true then Oper.wp P o a w K Q else K (a.put o.dst undef) w := by
  obtain ⟨ht, _, i, hi, hz, hsize, hby⟩ := ht
  obtain ⟨A', c', w', hr, h2, h3, h4⟩ := run_append8 (P := P) w t o.type e i ht hi hz hsize hby A n c l hown B A2 n2 c2 m hr hn2 hb
  rw [if_pos hw]
  unfold Oper.wp execOp
  simp only [ho, resolve, invoke, builtin, Sem.run_bind, Sem.run_pure, Result.andThen_ok, List.map_toArray, List.map_cons, List.map_nil, hs, hx, hr]
  exact h A' c' w' h2 h3 h4
end Kin
namespace Kin
open Go Go.RowKit Go.ChangeShapes Go.WideShapes Go.Deep

/-- the slice at A reads as the rows xs, each of k cells, and lies below block B -/
def Recs (w : World) (B k : Nat) (A : Option Addr) (xs : List (List Value)) : Prop :=
  0 < xs.length → ∃ b off, A = some ⟨b, off, none⟩ ∧ b < B ∧ ∀ i row, xs[i]? = some row → row.length = k ∧ ∀ j v, row[j]? = some v → w.cell? ⟨b, off + i * k + j, none⟩ = some v

section
variable {w w' : World} {B B' k : Nat} {A : Option Addr} {xs : List (List Value)}

theorem Recs.nil : Recs w B k A [] := fun h => absurd h (by simp)
theorem Recs.keep (h : Recs w B k A xs) (hk : ∀ p : Addr, p.block < B → w'.cell? p = w.cell? p) : Recs w' B k A xs := fun hl => by
  obtain ⟨b, off, e, hb, hc⟩ := h hl
  exact ⟨b, off, e, hb, fun i row hi => ⟨(hc i row hi).1, fun j v hv => (hk ⟨b, _, none⟩ hb).trans ((hc i row hi).2 j v hv)⟩⟩
theorem Recs.below (h : Recs w B k A xs) (hb : Below B w w') : Recs w' B k A xs := h.keep fun _ hp => hb.cell hp
theorem Recs.drew (h : Recs w B k A xs) : Recs w.drew B k A xs := h
theorem Recs.drewN (h : Recs w B k A xs) (n : Nat) : Recs (w.drewN n) B k A xs := h
theorem Recs.at_ (h : Recs w B k A xs) {i : Nat} (hi : i < xs.length) : ∃ b off, A = some ⟨b, off, none⟩ ∧ b < B ∧ (xs[i]).length = k ∧ ∀ j v, (xs[i])[j]? = some v → w.cell? ⟨b, off + i * k + j, none⟩ = some v := by
  obtain ⟨b, off, e, hb, hc⟩ := h (by omega)
  have := hc i _ (List.getElem?_eq_getElem hi)
  exact ⟨b, off, e, hb, this.1, this.2⟩
end

section
variable {H : Type} {enc : TypeId × Value → H} {P : Program} {w : World} {base : Nat} {spare : Nat → Bool} {held : Bool}

theorem open_slice_fields {t e : TypeId} {fs : Array Field} {fuel : Nat} {cs : List Value} {x : DataW H × List MemPlace} (ht : P.underlying t = some (.slice e)) (he : P.underlying e = some (.struct fs))
    (hone : oneCellFields P fs = true) (hC : P.cellsOf e = fs.size) (h : DataW.trod enc P w base spare held fuel t cs = some x) :
    (cs = [.slice none 0 0] ∧ x = (.nil, [])) ∨
    ∃ (a : Addr) (len cap m : Nat), cs = [.slice (some a) len cap] ∧ len ≤ cap ∧ cap ≤ maxLen ∧ len ≤ m ∧
      ∀ i, i < m → ∃ (n : Nat), 
        ∀ (j : Nat) (f : Field), fs[j]? = some f → ∃ (v : Value) (y : DataW H × List MemPlace), w.cell? (a.add (i * fs.size + j)) = some v ∧ DataW.trod enc P w base spare held n f.type [v] = some y := by
  rcases open_slice ht h with h0 | ⟨a, len, cap, m, n, D, Pl, hcs, hb, hl, hm, hmm, hx, hi⟩
  · exact .inl h0
  · refine .inr ⟨a, len, cap, m, hcs, hl, hm, by rw [hmm]; split <;> omega, fun i him => ?_⟩
    obtain ⟨cs', hc, ht'⟩ := hi i him
    rw [hC] at hc
    obtain ⟨ys, n', hn', hy, hlen, hyl, hf⟩ := DataW.trod_struct he ht'
    obtain ⟨_, hcl, hat⟩ := World.cells?_some hc
    refine ⟨n', fun j f hj => ?_⟩
    obtain ⟨ho, hk⟩ := hone_of hone j f hj
    have hjl : j < fs.size := (Array.getElem?_eq_some_iff.1 hj).1
    have hcell := hat j hjl
    have hv : cs'[j]? = some (cs'[j]'(by omega)) := List.getElem?_eq_getElem (by omega)
    have h1 := hf j f hj
    rw [ho, hk] at h1
    have hone' : (cs'.drop j).take 1 = [cs'[j]'(by omega)] := by
      rw [List.drop_eq_getElem_cons (by omega)]
      rfl
    rw [hone'] at h1
    have hys : ys[j]? = some (ys[j]'(by omega)) := List.getElem?_eq_getElem (by omega)
    refine ⟨_, _, ?_, h1.trans hys⟩
    rw [← Go.Deep.add_add, hcell, hv]

/-- a slice of structs that came in reads as rows, if each row of cells that may lie there is one of the kind R -/
theorem recs_open {t e : TypeId} {fs : Array Field} {v : Value} {d : DataW H} {p : List MemPlace} {r : Reach} {b0 : Nat} (R : List Value → Prop)
    (ht : P.underlying t = some (.slice e)) (he : P.underlying e = some (.struct fs)) (hone : oneCellFields P fs = true) (hC : P.cellsOf e = fs.size) (hpos : 0 < fs.size)
    (hR : ∀ row : List Value, row.length = fs.size → (∃ n, ∀ (j : Nat) (f : Field), fs[j]? = some f → ∃ (v : Value) (y : DataW H × List MemPlace), row[j]? = some v ∧ DataW.trod enc P w base spare held n f.type [v] = some y) → R row)
    (hv : Value.okWide P w r b0 t v) (h : DataW.Trod enc P w base spare held t v d p) :
    ∃ A n c xs, v = .slice A n c ∧ n = xs.length ∧ n ≤ maxLen ∧ Recs w w.heap.size fs.size A xs ∧ ∀ row ∈ xs, R row := by
  obtain ⟨A, n, c, rfl⟩ := okWide_slice ht hv
  obtain ⟨fuel, hf⟩ := h
  rcases open_slice_fields ht he hone hC hf with ⟨hcs, _⟩ | ⟨a, n', c', m, hcs, hl, hm, hnm, hi⟩
  · simp [Value.cells] at hcs
    obtain ⟨rfl, rfl, rfl⟩ := hcs
    exact ⟨none, 0, 0, [], rfl, rfl, Nat.zero_le _, Recs.nil, fun _ h => by cases h⟩
  · simp [Value.cells] at hcs
    obtain ⟨rfl, rfl, rfl⟩ := hcs
    obtain ⟨b, off, spot⟩ := a
    have cellAt : ∀ i, i < n → ∀ j, j < fs.size → ∃ v, w.cell? ((⟨b, off, spot⟩ : Addr).add (i * fs.size + j)) = some v := by
      intro i hin j hj
      obtain ⟨k, hk⟩ := hi i (by omega)
      obtain ⟨v, y, hc, _⟩ := hk j fs[j] (Array.getElem?_eq_getElem hj)
      exact ⟨v, hc⟩
    let row := fun i : Nat => (List.range fs.size).map fun j => (w.cell? ((⟨b, off, spot⟩ : Addr).add (i * fs.size + j))).getD undef
    refine ⟨some ⟨b, off, spot⟩, n, c, (List.range n).map row, rfl, by simp, by omega, fun hp => ?_, ?_⟩
    · have hn0 : 0 < n := by simpa using hp
      obtain ⟨v0, hv0⟩ := cellAt 0 hn0 0 hpos
      have hspot : spot = none := by simpa [Addr.add] using World.cell?_spot hv0
      subst hspot
      refine ⟨b, off, rfl, ?_, fun i rw_ hrow => ?_⟩
      · have := block_lt_of_cell hv0
        simpa [Addr.add] using this
      · have hin : i < n := by
          rcases Nat.lt_or_ge i n with h | h
          · exact h
          · rw [List.getElem?_eq_none (by simpa using h)] at hrow; cases hrow
        rw [List.getElem?_map, List.getElem?_range hin] at hrow
        injection hrow with hrow
        subst hrow
        refine ⟨by simp [row], fun j v hj => ?_⟩
        have hjn : j < fs.size := by
          rcases Nat.lt_or_ge j fs.size with h | h
          · exact h
          · rw [List.getElem?_eq_none (by simpa [row] using h)] at hj; cases hj
        obtain ⟨v', hv'⟩ := cellAt i hin j hjn
        simp only [row, List.getElem?_map, List.getElem?_range hjn, Option.map_some] at hj
        injection hj with hj
        rw [hv', Option.getD_some] at hj
        subst hj
        rw [Addr.add_lit] at hv'
        rw [Nat.add_assoc]
        exact hv'
    · intro rw_ hrow
      obtain ⟨i, hi', rfl⟩ := List.mem_map.1 hrow
      have hin : i < n := by simpa using hi'
      refine hR _ (by simp [row]) ?_
      obtain ⟨k, hk⟩ := hi i (by omega)
      refine ⟨k, fun j f hj => ?_⟩
      obtain ⟨v, y, hc, hy⟩ := hk j f hj
      have hjl : j < fs.size := (Array.getElem?_eq_some_iff.1 hj).1
      refine ⟨v, y, ?_, hy⟩
      simp only [row, List.getElem?_map, List.getElem?_range hjl, Option.map_some, hc, Option.getD_some]
end
end Kin
namespace Kin
open Go Go.RowKit

/-- the slice is of the call's own (or nil) and holds the rows, each of k cells -/
def OwnR (w : World) (e : TypeId) (k : Nat) (A : Option Addr) (n c : Nat) (rows : List (List Value)) : Prop :=
  n = rows.length ∧ (∀ r ∈ rows, r.length = k) ∧ w.ownsRow 0 e k (.slice A n c) n rows.flatten

theorem flatten_at {k : Nat} : ∀ (rows : List (List Value)) (_ : ∀ r ∈ rows, r.length = k) (i j : Nat) (r : List Value), rows[i]? = some r → j < k → rows.flatten[i * k + j]? = r[j]?
  | [], _, i, j, r, h, _ => by simp at h
  | x :: rows, hk, 0, j, r, h, hj => by
    have hx : x.length = k := hk x (by simp)
    simp at h
    subst h
    rw [List.flatten_cons, Nat.zero_mul, Nat.zero_add, List.getElem?_append_left (by omega)]
  | x :: rows, hk, i + 1, j, r, h, hj => by
    have hx : x.length = k := hk x (by simp)
    rw [List.flatten_cons, List.getElem?_append_right (by rw [hx, Nat.succ_mul]; omega), hx, show (i + 1) * k + j - k = i * k + j from by rw [Nat.succ_mul]; omega]
    exact flatten_at rows (fun r hr => hk r (by simp [hr])) i j r (by simpa using h) hj

section
variable {w w' : World} {e : TypeId} {k : Nat} {A : Option Addr} {n c : Nat} {rows : List (List Value)}

theorem OwnR.nil (w : World) (e : TypeId) (k : Nat) : OwnR w e k none 0 0 [] := ⟨rfl, by simp, World.ownsRow_nil _ _ _ _⟩
theorem OwnR.lt (h : OwnR w e k A n c rows) : ∀ g, blkOf A = some g → g < w.heap.size := fun g hg => (h.2.2.lt g (by rw [ownBlock_slice]; exact hg)).2
theorem OwnR.cap (h : OwnR w e k A n c rows) : n ≤ c := by
  rcases h.2.2.2 with ⟨hv, _⟩ | ⟨g, cap, cur, hv, _, _, h1, _⟩
  · injection hv with _ h2 h3; omega
  · injection hv with _ _ h3; omega
theorem OwnR.below {B : Nat} (h : OwnR w e k A n c rows) (hb : Below B w w') (hB : ∀ g, blkOf A = some g → g < B) : OwnR w' e k A n c rows := by
  refine ⟨h.1, h.2.1, h.2.2.1, ?_⟩
  rcases h.2.2.2 with h2 | ⟨g, cap, cur, hv, hg, hh, r⟩
  · exact Or.inl h2
  · have hA : A = some ⟨g, 0, none⟩ := by injection hv
    exact Or.inr ⟨g, cap, cur, hv, hg, by rw [hb.block g (hB g (by rw [hA]; rfl))]; exact hh, r⟩
theorem OwnR.next (h : OwnR w e k A n c rows) (hb : Below w.heap.size w w') : OwnR w' e k A n c rows := h.below hb h.lt
theorem OwnR.alloc (h : OwnR w e k A n c rows) (o : Obj) : OwnR (w.alloc o) e k A n c rows := ⟨h.1, h.2.1, h.2.2.alloc o⟩
theorem OwnR.drew (h : OwnR w e k A n c rows) : OwnR w.drew e k A n c rows := ⟨h.1, h.2.1, h.2.2.drew⟩
theorem Chg.ownR {S : Nat → Prop} {a b : World} (h : Chg S a b) (ho : OwnR a e k A n c rows) (hn : ∀ g, blkOf A = some g → ¬ S g) : OwnR b e k A n c rows := by
  refine ⟨ho.1, ho.2.1, ho.2.2.1, ?_⟩
  rcases ho.2.2.2 with h2 | ⟨g, cap, cur, hv, hg, hh, r⟩
  · exact Or.inl h2
  · have hA : A = some ⟨g, 0, none⟩ := by injection hv
    exact Or.inr ⟨g, cap, cur, hv, hg, by rw [h.block g (Blk.lt (t := e) hh) (hn g (by rw [hA]; rfl))]; exact hh, r⟩
/-- its block is another than one of another type -/
theorem OwnR.ne_blk {g : Nat} {t : TypeId} {cs : Array Value} (h : OwnR w e k A n c rows) (hg : Blk w g t cs) (hne : e ≠ t) : blkOf A ≠ some g := by
  have := own_blk_ne h.2.2 hg hne
  rwa [ownBlock_slice] at this
theorem OwnR.ne_own {e' : TypeId} {A' : Option Addr} {n' c' : Nat} {l : List UInt8} (h : OwnR w e k A n c rows) (h' : Own8 w e' A' n' c' l) (hne : e ≠ e') : ∀ g, blkOf A = some g → blkOf A' ≠ some g := by
  intro g hg hg'
  rcases h'.2.2 with ⟨hv, _⟩ | ⟨g', cap, cur, hv, _, hh, _⟩
  · injection hv with hA; subst hA; cases hg'
  · injection hv with hA
    subst hA
    have : g' = g := by simpa [blkOf] using hg'
    subst this
    exact h.ne_blk (t := e') hh hne hg
/-- a row of it -/
theorem OwnR.at_ (h : OwnR w e k A n c rows) {i : Nat} (hi : i < n) : ∃ g r, A = some ⟨g, 0, none⟩ ∧ rows[i]? = some r ∧ r.length = k ∧ ∀ j v, r[j]? = some v → w.cell? ⟨g, i * k + j, none⟩ = some v := by
  obtain ⟨g, cap, hv, _, hlt⟩ := h.2.2.form (by omega)
  injection hv with hA _ hc
  subst hA
  have hl : i < rows.length := by rw [← h.1]; exact hi
  have hr := h.2.1 rows[i] (List.getElem_mem hl)
  refine ⟨g, rows[i], rfl, List.getElem?_eq_getElem hl, hr, fun j v hj => ?_⟩
  have hjk : j < k := by rw [← hr]; exact (List.getElem?_eq_some_iff.1 hj).1
  have := h.2.2.cellAt (i * k + j) (by
    have : (i + 1) * k ≤ n * k := Nat.mul_le_mul_right _ hi
    rw [Nat.succ_mul] at this; omega)
  rw [this, flatten_at rows h.2.1 i j _ (List.getElem?_eq_getElem hl) hjk, hj]
theorem OwnR.recs (h : OwnR w e k A n c rows) : Recs w w.heap.size k A rows := fun hl => by
  obtain ⟨g, r, hA, _, _, _⟩ := h.at_ (i := 0) (by rw [h.1]; exact hl)
  refine ⟨g, 0, hA, h.lt g (by rw [hA]; rfl), fun i row hi => ?_⟩
  have hil : i < rows.length := (List.getElem?_eq_some_iff.1 hi).1
  obtain ⟨g', r', hA', hr', hrl, hc⟩ := h.at_ (i := i) (by rw [h.1]; exact hil)
  rw [hA] at hA'
  injection hA' with hA'
  injection hA' with hA'
  subst hA'
  rw [hi] at hr'
  injection hr' with hr'
  subst hr'
  exact ⟨hrl, fun j v hj => by rw [Nat.zero_add]; exact hc j v hj⟩
end

/-- t is a slice of structs e of k cells -/
def IsRows (P : Program) (t e : TypeId) (k by_ : Nat) : Prop := P.underlying t = some (.slice e) ∧ 0 < k ∧ ∃ i z, P.info? e = some i ∧ i.zero = some z ∧ i.size = k ∧ i.bytes = by_ ∧ z.cells.size = k
theorem isRows_of {P : Program} {t e : TypeId} {k by_ : Nat} {z : Value} (ht : P.underlying t = some (.slice e)) (hk : 0 < k) (h : (P.info? e).map (fun i => (i.zero, i.size, i.bytes)) = some (some z, k, by_)) (hz : z.cells.size = k) : IsRows P t e k by_ := by
  obtain ⟨i, h1, h2, h3, h4⟩ := info_parts h
  exact ⟨ht, hk, i, z, h1, h2, h3, h4, hz⟩

section
variable {P : Program} (w : World)

/-- append of rows that lie at an address -/
theorem run_appendR (t ty e : TypeId) (k by_ : Nat) (ht : IsRows P t e k by_) (A : Option Addr) (n c : Nat) (rows : List (List Value)) (hown : OwnR w e k A n c rows)
    (A2 : Option Addr) (n2 c2 : Nat) (news : List (List Value)) {B : Nat} (hr : Recs w B k A2 news) (hn2 : n2 = news.length) (hk : ∀ r ∈ news, r.length = k) (h1 : ∀ r ∈ news, ∀ u ∈ r, u.oneCell' = true) (hb : (n + n2) * by_ ≤ 140737488355328) (h63 : n + n2 ≤ maxLen) :
    ∃ A' c' w', (Builtin.append_ #[t, t] ty #[.slice A n c, .slice A2 n2 c2]).run P w = .ok (.slice A' (n + n2) c') w' ∧ OwnR w' e k A' (n + n2) c' (rows ++ news) ∧ w.grownBy w' (blkOf A) ∧
      (blkOf A' = blkOf A ∨ blkOf A' = some w.heap.size) := by
  obtain ⟨ht, hk0, i, z, hi, hz, hsize, hby, hzs⟩ := ht
  have hkk : ∀ r ∈ rows ++ news, r.length = k := by
    intro r hr
    rcases List.mem_append.1 hr with h | h
    · exact hown.2.1 r h
    · exact hk r h
  have hfl : ∀ l : List (List Value), (∀ r ∈ l, r.length = k) → l.flatten.length = l.length * k := by
    intro l
    induction l with
    | nil => simp
    | cons x l ih =>
      intro h
      rw [List.flatten_cons, List.length_append, ih (fun r hr => h r (by simp [hr])), h x (by simp), List.length_cons, Nat.succ_mul]; omega
  subst hn2
  rcases A2 with _ | ad
  · have hm : news = [] := by
      rcases news with _ | ⟨b, m⟩
      · rfl
      · obtain ⟨_, _, h, _⟩ := hr (by simp)
        cases h
    subst hm
    refine ⟨A, c, w, ?_, by simpa using hown, World.grownBy.refl w _, .inl rfl⟩
    rcases hown.2.2.2 with ⟨hv, hn⟩ | ⟨g, cap, cur, hv, _, _, hnc, _⟩
    · injection hv with hA hn2 hc
      subst hA hn hc
      simp [Builtin.append_, run_underlying ht, Go.sizeOf, typeInfo, hi, Builtin.lenOf, Builtin.firstCells]
    · injection hv with hA hn2 hc
      subst hA hc
      simp [Builtin.append_, run_underlying ht, Go.sizeOf, typeInfo, hi, Builtin.lenOf, Builtin.firstCells, hnc, storeCells]
  · have hcells : ∀ j u, news.flatten[j]? = some u → w.cell? (ad.add j) = some u := by
      intro j u hu
      have hj : j < news.length * k := by rw [← hfl news hk]; exact (List.getElem?_eq_some_iff.1 hu).1
      have hq : j / k < news.length := (Nat.div_lt_iff_lt_mul hk0).2 hj
      obtain ⟨b, off, h, _, hc⟩ := hr (Nat.lt_of_le_of_lt (Nat.zero_le _) hq)
      injection h with h
      subst h
      have hmod := Nat.mod_lt j hk0
      have e := flatten_at news hk (j / k) (j % k) _ (List.getElem?_eq_getElem hq) hmod
      rw [Nat.div_add_mod'] at e
      rw [e] at hu
      have := (hc (j / k) _ (List.getElem?_eq_getElem hq)).2 (j % k) u hu
      rw [Nat.add_assoc, Nat.div_add_mod'] at this
      rw [Addr.add_lit]
      exact this
    have hone : ∀ u ∈ news.flatten, u.oneCell' = true := by
      intro u hu
      obtain ⟨r, hr1, hr2⟩ := List.mem_flatten.1 hu
      exact h1 r hr1 u hr2
    obtain ⟨v', w', hrun, h2, h3, h4, h5⟩ := run_append_own_at (P := P) w 0 t ty e i z k by_ ht hi hz hsize hby hzs hk0 (.slice A n c) n rows.flatten hown.2.2 ad news.length c2 news.flatten (hfl news hk) hcells hone h63 hb (Nat.zero_le _)
    rw [ownBlock_slice] at h3 h5
    rcases h2.2 with ⟨hv, hn⟩ | ⟨g, cap, cur, hv, r⟩
    · subst hv
      have hz0 : n + news.length = 0 := hn
      refine ⟨none, 0, w', by rw [hrun, hz0], ⟨by simp [← hown.1], hkk, ?_⟩, h3, h5⟩
      rw [List.flatten_append, hz0]
      rw [hz0] at h2
      exact h2
    · subst hv
      exact ⟨_, _, w', hrun, ⟨by simp [← hown.1], hkk, by rw [List.flatten_append]; exact h2⟩, h3, h5⟩

variable {w}

theorem wpList_appendR {ops : Array Oper} {rest : List Oper} {o : Oper} {a : Act} {Q : Exit → Act → World → Prop} (hw : Region.wanted o (yielded ops a.tmps) = true) (s x : Operand) (t e : TypeId) (k by_ : Nat)
    (ho : o.op = .call { callee := .builtin .append, args := #[s, x], argTypes := #[t, t] }) (ht : IsRows P t e k by_)
    (A : Option Addr) (n c : Nat) (rows : List (List Value)) (hs : a.eval s = .slice A n c) (hown : OwnR w e k A n c rows) (B : Nat) (A2 : Option Addr) (n2 c2 : Nat) (news : List (List Value)) (hx : a.eval x = .slice A2 n2 c2) (hr : Recs w B k A2 news) (hn2 : n2 = news.length)
    (hk : ∀ r ∈ news, r.length = k) (h1 : ∀ r ∈ news, ∀ u ∈ r, u.oneCell' = true) (hb : (n + n2) * by_ ≤ 140737488355328) (h63 : n + n2 ≤ maxLen)
    (h : ∀ A' c' w', OwnR w' e k A' (n + n2) c' (rows ++ news) → w.grownBy w' (blkOf A) → (blkOf A' = blkOf A ∨ blkOf A' = some w.heap.size) → wpList P ops Q rest (a.put o.dst (.slice A' (n + n2) c')) w') : wpList P ops Q (o :: rest) a w := by
  obtain ⟨A', c', w', hr, h2, h3, h4⟩ := run_appendR (P := P) w t o.type e k by_ ht A n c rows hown A2 n2 c2 news hr hn2 hk h1 hb h63
  refine BigFrame.wpList_want hw fun K hK => ?_
  unfold Oper.wp execOp
  simp only [ho, resolve, invoke, builtin, Sem.run_bind, Sem.run_pure, Result.andThen_ok, List.map_toArray, List.map_cons, List.map_nil, hs, hx, hr]
  exact hK _ _ (h A' c' w' h2 h3 h4)
end

/-- one row in a new block -/
theorem Recs.new (w : World) (cs : Array Value) (e : TypeId) (fr : Nat × Nat) (k : Nat) (row : List Value) (hk : row.length = k) (h : cs.toList = row) : Recs (w.alloc (.cells cs e fr)) (w.heap.size + 1) k (some ⟨w.heap.size, 0, none⟩) [row] := fun _ =>
  ⟨w.heap.size, 0, rfl, by omega, fun i r hr => by
    have hi : i = 0 := by
      have := (List.getElem?_eq_some_iff.1 hr).1
      simpa using this
    subst hi
    simp at hr
    subst hr
    refine ⟨hk, fun j v hj => ?_⟩
    rw [cell_of_row _ _ _ cs e fr (heap_alloc_new w _)]
    have : cs.toList[0 + 0 * k + j]? = some v := by rw [h]; simpa using hj
    simpa using this⟩
end Kin
namespace Kin
open Go Go.RowKit

theorem strCells_B8 (s : ByteArray) : Lib.strCells s = B8 s.data.toList := rfl
section
variable {P : Program} {w : World}

theorem run_append8s (t u ty e : TypeId) (ht : IsBytes P t e) (hu : P.underlying u = some .string)
    (A : Option Addr) (n c : Nat) (l : List UInt8) (hown : Own8 w e A n c l) (B : Nat) (hB : ∀ g, blkOf A = some g → B ≤ g) (hBs : B ≤ w.heap.size) (s : ByteArray) (hb : n + s.size ≤ 140737488355328) :
    ∃ A' c' w', (Builtin.append_ #[t, u] ty #[.slice A n c, .string s]).run P w = .ok (.slice A' (n + s.size) c') w' ∧ Own8 w' e A' (n + s.size) c' (l ++ s.data.toList) ∧ w.grownBy w' (blkOf A) ∧ (∀ g, blkOf A' = some g → B ≤ g) := by
  obtain ⟨ht, _, i, hi, hz, hsize, hby⟩ := ht
  have hown2 : w.ownsRow B e 1 (.slice A n c) n (B8 l) := by
    refine ⟨hown.2.1, ?_⟩
    rcases hown.2.2 with h | ⟨g, cap, cur, hv, _, r⟩
    · exact .inl h
    · refine .inr ⟨g, cap, cur, hv, ?_, r⟩
      injection hv with hA
      exact hB g (by rw [hA]; rfl)
  obtain ⟨v', w', hrun, h2, h3, h4⟩ := Lib.run_append_own_string (P := P) w B t u ty e i ht hu hi hz hsize hby (.slice A n c) n (B8 l) hown2 s (by unfold maxLen; omega) hb hBs
  rw [ownBlock_slice] at h3
  have hlen : n + s.size = (l ++ s.data.toList).length := by
    rw [List.length_append, ← hown.1]; rfl
  rw [strCells_B8, ← B8_append] at h2
  rcases h2.2 with ⟨hv, hn⟩ | ⟨g, cap, cur, hv, hg, r⟩
  · subst hv
    refine ⟨none, 0, w', by rw [hrun, hn], ⟨hlen, ?_⟩, h3, by simp [blkOf]⟩
    rw [hn]
    rw [hn] at h2
    exact ⟨h2.1, .inl ⟨rfl, rfl⟩⟩
  · subst hv
    exact ⟨_, _, w', hrun, ⟨hlen, h2.1, .inr ⟨g, cap, cur, rfl, Nat.zero_le _, r⟩⟩, h3, fun g' hg' => by simp [blkOf] at hg'; omega⟩
theorem wpList_append8s {ops : Array Oper} {rest : List Oper} {o : Oper} {a : Act} {Q : Exit → Act → World → Prop} (hw : Region.wanted o (yielded ops a.tmps) = true) (s x : Operand) (t e u : TypeId)
    (ho : o.op = .call { callee := .builtin .append, args := #[s, x], argTypes := #[t, u] }) (ht : IsBytes P t e) (hu : P.underlying u = some .string)
    (A : Option Addr) (n c : Nat) (l : List UInt8) (hs : a.eval s = .slice A n c) (hown : Own8 w e A n c l) (B : Nat) (hB : ∀ g, blkOf A = some g → B ≤ g) (hBs : B ≤ w.heap.size) (S : ByteArray) (hx : a.eval x = .string S) (hb : n + S.size ≤ 140737488355328)
    (h : ∀ A' c' w', Own8 w' e A' (n + S.size) c' (l ++ S.data.toList) → w.grownBy w' (blkOf A) → (∀ g, blkOf A' = some g → B ≤ g) → wpList P ops Q rest (a.put o.dst (.slice A' (n + S.size) c')) w') : wpList P ops Q (o :: rest) a w := by
  obtain ⟨A', c', w', hr, h2, h3, h4⟩ := run_append8s (P := P) (w := w) t u o.type e ht hu A n c l hown B hB hBs S hb
  refine BigFrame.wpList_want hw fun K hK => ?_
  unfold Oper.wp execOp
  simp only [ho, resolve, invoke, builtin, Sem.run_bind, Sem.run_pure, Result.andThen_ok, List.map_toArray, List.map_cons, List.map_nil, hs, hx, hr]
  exact hK _ _ (h A' c' w' h2 h3 h4)
theorem own8_cap {e : TypeId} {A : Option Addr} {n c : Nat} {l : List UInt8} (h : Own8 w e A n c l) : n ≤ c := by
  rcases h.2.2 with ⟨hv, _⟩ | ⟨g, cap, cur, hv, _, _, h1, _⟩
  · injection hv with _ h2 h3; omega
  · injection hv with _ _ h3; omega
/-- make([]T, 0, c) -/
theorem run_make0 (t e : TypeId) (i : TypeInfo) (z : Value) (ht : P.underlying t = some (.slice e)) (hi : P.info? e = some i) (hz : i.zero = some z) (kl kc : IntKind) (c : Nat) (hb : i.bytes * c ≤ 281474976710656) (h63 : c ≤ maxLen) (w : World) :
    (Instr.makeSlice t (.int kl 0) (.int kc (c : Int))).run P w = .ok (.slice (some ⟨w.heap.size, 0, none⟩) 0 c) (w.alloc (.cells (madeCells z.cells (c * i.size)) e)) := by
  unfold maxLen at h63
  have hb' : (i.bytes : Int) * (c : Int) ≤ 281474976710656 := by
    have h : ((i.bytes * c : Nat) : Int) ≤ 281474976710656 := by omega
    rwa [Int.natCast_mul] at h
  have hr := run_make (P := P) w t e i z ht hi hz kl kc 0 c (Int.le_refl _) (by omega) hb' (by omega)
  simpa using hr
theorem run_make80 {t e : TypeId} (ht : IsBytes P t e) (kl kc : IntKind) (c : Nat) (hb : c ≤ 281474976710656) (w : World) :
    (Instr.makeSlice t (.int kl 0) (.int kc (c : Int))).run P w = .ok (.slice (some ⟨w.heap.size, 0, none⟩) 0 c) (w.alloc (.cells (madeCells #[.int .u8 0] c) e)) := by
  obtain ⟨ht, _, i, hi, hz, hsize, hby⟩ := ht
  have := run_make0 t e i _ ht hi hz kl kc c (by rw [hby]; omega) (by unfold maxLen; omega) w
  rw [hsize, Nat.mul_one] at this
  exact this
theorem Own8.new0 (w : World) (cs : Array Value) (e : TypeId) (c : Nat) (hs : cs.size = c) (hm : c ≤ maxLen) : Own8 (w.alloc (.cells cs e)) e (some ⟨w.heap.size, 0, none⟩) 0 c [] :=
  ⟨rfl, by simp [B8], Or.inr ⟨w.heap.size, c, cs, rfl, Nat.zero_le _, heap_alloc_new w _, Nat.zero_le _, hm, by omega, by simp [B8]⟩⟩
end
end Kin
