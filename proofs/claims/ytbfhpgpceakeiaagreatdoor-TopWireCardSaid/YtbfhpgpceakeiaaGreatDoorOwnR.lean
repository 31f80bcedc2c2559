/- Rows of structs that a call makes: a slice of the call's own that reads as a list of rows; append. Over any program; no conditions but the room. -/
import Derived.Test.YtbfhpgpceakeiaaGreatDoorRecs
import Derived.Test.YtbfhpgpceakeiaaGreatDoorObj
namespace Kin
open Go Go.RowKit

/-- the slice is of the call's own (or nil) and holds the rows, each of k cells -/
def OwnR (w : World) (e : TypeId) (k : Nat) (A : Option Addr) (n c : Nat) (rows : List (List Value)) : Prop :=
  n = rows.length ∧ (∀ r ∈ rows, r.length = k) ∧ w.ownsRow 0 e k (.slice A n c) n rows.flatten

theorem flatten_at {k : Nat} : ∀ (rows : List (List Value)) (_ : ∀ r ∈ rows, r.length = k) (i j : Nat) (r : List Value), rows[i]? = some r → j < k → rows.flatten[i * k + j]? = r[j]?
  | [], _, i, j, r, h, _ => by simp at h
  | x :: rows, hk, 0, j, r, h, hj => by
    have hx : x.length = k := hk x (by simp)
    simp at h
    subst h
    rw [List.flatten_cons, Nat.zero_mul, Nat.zero_add, List.getElem?_append_left (by omega)]
  | x :: rows, hk, i + 1, j, r, h, hj => by
    have hx : x.length = k := hk x (by simp)
    rw [List.flatten_cons, List.getElem?_append_right (by rw [hx, Nat.succ_mul]; omega), hx, show (i + 1) * k + j - k = i * k + j from by rw [Nat.succ_mul]; omega]
    exact flatten_at rows (fun r hr => hk r (by simp [hr])) i j r (by simpa using h) hj

section
variable {w w' : World} {e : TypeId} {k : Nat} {A : Option Addr} {n c : Nat} {rows : List (List Value)}

theorem OwnR.nil (w : World) (e : TypeId) (k : Nat) : OwnR w e k none 0 0 [] := ⟨rfl, by simp, World.ownsRow_nil _ _ _ _⟩
theorem OwnR.lt (h : OwnR w e k A n c rows) : ∀ g, blkOf A = some g → g < w.heap.size := fun g hg => (h.2.2.lt g (by rw [ownBlock_slice]; exact hg)).2
theorem OwnR.cap (h : OwnR w e k A n c rows) : n ≤ c := by
  rcases h.2.2.2 with ⟨hv, _⟩ | ⟨g, cap, cur, hv, _, _, h1, _⟩
  · injection hv with _ h2 h3; omega
  · injection hv with _ _ h3; omega
theorem OwnR.below {B : Nat} (h : OwnR w e k A n c rows) (hb : Below B w w') (hB : ∀ g, blkOf A = some g → g < B) : OwnR w' e k A n c rows := by
  refine ⟨h.1, h.2.1, h.2.2.1, ?_⟩
  rcases h.2.2.2 with h2 | ⟨g, cap, cur, hv, hg, hh, r⟩
  · exact Or.inl h2
  · have hA : A = some ⟨g, 0, none⟩ := by injection hv
    exact Or.inr ⟨g, cap, cur, hv, hg, by rw [hb.block g (hB g (by rw [hA]; rfl))]; exact hh, r⟩
theorem OwnR.next (h : OwnR w e k A n c rows) (hb : Below w.heap.size w w') : OwnR w' e k A n c rows := h.below hb h.lt
theorem OwnR.alloc (h : OwnR w e k A n c rows) (o : Obj) : OwnR (w.alloc o) e k A n c rows := ⟨h.1, h.2.1, h.2.2.alloc o⟩
theorem OwnR.drew (h : OwnR w e k A n c rows) : OwnR w.drew e k A n c rows := ⟨h.1, h.2.1, h.2.2.drew⟩
theorem Chg.ownR {S : Nat → Prop} {a b : World} (h : Chg S a b) (ho : OwnR a e k A n c rows) (hn : ∀ g, blkOf A = some g → ¬ S g) : OwnR b e k A n c rows := by
  refine ⟨ho.1, ho.2.1, ho.2.2.1, ?_⟩
  rcases ho.2.2.2 with h2 | ⟨g, cap, cur, hv, hg, hh, r⟩
  · exact Or.inl h2
  · have hA : A = some ⟨g, 0, none⟩ := by injection hv
    exact Or.inr ⟨g, cap, cur, hv, hg, by rw [h.block g (Blk.lt (t := e) hh) (hn g (by rw [hA]; rfl))]; exact hh, r⟩
/-- its block is another than one of another type -/
theorem OwnR.ne_blk {g : Nat} {t : TypeId} {cs : Array Value} (h : OwnR w e k A n c rows) (hg : Blk w g t cs) (hne : e ≠ t) : blkOf A ≠ some g := by
  have := own_blk_ne h.2.2 hg hne
  rwa [ownBlock_slice] at this
theorem OwnR.ne_own {e' : TypeId} {A' : Option Addr} {n' c' : Nat} {l : List UInt8} (h : OwnR w e k A n c rows) (h' : Own8 w e' A' n' c' l) (hne : e ≠ e') : ∀ g, blkOf A = some g → blkOf A' ≠ some g := by
  intro g hg hg'
  rcases h'.2.2 with ⟨hv, _⟩ | ⟨g', cap, cur, hv, _, hh, _⟩
  · injection hv with hA; subst hA; cases hg'
  · injection hv with hA
    subst hA
    have : g' = g := by simpa [blkOf] using hg'
    subst this
    exact h.ne_blk (t := e') hh hne hg
/-- a row of it -/
theorem OwnR.at_ (h : OwnR w e k A n c rows) {i : Nat} (hi : i < n) : ∃ g r, A = some ⟨g, 0, none⟩ ∧ rows[i]? = some r ∧ r.length = k ∧ ∀ j v, r[j]? = some v → w.cell? ⟨g, i * k + j, none⟩ = some v := by
  obtain ⟨g, cap, hv, _, hlt⟩ := h.2.2.form (by omega)
  injection hv with hA _ hc
  subst hA
  have hl : i < rows.length := by rw [← h.1]; exact hi
  have hr := h.2.1 rows[i] (List.getElem_mem hl)
  refine ⟨g, rows[i], rfl, List.getElem?_eq_getElem hl, hr, fun j v hj => ?_⟩
  have hjk : j < k := by rw [← hr]; exact (List.getElem?_eq_some_iff.1 hj).1
  have := h.2.2.cellAt (i * k + j) (by
    have : (i + 1) * k ≤ n * k := Nat.mul_le_mul_right _ hi
    rw [Nat.succ_mul] at this; omega)
  rw [this, flatten_at rows h.2.1 i j _ (List.getElem?_eq_getElem hl) hjk, hj]
theorem OwnR.recs (h : OwnR w e k A n c rows) : Recs w w.heap.size k A rows := fun hl => by
  obtain ⟨g, r, hA, _, _, _⟩ := h.at_ (i := 0) (by rw [h.1]; exact hl)
  refine ⟨g, 0, hA, h.lt g (by rw [hA]; rfl), fun i row hi => ?_⟩
  have hil : i < rows.length := (List.getElem?_eq_some_iff.1 hi).1
  obtain ⟨g', r', hA', hr', hrl, hc⟩ := h.at_ (i := i) (by rw [h.1]; exact hil)
  rw [hA] at hA'
  injection hA' with hA'
  injection hA' with hA'
  subst hA'
  rw [hi] at hr'
  injection hr' with hr'
  subst hr'
  exact ⟨hrl, fun j v hj => by rw [Nat.zero_add]; exact hc j v hj⟩
end

/-- t is a slice of structs e of k cells -/
def IsRows (P : Program) (t e : TypeId) (k by_ : Nat) : Prop := P.underlying t = some (.slice e) ∧ 0 < k ∧ ∃ i z, P.info? e = some i ∧ i.zero = some z ∧ i.size = k ∧ i.bytes = by_ ∧ z.cells.size = k
theorem isRows_of {P : Program} {t e : TypeId} {k by_ : Nat} {z : Value} (ht : P.underlying t = some (.slice e)) (hk : 0 < k) (h : (P.info? e).map (fun i => (i.zero, i.size, i.bytes)) = some (some z, k, by_)) (hz : z.cells.size = k) : IsRows P t e k by_ := by
  obtain ⟨i, h1, h2, h3, h4⟩ := info_parts h
  exact ⟨ht, hk, i, z, h1, h2, h3, h4, hz⟩

section
variable {P : Program} (w : World)

/-- append of rows that lie at an address -/
theorem run_appendR (t ty e : TypeId) (k by_ : Nat) (ht : IsRows P t e k by_) (A : Option Addr) (n c : Nat) (rows : List (List Value)) (hown : OwnR w e k A n c rows)
    (A2 : Option Addr) (n2 c2 : Nat) (news : List (List Value)) {B : Nat} (hr : Recs w B k A2 news) (hn2 : n2 = news.length) (hk : ∀ r ∈ news, r.length = k) (h1 : ∀ r ∈ news, ∀ u ∈ r, u.oneCell' = true) (hb : (n + n2) * by_ ≤ 140737488355328) (h63 : n + n2 ≤ maxLen) :
    ∃ A' c' w', (Builtin.append_ #[t, t] ty #[.slice A n c, .slice A2 n2 c2]).run P w = .ok (.slice A' (n + n2) c') w' ∧ OwnR w' e k A' (n + n2) c' (rows ++ news) ∧ w.grownBy w' (blkOf A) ∧
      (blkOf A' = blkOf A ∨ blkOf A' = some w.heap.size) := by
  obtain ⟨ht, hk0, i, z, hi, hz, hsize, hby, hzs⟩ := ht
  have hkk : ∀ r ∈ rows ++ news, r.length = k := by
    intro r hr
    rcases List.mem_append.1 hr with h | h
    · exact hown.2.1 r h
    · exact hk r h
  have hfl : ∀ l : List (List Value), (∀ r ∈ l, r.length = k) → l.flatten.length = l.length * k := by
    intro l
    induction l with
    | nil => simp
    | cons x l ih =>
      intro h
      rw [List.flatten_cons, List.length_append, ih (fun r hr => h r (by simp [hr])), h x (by simp), List.length_cons, Nat.succ_mul]; omega
  subst hn2
  rcases A2 with _ | ad
  · have hm : news = [] := by
      rcases news with _ | ⟨b, m⟩
      · rfl
      · obtain ⟨_, _, h, _⟩ := hr (by simp)
        cases h
    subst hm
    refine ⟨A, c, w, ?_, by simpa using hown, World.grownBy.refl w _, .inl rfl⟩
    rcases hown.2.2.2 with ⟨hv, hn⟩ | ⟨g, cap, cur, hv, _, _, hnc, _⟩
    · injection hv with hA hn2 hc
      subst hA hn hc
      simp [Builtin.append_, run_underlying ht, Go.sizeOf, typeInfo, hi, Builtin.lenOf, Builtin.firstCells]
    · injection hv with hA hn2 hc
      subst hA hc
      simp [Builtin.append_, run_underlying ht, Go.sizeOf, typeInfo, hi, Builtin.lenOf, Builtin.firstCells, hnc, storeCells]
  · have hcells : ∀ j u, news.flatten[j]? = some u → w.cell? (ad.add j) = some u := by
      intro j u hu
      have hj : j < news.length * k := by rw [← hfl news hk]; exact (List.getElem?_eq_some_iff.1 hu).1
      have hq : j / k < news.length := (Nat.div_lt_iff_lt_mul hk0).2 hj
      obtain ⟨b, off, h, _, hc⟩ := hr (Nat.lt_of_le_of_lt (Nat.zero_le _) hq)
      injection h with h
      subst h
      have hmod := Nat.mod_lt j hk0
      have e := flatten_at news hk (j / k) (j % k) _ (List.getElem?_eq_getElem hq) hmod
      rw [Nat.div_add_mod'] at e
      rw [e] at hu
      have := (hc (j / k) _ (List.getElem?_eq_getElem hq)).2 (j % k) u hu
      rw [Nat.add_assoc, Nat.div_add_mod'] at this
      rw [Addr.add_lit]
      exact this
    have hone : ∀ u ∈ news.flatten, u.oneCell' = true := by
      intro u hu
      obtain ⟨r, hr1, hr2⟩ := List.mem_flatten.1 hu
      exact h1 r hr1 u hr2
    obtain ⟨v', w', hrun, h2, h3, h4, h5⟩ := run_append_own_at (P := P) w 0 t ty e i z k by_ ht hi hz hsize hby hzs hk0 (.slice A n c) n rows.flatten hown.2.2 ad news.length c2 news.flatten (hfl news hk) hcells hone h63 hb (Nat.zero_le _)
    rw [ownBlock_slice] at h3 h5
    rcases h2.2 with ⟨hv, hn⟩ | ⟨g, cap, cur, hv, r⟩
    · subst hv
      have hz0 : n + news.length = 0 := hn
      refine ⟨none, 0, w', by rw [hrun, hz0], ⟨by simp [← hown.1], hkk, ?_⟩, h3, h5⟩
      rw [List.flatten_append, hz0]
      rw [hz0] at h2
      exact h2
    · subst hv
      exact ⟨_, _, w', hrun, ⟨by simp [← hown.1], hkk, by rw [List.flatten_append]; exact h2⟩, h3, h5⟩

variable {w}

theorem wpList_appendR {ops : Array Oper} {rest : List Oper} {o : Oper} {a : Act} {Q : Exit → Act → World → Prop} (hw : Region.wanted o (yielded ops a.tmps) = true) (s x : Operand) (t e : TypeId) (k by_ : Nat)
    (ho : o.op = .call { callee := .builtin .append, args := #[s, x], argTypes := #[t, t] }) (ht : IsRows P t e k by_)
    (A : Option Addr) (n c : Nat) (rows : List (List Value)) (hs : a.eval s = .slice A n c) (hown : OwnR w e k A n c rows) (B : Nat) (A2 : Option Addr) (n2 c2 : Nat) (news : List (List Value)) (hx : a.eval x = .slice A2 n2 c2) (hr : Recs w B k A2 news) (hn2 : n2 = news.length)
    (hk : ∀ r ∈ news, r.length = k) (h1 : ∀ r ∈ news, ∀ u ∈ r, u.oneCell' = true) (hb : (n + n2) * by_ ≤ 140737488355328) (h63 : n + n2 ≤ maxLen)
    (h : ∀ A' c' w', OwnR w' e k A' (n + n2) c' (rows ++ news) → w.grownBy w' (blkOf A) → (blkOf A' = blkOf A ∨ blkOf A' = some w.heap.size) → wpList P ops Q rest (a.put o.dst (.slice A' (n + n2) c')) w') : wpList P ops Q (o :: rest) a w := by
  obtain ⟨A', c', w', hr, h2, h3, h4⟩ := run_appendR (P := P) w t o.type e k by_ ht A n c rows hown A2 n2 c2 news hr hn2 hk h1 hb h63
  refine BigFrame.wpList_want hw fun K hK => ?_
  unfold Oper.wp execOp
  simp only [ho, resolve, invoke, builtin, Sem.run_bind, Sem.run_pure, Result.andThen_ok, List.map_toArray, List.map_cons, List.map_nil, hs, hx, hr]
  exact hK _ _ (h A' c' w' h2 h3 h4)
end

/-- one row in a new block -/
theorem Recs.new (w : World) (cs : Array Value) (e : TypeId) (fr : Nat × Nat) (k : Nat) (row : List Value) (hk : row.length = k) (h : cs.toList = row) : Recs (w.alloc (.cells cs e fr)) (w.heap.size + 1) k (some ⟨w.heap.size, 0, none⟩) [row] := fun _ =>
  ⟨w.heap.size, 0, rfl, by omega, fun i r hr => by
    have hi : i = 0 := by
      have := (List.getElem?_eq_some_iff.1 hr).1
      simpa using this
    subst hi
    simp at hr
    subst hr
    refine ⟨hk, fun j v hj => ?_⟩
    rw [cell_of_row _ _ _ cs e fr (heap_alloc_new w _)]
    have : cs.toList[0 + 0 * k + j]? = some v := by rw [h]; simpa using hj
    simpa using this⟩
end Kin
