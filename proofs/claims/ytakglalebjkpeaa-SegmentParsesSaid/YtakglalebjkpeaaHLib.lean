/- Texts of this claim in one: HLib. What each proves, and on what conditions, its own words say. -/
import Derived.Below
import Derived.Laws.OwnMore
import Derived.Laws.Rows
import Derived.Laws.Tables
import Derived.Deep.AppendLies
import Derived.Deep.Draws
import Derived.Deep.OwnRows
import Derived.Maps.AppendAt
import Derived.Lib.AppendZeros
import Derived.BigFrame
import Derived.OwnWalk
import Derived.Laws.IdiomStrings
import Derived.Lib.BufferRead
import Derived.Lib.Strings
import Derived.Laws.CopyOwn
import Derived.Laws.Slices
import Derived.Lib.ConvBytes
import Derived.Laws.CopyRow
namespace Kin
open Go Go.RowKit

/-- the slice at A reads as the bytes l, and lies below block B -/
def Byt (w : World) (B : Nat) (A : Option Addr) (l : List UInt8) : Prop :=
  0 < l.length → ∃ b off, A = some ⟨b, off, none⟩ ∧ b < B ∧ ∀ j x, l[j]? = some x → w.cell? ⟨b, off + j, none⟩ = some (.int .u8 (x.toNat : Int))

section
variable {w w' : World} {B B' : Nat} {A : Option Addr} {l : List UInt8}

theorem Byt.nil : Byt w B A [] := fun h => absurd h (by simp)
theorem Byt.keep (h : Byt w B A l) (hk : ∀ p : Addr, p.block < B → w'.cell? p = w.cell? p) : Byt w' B A l := fun hl => by
  obtain ⟨b, off, e, hb, hc⟩ := h hl
  exact ⟨b, off, e, hb, fun j x hx => (hk ⟨b, off + j, none⟩ hb).trans (hc j x hx)⟩
theorem Byt.more (h : Byt w B A l) (hB : B ≤ B') : Byt w B' A l := fun hl => by
  obtain ⟨b, off, e, hb, hc⟩ := h hl
  exact ⟨b, off, e, Nat.lt_of_lt_of_le hb hB, hc⟩
theorem Byt.below (h : Byt w B A l) (hb : Below B w w') : Byt w' B A l := h.keep fun _ hp => hb.cell hp
theorem Byt.drew (h : Byt w B A l) : Byt w.drew B A l := h
theorem Byt.drewN (h : Byt w B A l) (k : Nat) : Byt (w.drewN k) B A l := h
theorem Byt.here (h : Byt w B A l) : Byt w w.heap.size A l := fun hl => by
  obtain ⟨b, off, e, _, hc⟩ := h hl
  exact ⟨b, off, e, block_lt_of_cell (a := ⟨b, off + 0, none⟩) (hc 0 _ (List.getElem?_eq_getElem hl)), hc⟩
theorem Byt.at_ (h : Byt w B A l) {k : Nat} (hk : k < l.length) : ∃ b off, A = some ⟨b, off, none⟩ ∧ b < B ∧ w.cell? ⟨b, off + k, none⟩ = some (.int .u8 ((l[k]).toNat : Int)) := by
  obtain ⟨b, off, e, hb, hc⟩ := h (by omega)
  exact ⟨b, off, e, hb, hc k _ (List.getElem?_eq_getElem hk)⟩
end

/-- a row of n cells by a function -/
def rowA (n : Nat) (f : Nat → Value) : Array Value := (Array.range n).map f
theorem size_rowA (n : Nat) (f : Nat → Value) : (rowA n f).size = n := by simp [rowA]
theorem getElem?_rowA {n : Nat} (f : Nat → Value) {i : Nat} (h : i < n) : (rowA n f)[i]? = some (f i) := by simp [rowA, h]
theorem rowA_congr {n : Nat} {f g : Nat → Value} (h : ∀ i, i < n → f i = g i) : rowA n f = rowA n g := by
  apply Array.ext_getElem?
  intro i
  by_cases hi : i < n
  · rw [getElem?_rowA _ hi, getElem?_rowA _ hi, h i hi]
  · rw [Array.getElem?_eq_none (by rw [size_rowA]; omega), Array.getElem?_eq_none (by rw [size_rowA]; omega)]
theorem rowA_set (n : Nat) (f : Nat → Value) (i : Nat) (u : Value) : (rowA n f).setIfInBounds i u = rowA n (fun j => if j = i then u else f j) := by
  apply Array.ext_getElem?
  intro j
  rw [Array.getElem?_setIfInBounds]
  by_cases hj : j < n
  · rw [getElem?_rowA _ hj, getElem?_rowA _ hj]
    by_cases e : i = j
    · subst e; simp [size_rowA, hj]
    · simp [e, Ne.symm e]
  · rw [Array.getElem?_eq_none (xs := rowA n fun j => if j = i then u else f j) (by rw [size_rowA]; omega)]
    by_cases e : i = j
    · subst e; simp [size_rowA, hj]
    · simp only [e, if_false]; exact Array.getElem?_eq_none (by rw [size_rowA]; omega)
theorem oneCell_rowA (n : Nat) (f : Nat → Value) (h : ∀ i, i < n → (f i).oneCell' = true) : (rowA n f).all (·.oneCell') = true := by
  rw [Array.all_eq_true_iff_forall_mem]
  intro v hv
  obtain ⟨i, hi, rfl⟩ : ∃ i, i < n ∧ f i = v := by simpa [rowA] using hv
  exact h i hi

/-- a block that is known whole -/
def Blk (w : World) (g : Nat) (t : TypeId) (cs : Array Value) : Prop := w.heap[g]? = some (.cells cs t (0, 0))
section
variable {w w' : World} {g : Nat} {t : TypeId} {cs : Array Value}

theorem Blk.lt (h : Blk w g t cs) : g < w.heap.size := by
  rcases Nat.lt_or_ge g w.heap.size with hlt | hge
  · exact hlt
  · unfold Blk at h; rw [Array.getElem?_eq_none hge] at h; cases h
theorem Blk.cell (h : Blk w g t cs) (i : Nat) : w.cell? ⟨g, i, none⟩ = cs[i]? := cell_of_row w g i cs t (0, 0) h
theorem Blk.frozen (h : Blk w g t cs) (i : Nat) : w.frozen? ⟨g, i, none⟩ = false := by
  unfold Blk at h
  simp [World.frozen?, h]
theorem Blk.new (w : World) (t : TypeId) (cs : Array Value) : Blk (w.alloc (.cells cs t)) w.heap.size t cs := heap_alloc_new w _
theorem Blk.drew (h : Blk w g t cs) : Blk w.drew g t cs := h
theorem Blk.drewN (h : Blk w g t cs) (n : Nat) : Blk (w.drewN n) g t cs := h
theorem Blk.alloc (h : Blk w g t cs) (o : Obj) : Blk (w.alloc o) g t cs := (Below.heap_alloc w o g h.lt).trans h
theorem Blk.set_ (h : Blk w g t cs) (i : Nat) (u : Value) : Blk (w.setCell ⟨g, i, none⟩ u) g t (cs.setIfInBounds i u) := by
  unfold Blk at h ⊢
  simp [World.setCell, Array.getElem?_modify, h]
theorem Blk.setRow (h : Blk w g t cs) (c' : Array Value) : Blk (w.setRow g c') g t c' := by
  unfold Blk at h ⊢
  simp [World.setRow, Array.getElem?_modify, h]
theorem Blk.setRow_far (h : Blk w g t cs) {k : Nat} (hk : g ≠ k) (c' : Array Value) : Blk (w.setRow k c') g t cs := by
  unfold Blk at h ⊢
  simp only [World.setRow, Array.getElem?_modify]
  rw [if_neg (by omega)]
  exact h
theorem Blk.far (h : Blk w g t cs) {p : Addr} (hp : g ≠ p.block) (u : Value) : Blk (w.setCell p u) g t cs := (Below.heap_setCell w p u g hp).trans h
theorem Blk.below {B : Nat} (h : Blk w g t cs) (hb : Below B w w') (hg : g < B) : Blk w' g t cs := (hb.block g hg).trans h
theorem Blk.grown {row : Option Nat} (h : Blk w g t cs) (hb : w.grownBy w' row) (hg : some g ≠ row) : Blk w' g t cs := (hb.block g h.lt hg).trans h
theorem Blk.ne_ {g' : Nat} {t' : TypeId} {cs' : Array Value} (h : Blk w g t cs) (h' : Blk w g' t' cs') (hne : t ≠ t') : g ≠ g' := by
  rintro rfl
  unfold Blk at h h'
  rw [h] at h'
  injection h' with h'
  injection h' with _ ht
  exact hne ht
theorem own_blk_ne {base : Nat} {e : TypeId} {size n : Nat} {v : Value} {xs : List Value} (h : w.ownsRow base e size v n xs) (hg : Blk w g t cs) (hne : e ≠ t) : v.ownBlock ≠ some g := by
  rcases h.2 with ⟨rfl, _⟩ | ⟨g', cap, cur, rfl, _, hh, _⟩
  · simp [Value.ownBlock]
  · intro he
    have : g' = g := by simpa [Value.ownBlock] using he
    subst this
    exact Blk.ne_ (t := e) hh hg hne rfl
theorem below_setRow' {B g : Nat} {w0 w : World} (hb : Below B w0 w) (hBg : B ≤ g) (cs : Array Value) : Below B w0 (w.setRow g cs) :=
  hb.trans ⟨rfl, rfl, rfl, by simp [World.setRow], fun k hk => by simp only [World.setRow, Array.getElem?_modify]; rw [if_neg (by omega)]⟩
theorem bcell {W w1 : World} (hb : Below W.heap.size W w1) : (∀ b o, b < W.heap.size → w1.cell? ⟨b, o, none⟩ = W.cell? ⟨b, o, none⟩) ∧ (∀ b o, b < W.heap.size → w1.frozen? ⟨b, o, none⟩ = W.frozen? ⟨b, o, none⟩) :=
  ⟨fun b o h => hb.cell (p := ⟨b, o, none⟩) h, fun b o h => hb.frozen (p := ⟨b, o, none⟩) h⟩
end

theorem bnext {a b c : World} (h : Below a.heap.size a b) (k : Below b.heap.size b c) : Below a.heap.size a c := h.trans (k.mono h.size)
theorem ret_int {k : IntKind} {a b : Int} (h : a = b) : Ending.returned (.int k a) = .returned (.int k b) := by rw [h]
theorem hide {p : Prop} (h : p) : Hid p := h
end Kin
namespace Kin
open Go Go.RowKit

/-- bytes as values -/
def B8 (l : List UInt8) : List Value := l.map fun b => .int .u8 (b.toNat : Int)
theorem length_B8 (l : List UInt8) : (B8 l).length = l.length := by simp [B8]
theorem B8_append (l m : List UInt8) : B8 (l ++ m) = B8 l ++ B8 m := by simp [B8]
theorem getElem?_B8 (l : List UInt8) (j : Nat) : (B8 l)[j]? = l[j]?.map fun b => .int .u8 (b.toNat : Int) := by simp [B8]
theorem oneCell_B8 (l : List UInt8) : ∀ u ∈ B8 l, u.oneCell' = true := by
  intro u hu
  obtain ⟨b, _, rfl⟩ := List.mem_map.1 hu
  rfl
theorem B8_zeros (m : Nat) : B8 (List.replicate m 0) = List.replicate m (.int .u8 0) := by simp [B8]

/-- the slice is a row of the call's own (or nil) that holds the bytes l -/
def Own8 (w : World) (e : TypeId) (A : Option Addr) (n c : Nat) (l : List UInt8) : Prop := n = l.length ∧ w.ownsRow 0 e 1 (.slice A n c) n (B8 l)
/-- the block of a slice -/
def blkOf (A : Option Addr) : Option Nat := A.map (·.block)
theorem ownBlock_slice (A : Option Addr) (n c : Nat) : (Value.slice A n c).ownBlock = blkOf A := by cases A <;> rfl

section
variable {w w' : World} {e : TypeId} {A : Option Addr} {n c : Nat} {l : List UInt8}

theorem Own8.nil (w : World) (e : TypeId) : Own8 w e none 0 0 [] := ⟨rfl, World.ownsRow_nil _ _ _ _⟩
theorem Own8.len (h : Own8 w e A n c l) : n = l.length := h.1
theorem Own8.byt (h : Own8 w e A n c l) : Byt w w.heap.size A l := fun hl => by
  obtain ⟨g, cap, hv, _, hlt⟩ := h.2.form (by rw [h.1]; exact hl)
  have hA : A = some ⟨g, 0, none⟩ := by injection hv
  subst hA
  refine ⟨g, 0, rfl, hlt, fun j x hx => ?_⟩
  have := h.2.cells (g := g) rfl j (.int .u8 (x.toNat : Int)) (by rw [getElem?_B8, hx]; rfl)
  simpa [Addr.add_lit] using this
theorem Own8.lt (h : Own8 w e A n c l) : ∀ g, blkOf A = some g → g < w.heap.size := fun g hg => (h.2.lt g (by rw [ownBlock_slice]; exact hg)).2
theorem Own8.kept {row : Option Nat} (h : Own8 w e A n c l) (hg : w.grownBy w' row) (hne : blkOf A = none ∨ blkOf A ≠ row) : Own8 w' e A n c l :=
  ⟨h.1, h.2.kept hg (by rw [ownBlock_slice]; exact hne)⟩
theorem Own8.below {B : Nat} (h : Own8 w e A n c l) (hb : Below B w w') (hB : ∀ g, blkOf A = some g → g < B) : Own8 w' e A n c l := by
  refine ⟨h.1, h.2.1, ?_⟩
  rcases h.2.2 with h2 | ⟨g, cap, cur, hv, hg, hh, r⟩
  · exact Or.inl h2
  · have hA : A = some ⟨g, 0, none⟩ := by injection hv
    exact Or.inr ⟨g, cap, cur, hv, hg, by rw [hb.block g (hB g (by rw [hA]; rfl))]; exact hh, r⟩
theorem Own8.alloc (h : Own8 w e A n c l) (o : Obj) : Own8 (w.alloc o) e A n c l := ⟨h.1, h.2.alloc o⟩
theorem Own8.drew (h : Own8 w e A n c l) : Own8 w.drew e A n c l := ⟨h.1, h.2.drew⟩
theorem Own8.drewN (h : Own8 w e A n c l) (k : Nat) : Own8 (w.drewN k) e A n c l := h
theorem Own8.setFar (h : Own8 w e A n c l) {p : Addr} (hp : blkOf A ≠ some p.block) (u : Value) : Own8 (w.setCell p u) e A n c l := by
  refine ⟨h.1, h.2.1, ?_⟩
  rcases h.2.2 with h2 | ⟨g, cap, cur, hv, hg, hh, r⟩
  · exact Or.inl h2
  · have hA : A = some ⟨g, 0, none⟩ := by injection hv
    exact Or.inr ⟨g, cap, cur, hv, hg, by rw [Below.heap_setCell _ _ _ _ (fun e => hp (by rw [hA, ← e]; rfl))]; exact hh, r⟩
/-- an index of it -/
theorem Own8.at_ (h : Own8 w e A n c l) {k : Nat} (hk : k < n) : ∃ g b, A = some ⟨g, 0, none⟩ ∧ l[k]? = some b ∧ w.cell? ⟨g, k, none⟩ = some (.int .u8 (b.toNat : Int)) ∧ w.frozen? ⟨g, k, none⟩ = false := by
  obtain ⟨g, cap, hv, _, hlt⟩ := h.2.form (by omega)
  injection hv with hA _ hc
  subst hA
  have hl : k < l.length := by rw [← h.1]; exact hk
  refine ⟨g, l[k], rfl, List.getElem?_eq_getElem hl, ?_, h.2.frozenAt k⟩
  have := h.2.cellAt k (by omega)
  rw [this, getElem?_B8, List.getElem?_eq_getElem hl]; rfl
theorem Own8.at0 {g : Nat} (h : Own8 w e (some ⟨g, 0, none⟩) n c l) {k : Nat} (hk : k < n) : ∃ b : UInt8, w.cell? ⟨g, k, none⟩ = some (.int .u8 (b.toNat : Int)) ∧ w.frozen? ⟨g, k, none⟩ = false := by
  obtain ⟨g', b, hg, _, h1, h2⟩ := h.at_ hk
  injection hg with hg
  injection hg with hg
  subst hg
  exact ⟨b, h1, h2⟩
/-- a store into it -/
theorem Own8.set (h : Own8 w e A n c l) {g k : Nat} (hA : A = some ⟨g, 0, none⟩) (b : UInt8) : Own8 (w.setCell ⟨g, k, none⟩ (.int .u8 (b.toNat : Int))) e A n c (l.set k b) := by
  subst hA
  refine ⟨by simp [h.1], ?_⟩
  rcases h.2.2 with ⟨hv, _⟩ | ⟨g', cap, cur, hv, hg, hh, hnc, hcm, hcs, ht⟩
  · cases hv
  · injection hv with hA hn hc
    injection hA with hA
    injection hA with hA
    subst hA
    refine ⟨by rw [length_B8, List.length_set, ← length_B8]; exact h.2.1, Or.inr ⟨g, cap, cur.setIfInBounds k (.int .u8 (b.toNat : Int)), by rw [hc], Nat.zero_le _, ?_, hnc, hcm, by simpa using hcs, ?_⟩⟩
    · have : Blk w g e cur := hh
      exact this.set_ k _
    · rw [Array.toList_setIfInBounds]
      rw [List.take_set, ht]
      simp [B8, List.map_set]
end

section
variable {P : Program} (w : World)

/-- append of bytes -/
theorem run_append8 (t ty e : TypeId) (i : TypeInfo) (ht : P.underlying t = some (.slice e)) (hi : P.info? e = some i) (hz : i.zero = some (.int .u8 0)) (hsize : i.size = 1) (hby : i.bytes = 1)
    (A : Option Addr) (n c : Nat) (l : List UInt8) (hown : Own8 w e A n c l) (B : Nat) (A2 : Option Addr) (n2 c2 : Nat) (m : List UInt8) (hr : Byt w B A2 m) (hn2 : n2 = m.length) (hb : n + n2 ≤ 140737488355328) :
    ∃ A' c' w', (Builtin.append_ #[t, t] ty #[.slice A n c, .slice A2 n2 c2]).run P w = .ok (.slice A' (n + n2) c') w' ∧ Own8 w' e A' (n + n2) c' (l ++ m) ∧ w.grownBy w' (blkOf A) ∧
      (blkOf A' = blkOf A ∨ blkOf A' = some w.heap.size) := by
  subst hn2
  rcases A2 with _ | ad
  · have hm : m = [] := by
      rcases m with _ | ⟨b, m⟩
      · rfl
      · obtain ⟨_, _, h, _⟩ := hr (by simp)
        cases h
    subst hm
    refine ⟨A, c, w, ?_, by simpa using hown, World.grownBy.refl w _, .inl rfl⟩
    rcases hown.2.2 with ⟨hv, hn⟩ | ⟨g, cap, cur, hv, _, _, hnc, _⟩
    · injection hv with hA hn2 hc
      subst hA hn hc
      simp [Builtin.append_, run_underlying ht, Go.sizeOf, typeInfo, hi, Builtin.lenOf, Builtin.firstCells]
    · injection hv with hA hn2 hc
      subst hA hc
      simp [Builtin.append_, run_underlying ht, Go.sizeOf, typeInfo, hi, Builtin.lenOf, Builtin.firstCells, hnc, storeCells]
  · have hcells : ∀ j u, (B8 m)[j]? = some u → w.cell? (ad.add j) = some u := by
      intro j u hu
      rw [getElem?_B8] at hu
      rcases hx : m[j]? with _ | x
      · rw [hx] at hu; cases hu
      · rw [hx] at hu
        have hj : j < m.length := (List.getElem?_eq_some_iff.1 hx).1
        obtain ⟨b, off, h, _, hc⟩ := hr (by omega)
        injection h with h
        subst h
        rw [Addr.add_lit, hc j x hx]
        exact hu
    obtain ⟨v', w', hrun, h2, h3, h4, h5⟩ := run_append_own_at (P := P) w 0 t ty e i (.int .u8 0) 1 1 ht hi hz hsize hby rfl (by omega) (.slice A n c) n (B8 l) hown.2 ad m.length c2 (B8 m) (by simp [B8]) hcells (oneCell_B8 m) (by unfold maxLen; omega) (by omega) (Nat.zero_le _)
    rw [ownBlock_slice] at h3 h5
    rcases h2.2 with ⟨hv, hn⟩ | ⟨g, cap, cur, hv, r⟩
    · subst hv
      have : n + m.length = 0 := hn
      refine ⟨none, 0, w', by rw [hrun, this], ⟨by simp [← hown.1], ?_⟩, h3, h5⟩
      rw [B8_append, this]
      rw [this] at h2
      exact h2
    · subst hv
      exact ⟨_, _, w', hrun, ⟨by simp [← hown.1], by rw [B8_append]; exact h2⟩, h3, h5⟩

/-- append of noughts: 'append(b, make([]byte, m)...)' -/
theorem run_append8z (t tn ty e : TypeId) (i : TypeInfo) (k kn : IntKind) (ht : P.underlying t = some (.slice e)) (htn : P.underlying tn = some (.int kn)) (hi : P.info? e = some i) (hz : i.zero = some (.int .u8 0)) (hsize : i.size = 1) (hby : i.bytes = 1)
    (A : Option Addr) (n c : Nat) (l : List UInt8) (hown : Own8 w e A n c l) (m : Nat) (hb : n + m ≤ 140737488355328) :
    ∃ A' c' w', (Builtin.append_ #[t, tn] ty #[.slice A n c, .int k (m : Int)]).run P w = .ok (.slice A' (n + m) c') w' ∧ Own8 w' e A' (n + m) c' (l ++ List.replicate m 0) ∧ w.grownBy w' (blkOf A) ∧
      (blkOf A' = blkOf A ∨ blkOf A' = some w.heap.size) := by
  have hw : IntKind.i64.wrap (m : Int) = m := by rw [IntKind.wrap_i64]; omega
  have hneg : ¬ ((m : Int) < 0) := by omega
  have h48i : ¬ (281474976710656 < (m : Int)) := by omega
  have hlen : (B8 (l ++ List.replicate m 0)).length = (n + m) * 1 := by rw [length_B8]; simp [← hown.1]
  have hzc : Builtin.zeroCells (Value.cells (.int .u8 0)) m = (B8 (List.replicate m 0)).toArray := by
    rw [B8_zeros]
    apply Array.ext_getElem?
    intro j
    simp only [Builtin.zeroCells, Value.cells]
    by_cases hj : j < m
    · simp [hj, Nat.mod_one]
    · simp [hj]
  by_cases hm : m = 0
  · subst hm
    refine ⟨A, c, w, ?_, by simpa using hown, World.grownBy.refl w _, .inl rfl⟩
    rcases hown.2.2 with ⟨hv, hn⟩ | ⟨g, cap, cur, hv, _, _, hnc, _⟩
    · injection hv with hA hn2 hc
      subst hA hn hc
      simp [Builtin.append_, run_underlying ht, run_underlying htn, Go.sizeOf, typeInfo, hi, asInt, asIntOf, IntKind.wrap_i64]
    · injection hv with hA hn2 hc
      subst hA hc
      simp [Builtin.append_, run_underlying ht, run_underlying htn, Go.sizeOf, typeInfo, hi, asInt, asIntOf, hnc, storeCells, IntKind.wrap_i64]
  · have grown : ∀ (old : Nat), old < n + m →
        Own8 (w.drew.alloc (.cells ((B8 l).toArray ++ (B8 (List.replicate m 0)).toArray ++ Builtin.zeroCells (Value.cells (.int .u8 0)) (grownCap w (n + m) old e - (n + m))) e)) e
          (some ⟨w.heap.size, 0, none⟩) (n + m) (grownCap w (n + m) old e) (l ++ List.replicate m 0) ∧
        w.grownBy (w.drew.alloc (.cells ((B8 l).toArray ++ (B8 (List.replicate m 0)).toArray ++ Builtin.zeroCells (Value.cells (.int .u8 0)) (grownCap w (n + m) old e - (n + m))) e)) (blkOf A) := by
      intro old ho
      have hge := grownCap_ge w (n + m) old e
      have hcm : grownCap w (n + m) old e ≤ maxLen := grownCap_le_maxLen w (n + m) old e (by unfold maxLen; omega)
      refine ⟨⟨by simp [← hown.1], hlen, .inr ⟨w.heap.size, _, _, rfl, Nat.zero_le _, heap_alloc_new w.drew _, hge, hcm, ?_, ?_⟩⟩, ⟨rfl, rfl, rfl, by simp, fun k hk _ => heap_alloc_old w.drew _ k hk⟩⟩
      · simp only [Array.size_append, List.size_toArray, size_zeroCells, length_B8, List.length_replicate, ← hown.1]
        simp only [Value.cells, List.size_toArray, List.length_cons, List.length_nil]
        omega
      · simp only [Array.toList_append, List.append_assoc]
        rw [← List.append_assoc, ← B8_append, ← hlen]
        exact List.take_left
    rcases hown.2.2 with ⟨hv, hn⟩ | ⟨g, cap, cur, hv, _, hg, hnc, hcm, hcs, htake⟩
    · injection hv with hA hn2 hc
      subst hA hn hc
      have hl : l = [] := List.eq_nil_of_length_eq_zero hown.1.symm
      subst hl
      have hr := Lib.run_append_nil_zeros (P := P) w t tn ty e i (.int .u8 0) k kn ht htn hi hz m (by omega) (by omega) (by omega) (by rw [hby]; omega)
      have hgr := grown 0 (by omega)
      simp only [Nat.zero_add] at hgr ⊢
      refine ⟨_, _, _, hr, ?_, ?_, .inr rfl⟩
      · rw [hzc]; simpa [B8] using hgr.1
      · rw [hzc]; simpa [B8] using hgr.2
    · injection hv with hA hn2 hc
      subst hA hc
      by_cases hroom : n + m ≤ c
      · have hst := run_storeCells_at P g (n * 1) e (B8 (List.replicate m 0)) 0 cur w hg (by rw [length_B8, List.length_replicate]; omega) (oneCell_B8 _)
        simp only [Nat.add_zero, Nat.mul_one] at hst
        refine ⟨some ⟨g, 0, none⟩, c, w.setRow g (cur.toList.take n ++ B8 (List.replicate m 0) ++ cur.toList.drop (n + (B8 (List.replicate m 0)).length)).toArray, ?_, ⟨by simp [← hown.1], hlen, .inr ⟨g, c, _, rfl, Nat.zero_le _, setRow_heap w g cur _ e _ hg, hroom, hcm, ?_, ?_⟩⟩, ⟨rfl, rfl, rfl, by simp, fun k _ hk => setRow_other w g k _ (fun e => hk (by simp [blkOf, e]))⟩, .inl rfl⟩
        · simp [Builtin.append_, run_underlying ht, run_underlying htn, Go.sizeOf, typeInfo, zeroValue, hi, hz, asInt, asIntOf, hw, hneg, hsize, hby, h48i, hm, hroom, hzc, Addr.add_lit, hst]
        · simp only [List.size_toArray, List.length_append, List.length_take, List.length_drop, Array.length_toList, length_B8, List.length_replicate]
          omega
        · simp only [Nat.mul_one] at htake ⊢
          rw [htake, ← B8_append]
          have : n + m = (B8 (l ++ List.replicate m 0)).length := by rw [hlen]; omega
          rw [this]
          exact List.take_left
      · have hgr := grown c (by omega)
        have holds : ∀ j u, (B8 l)[j]? = some u → w.cell? ((⟨g, 0, none⟩ : Addr).add j) = some u := hown.2.cells (g := g) rfl
        have hf := run_firstCells_some (P := P) w.drew 1 n ⟨g, 0, none⟩ n c (B8 l) (by rw [length_B8, ← hown.1]; omega) (by simpa using holds)
        have h63' : ¬ (9223372036854775807 < ((n : Int) + (m : Int))) := by omega
        have h48'' : ¬ (281474976710656 < Builtin.nextslicecap (n + m) c) := by
          have := growslice_fits (need := n + m) (old := c) (bytes := 1) (by omega) (by omega)
          omega
        refine ⟨_, _, _, ?_, hgr.1, hgr.2, .inr rfl⟩
        simp [Builtin.append_, run_underlying ht, run_underlying htn, Go.sizeOf, typeInfo, zeroValue, hi, hz, asInt, asIntOf, hw, hneg, hsize, hby, h48i, hm, hroom, hzc, h63', h48'', Question.forced, hf, newRow, grownCap]
        rw [← List.append_toArray, Array.append_assoc]

/-- t is []byte, e byte -/
def IsBytes (P : Program) (t e : TypeId) : Prop := P.underlying t = some (.slice e) ∧ P.underlying e = some (.int .u8) ∧ ∃ i, P.info? e = some i ∧ i.zero = some (.int .u8 0) ∧ i.size = 1 ∧ i.bytes = 1
theorem isBytes_of {t e : TypeId} (ht : P.underlying t = some (.slice e)) (he : P.underlying e = some (.int .u8)) (h : (P.info? e).map (fun i => (i.zero, i.size, i.bytes)) = some (some (.int .u8 0), 1, 1)) : IsBytes P t e :=
  ⟨ht, he, info_parts h⟩

variable {w}

theorem wpList_append8 {ops : Array Oper} {rest : List Oper} {o : Oper} {a : Act} {Q : Exit → Act → World → Prop} (hw : Region.wanted o (yielded ops a.tmps) = true) (s x : Operand) (t e : TypeId)
    (ho : o.op = .call { callee := .builtin .append, args := #[s, x], argTypes := #[t, t] }) (ht : IsBytes P t e)
    (A : Option Addr) (n c : Nat) (l : List UInt8) (hs : a.eval s = .slice A n c) (hown : Own8 w e A n c l) (B : Nat) (A2 : Option Addr) (n2 c2 : Nat) (m : List UInt8) (hx : a.eval x = .slice A2 n2 c2) (hr : Byt w B A2 m) (hn2 : n2 = m.length) (hb : n + n2 ≤ 140737488355328)
    (h : ∀ A' c' w', Own8 w' e A' (n + n2) c' (l ++ m) → w.grownBy w' (blkOf A) → (blkOf A' = blkOf A ∨ blkOf A' = some w.heap.size) → wpList P ops Q rest (a.put o.dst (.slice A' (n + n2) c')) w') : wpList P ops Q (o :: rest) a w := by
  obtain ⟨ht, _, i, hi, hz, hsize, hby⟩ := ht
  obtain ⟨A', c', w', hr, h2, h3, h4⟩ := run_append8 (P := P) w t o.type e i ht hi hz hsize hby A n c l hown B A2 n2 c2 m hr hn2 hb
  refine BigFrame.wpList_want hw fun K hK => ?_
  unfold Oper.wp execOp
  simp only [ho, resolve, invoke, builtin, Sem.run_bind, Sem.run_pure, Result.andThen_ok, List.map_toArray, List.map_cons, List.map_nil, hs, hx, hr]
  exact hK _ _ (h A' c' w' h2 h3 h4)

theorem wpList_append8z {ops : Array Oper} {rest : List Oper} {o : Oper} {a : Act} {Q : Exit → Act → World → Prop} (hw : Region.wanted o (yielded ops a.tmps) = true) (s x : Operand) (t e tn : TypeId)
    (ho : o.op = .call { callee := .builtin .append, args := #[s, x], argTypes := #[t, tn] }) (ht : IsBytes P t e) (kn : IntKind) (htn : P.underlying tn = some (.int kn))
    (A : Option Addr) (n c : Nat) (l : List UInt8) (hs : a.eval s = .slice A n c) (hown : Own8 w e A n c l) (k : IntKind) (z : Int) (m : Nat) (hx : a.eval x = .int k z) (hz : z = (m : Int)) (hb : n + m ≤ 140737488355328)
    (h : ∀ A' c' w', Own8 w' e A' (n + m) c' (l ++ List.replicate m 0) → w.grownBy w' (blkOf A) → (blkOf A' = blkOf A ∨ blkOf A' = some w.heap.size) → wpList P ops Q rest (a.put o.dst (.slice A' (n + m) c')) w') : wpList P ops Q (o :: rest) a w := by
  subst hz
  obtain ⟨ht, _, i, hi, hz, hsize, hby⟩ := ht
  obtain ⟨A', c', w', hr, h2, h3, h4⟩ := run_append8z (P := P) w t tn o.type e i k kn ht htn hi hz hsize hby A n c l hown m hb
  refine BigFrame.wpList_want hw fun K hK => ?_
  unfold Oper.wp execOp
  simp only [ho, resolve, invoke, builtin, Sem.run_bind, Sem.run_pure, Result.andThen_ok, List.map_toArray, List.map_cons, List.map_nil, hs, hx, hr]
  exact hK _ _ (h A' c' w' h2 h3 h4)

/-- a new block of bytes -/
theorem Byt.new (w : World) (cs : Array Value) (e : TypeId) (fr : Nat × Nat) (l : List UInt8) (h : cs.toList = B8 l) : Byt (w.alloc (.cells cs e fr)) (w.heap.size + 1) (some ⟨w.heap.size, 0, none⟩) l := fun _ =>
  ⟨w.heap.size, 0, rfl, by omega, fun j x hx => by
    rw [cell_of_row _ _ _ cs e fr (heap_alloc_new w _)]
    have : cs.toList[0 + j]? = some (.int .u8 (x.toNat : Int)) := by rw [h, getElem?_B8, Nat.zero_add, hx]; rfl
    simpa using this⟩
theorem Own8.new (w : World) (cs : Array Value) (e : TypeId) (n : Nat) (l : List UInt8) (hn : n = l.length) (h : cs.toList = B8 l) (hm : n ≤ maxLen) : Own8 (w.alloc (.cells cs e)) e (some ⟨w.heap.size, 0, none⟩) n n l := by
  have hs : cs.size = n := by rw [← Array.length_toList, h, length_B8, hn]
  refine ⟨hn, by rw [length_B8, hn]; omega, Or.inr ⟨w.heap.size, n, cs, rfl, Nat.zero_le _, heap_alloc_new w _, Nat.le_refl _, hm, by omega, ?_⟩⟩
  rw [List.take_of_length_le (by simp; omega), h]
/-- what make lays -/
def mk8 (n : Nat) : Array Value := (B8 (List.replicate n 0)).toArray
theorem toList_mk8 (n : Nat) : (mk8 n).toList = B8 (List.replicate n 0) := rfl
theorem run_make8 {t e : TypeId} (ht : IsBytes P t e) (kl kc : IntKind) (n : Nat) (hb : n ≤ 281474976710656) (w : World) :
    (Instr.makeSlice t (.int kl (n : Int)) (.int kc (n : Int))).run P w = .ok (.slice (some ⟨w.heap.size, 0, none⟩) n n) (w.alloc (.cells (mk8 n) e)) := by
  obtain ⟨ht, _, i, hi, hz, hsize, hby⟩ := ht
  rw [run_make_row t e i (.int .u8 0) ht hi hz hsize rfl kl kc n (by rw [hby]; omega) (by omega) w]
  have : madeCells #[Value.int .u8 0] n = mk8 n := by
    apply Array.ext'
    rw [toList_madeCells_one, toList_mk8, B8_zeros]
  rw [this]
theorem Own8.newAt (w : World) (cs : Array Value) (e : TypeId) (n : Nat) (l : List UInt8) (g : Nat) (hg : w.heap.size = g) (hn : n = l.length) (h : cs.toList = B8 l) (hm : n ≤ maxLen) : Own8 (w.alloc (.cells cs e)) e (some ⟨g, 0, none⟩) n n l := by
  subst hg
  exact Own8.new w cs e n l hn h hm
theorem Byt.newAt (w : World) (cs : Array Value) (e : TypeId) (fr : Nat × Nat) (l : List UInt8) (g : Nat) (hg : w.heap.size = g) (h : cs.toList = B8 l) : Byt (w.alloc (.cells cs e fr)) (g + 1) (some ⟨g, 0, none⟩) l := by
  subst hg
  exact Byt.new w cs e fr l h
end
end Kin
namespace Kin
open Go Go.RowKit

/-- the text of bytes -/
def str (l : List UInt8) : ByteArray := ⟨l.toArray⟩
theorem str_toList (l : List UInt8) : (str l).toList = l := by
  rw [Lib.toList_data]; rfl
theorem str_inj {l m : List UInt8} (h : str l = str m) : l = m := by
  unfold str at h
  injection h with h
  exact List.toArray_inj h
theorem run_conv8 {P : Program} {w : World} {t e ts : TypeId} (ht : IsBytes P t e) (hd : P.underlying ts = some .string) (A : Option Addr) (n c : Nat) (l : List UInt8) {B : Nat} (hb : Byt w B A l) (hn : n = l.length) :
    (convert t ts (.slice A n c)).run P w = .ok (.string (str l)) w := by
  subst hn
  rcases A with _ | ad
  · have hl : l = [] := by
      rcases l with _ | ⟨b, l⟩
      · rfl
      · obtain ⟨_, _, h, _⟩ := hb (by simp)
        cases h
    subst hl
    exact Lib.run_convert_nil_bytes w t ts e c ht.1 ht.2.1 hd
  · refine run_convert_bytes_back w t ts e ad c l ht.1 ht.2.1 hd (fun j hj => ?_)
    obtain ⟨b, off, h, _, hc⟩ := hb (by omega)
    injection h with h
    subst h
    rw [Addr.add_lit]
    exact hc j _ (List.getElem?_eq_getElem hj)
end Kin
namespace Kin
open Go Go.RowKit

/-- only blocks of S, and new ones, may have changed -/
structure Chg (S : Nat → Prop) (w w' : World) : Prop where
  os : w'.os = w.os
  tape : w'.tape = w.tape
  output : w'.output = w.output
  size : w.heap.size ≤ w'.heap.size
  block : ∀ k, k < w.heap.size → ¬ S k → w'.heap[k]? = w.heap[k]?

section
variable {S T U : Nat → Prop} {a b c w w' : World}

theorem Chg.refl (S : Nat → Prop) (w : World) : Chg S w w := ⟨rfl, rfl, rfl, Nat.le_refl _, fun _ _ _ => rfl⟩
theorem Chg.trans (h : Chg S a b) (k : Chg T b c) (hS : ∀ i, i < a.heap.size → S i → U i) (hT : ∀ i, i < a.heap.size → T i → U i) : Chg U a c :=
  ⟨k.os.trans h.os, k.tape.trans h.tape, k.output.trans h.output, Nat.le_trans h.size k.size, fun i hi hn =>
    (k.block i (Nat.lt_of_lt_of_le hi h.size) (fun e => hn (hT i hi e))).trans (h.block i hi (fun e => hn (hS i hi e)))⟩
theorem Chg.mono (h : Chg S a b) (hS : ∀ i, i < a.heap.size → S i → U i) : Chg U a b := ⟨h.os, h.tape, h.output, h.size, fun i hi hn => h.block i hi (fun e => hn (hS i hi e))⟩
theorem Chg.same (h : Chg S a b) (k : Chg S b c) : Chg S a c := h.trans k (fun _ _ e => e) (fun _ _ e => e)
theorem Chg.of_below (h : Below a.heap.size a b) : Chg S a b := ⟨h.os, h.tape, h.output, h.size, fun i hi _ => h.block i hi⟩
theorem Chg.below {B : Nat} (h : Chg S a b) (hS : ∀ i, S i → B ≤ i) (hB : B ≤ a.heap.size) : Below B a b := ⟨h.os, h.tape, h.output, h.size, fun i hi => h.block i (by omega) (fun e => by have := hS i e; omega)⟩
theorem Chg.drew (h : Chg S a b) : Chg S a b.drew := ⟨h.os, h.tape, h.output, h.size, h.block⟩
theorem Chg.drewN (h : Chg S a b) (n : Nat) : Chg S a (b.drewN n) := ⟨h.os, h.tape, h.output, h.size, h.block⟩
theorem Chg.alloc (h : Chg S a b) (o : Obj) : Chg S a (b.alloc o) := h.trans (T := fun _ => False) (Chg.of_below ((Below.refl _ _).alloc (Nat.le_refl _) o)) (fun _ _ e => e) (fun _ _ e => e.elim)
theorem Chg.setCell (h : Chg S a b) {p : Addr} (hp : S p.block ∨ a.heap.size ≤ p.block) (u : Value) : Chg S a (b.setCell p u) :=
  ⟨h.os, h.tape, h.output, by simpa [World.setCell] using h.size, fun i hi hn => (Below.heap_setCell b p u i (by
    rintro rfl
    rcases hp with hp | hp
    · exact hn hp
    · omega)).trans (h.block i hi hn)⟩
theorem Chg.setRow (h : Chg S a b) {g : Nat} (hp : S g ∨ a.heap.size ≤ g) (cs : Array Value) : Chg S a (b.setRow g cs) :=
  ⟨h.os, h.tape, h.output, by simpa [World.setRow] using h.size, fun i hi hn => (setRow_other b g i cs (by
    rintro rfl
    rcases hp with hp | hp
    · exact hn hp
    · omega)).trans (h.block i hi hn)⟩
theorem Chg.grown (h : Chg S a b) {row : Option Nat} (hg : b.grownBy c row) (hr : ∀ g, row = some g → S g ∨ a.heap.size ≤ g) : Chg S a c :=
  ⟨hg.os.trans h.os, hg.tape.trans h.tape, hg.output.trans h.output, Nat.le_trans h.size hg.size, fun i hi hn => (hg.block i (Nat.lt_of_lt_of_le hi h.size) (fun e => by
    rcases hr i e.symm with hp | hp
    · exact hn hp
    · omega)).trans (h.block i hi hn)⟩
theorem Chg.blk {g : Nat} {t : TypeId} {cs : Array Value} (h : Chg S a b) (hb : Blk a g t cs) (hn : ¬ S g) : Blk b g t cs := (h.block g hb.lt hn).trans hb
theorem Chg.own {e : TypeId} {A : Option Addr} {n c : Nat} {l : List UInt8} (h : Chg S a b) (ho : Own8 a e A n c l) (hn : ∀ g, blkOf A = some g → ¬ S g) : Own8 b e A n c l := by
  refine ⟨ho.1, ho.2.1, ?_⟩
  rcases ho.2.2 with h2 | ⟨g, cap, cur, hv, hg, hh, r⟩
  · exact Or.inl h2
  · have hA : A = some ⟨g, 0, none⟩ := by injection hv
    exact Or.inr ⟨g, cap, cur, hv, hg, by rw [h.block g (Blk.lt (t := e) hh) (hn g (by rw [hA]; rfl))]; exact hh, r⟩
theorem Chg.byt {B : Nat} {A : Option Addr} {l : List UInt8} (h : Chg S a b) (ho : Byt a B A l) (hn : ∀ g, g < B → ¬ S g) : Byt b B A l := fun hl => by
  obtain ⟨g, off, e, hb, hc⟩ := ho.here hl
  obtain ⟨g', off', e', hb', _⟩ := ho hl
  rw [e] at e'
  injection e' with e'
  injection e' with e1 e2
  subst e1 e2
  exact ⟨g, off, e, hb', fun j x hx => (World.cell?_of_block (a := ⟨g, off + j, none⟩) (h.block g hb (hn g hb'))).trans (hc j x hx)⟩
end

/-- the blocks of an object: its own and its row's -/
def Foot (g : Nat) (R : Option Nat) (k : Nat) : Prop := k = g ∨ R = some k
theorem Foot.ge {B g : Nat} {R : Option Nat} (hg : B ≤ g) (hR : ∀ r, R = some r → B ≤ r) : ∀ i, Foot g R i → B ≤ i := by
  rintro i (rfl | e)
  · exact hg
  · exact hR i e
theorem Foot.not {B g k : Nat} {R : Option Nat} (hk : k < B) (hg : B ≤ g) (hR : ∀ r, R = some r → B ≤ r) : ¬ Foot g R k := fun h => by
  have := Foot.ge hg hR k h
  omega
/-- the row behind a call is the old one, or new -/
def RowNew (n : Nat) (R R' : Option Nat) : Prop := R' = R ∨ ∃ r, R' = some r ∧ n ≤ r
theorem RowNew.refl (n : Nat) (R : Option Nat) : RowNew n R R := .inl rfl
theorem RowNew.trans {n m : Nat} {R R' R'' : Option Nat} (h : RowNew n R R') (k : RowNew m R' R'') (hnm : n ≤ m) : RowNew n R R'' := by
  rcases k with rfl | ⟨r, rfl, hr⟩
  · exact h
  · exact .inr ⟨r, rfl, by omega⟩
theorem RowNew.ge {n B : Nat} {R R' : Option Nat} (h : RowNew n R R') (hR : ∀ r, R = some r → B ≤ r) (hB : B ≤ n) : ∀ r, R' = some r → B ≤ r := by
  intro r hr
  rcases h with h | ⟨r', h, hr'⟩
  · exact hR r (by rw [← h]; exact hr)
  · rw [hr] at h; injection h with h; omega
/-- two objects share no block -/
def Disj (g1 : Nat) (R1 : Option Nat) (g2 : Nat) (R2 : Option Nat) : Prop := g1 ≠ g2 ∧ R1 ≠ some g2 ∧ R2 ≠ some g1 ∧ ∀ r, R1 = some r → R2 ≠ some r
theorem Disj.symm {g1 g2 : Nat} {R1 R2 : Option Nat} (h : Disj g1 R1 g2 R2) : Disj g2 R2 g1 R1 := ⟨h.1.symm, h.2.2.1, h.2.1, fun r hr e => h.2.2.2 r e hr⟩
theorem Disj.foot {g1 g2 : Nat} {R1 R2 : Option Nat} (h : Disj g1 R1 g2 R2) (k : Nat) (hk : Foot g2 R2 k) : ¬ Foot g1 R1 k := by
  rintro (rfl | h1)
  · rcases hk with e | e
    · exact h.1 e
    · exact h.2.2.1 e
  · rcases hk with e | e
    · subst e; exact h.2.1 h1
    · exact h.2.2.2 k h1 e
/-- the first one's row has moved to a new block -/
theorem Disj.left {n g1 g2 : Nat} {R1 R1' R2 : Option Nat} (h : Disj g1 R1 g2 R2) (hr : RowNew n R1 R1') (hg : g2 < n) (hR : ∀ r, R2 = some r → r < n) : Disj g1 R1' g2 R2 := by
  rcases hr with rfl | ⟨r, rfl, hr⟩
  · exact h
  · refine ⟨h.1, fun e => by injection e with e; omega, h.2.2.1, fun r' hr' e => ?_⟩
    injection hr' with hr'
    have := hR r' e
    omega
/-- a new object -/
theorem Disj.fresh {n g1 g2 : Nat} {R1 R2 : Option Nat} (hg : g1 < n) (hR : ∀ r, R1 = some r → r < n) (hg2 : n ≤ g2) (hR2 : ∀ r, R2 = some r → n ≤ r) : Disj g1 R1 g2 R2 :=
  ⟨by omega, fun e => by have := hR _ e; omega, fun e => by have := hR2 _ e; omega, fun r h1 h2 => by have := hR _ h1; have := hR2 _ h2; omega⟩

/-- copy into a row of one's own, as long as what is copied -/
theorem wpList_copy8 {P : Program} {w : World} {ops : Array Oper} {rest : List Oper} {o : Oper} {a : Act} {Q : Exit → Act → World → Prop} (hw : Region.wanted o (yielded ops a.tmps) = true) (d s : Operand) (t e : TypeId)
    (ho : o.op = .call { callee := .builtin .copy, args := #[d, s], argTypes := #[t, t] }) (ht : IsBytes P t e)
    (g n c : Nat) (l : List UInt8) (hd : a.eval d = .slice (some ⟨g, 0, none⟩) n c) (hown : Own8 w e (some ⟨g, 0, none⟩) n c l) (B : Nat) (A2 : Option Addr) (n2 c2 : Nat) (m : List UInt8) (hs : a.eval s = .slice A2 n2 c2) (hr : Byt w B A2 m) (hn2 : n2 = m.length) (hn : n = n2)
    (h : ∀ w', Own8 w' e (some ⟨g, 0, none⟩) n c m → w.grownBy w' (some g) → wpList P ops Q rest (a.put o.dst (.int .i64 (n : Int))) w') : wpList P ops Q (o :: rest) a w := by
  obtain ⟨hu, _, i, hi, hz, hsize, hby⟩ := ht
  subst hn
  have hsz : (P.info? e).map (·.size) = some 1 := by rw [hi]; simp [hsize]
  refine BigFrame.wpList_want hw fun K hK => ?_
  by_cases h0 : n = 0
  · subst h0
    have hm : m = [] := List.eq_nil_of_length_eq_zero hn2.symm
    have hl : l = [] := List.eq_nil_of_length_eq_zero hown.1.symm
    have hrun := run_copy_none (P := P) w t t o.type e (some ⟨g, 0, none⟩) A2 0 c 0 c2 hu hsz rfl
    unfold Oper.wp
    simp [execOp, ho, resolve, invoke, builtin, hd, hs, hrun, Result.andThen]
    exact hK _ _ (h w (by rw [hm, ← hl]; exact hown) (World.grownBy.refl w _))
  · obtain ⟨b, off, hA, _, hc⟩ := hr (by omega)
    subst hA
    rcases hown.2.2 with ⟨hv, _⟩ | ⟨g', cap, cur, hv, _, hg, hnc, hcm, hcs, htake⟩
    · cases hv
    · injection hv with hA hn' hc'
      injection hA with hA
      injection hA with hA
      subst hA hc'
      have hlen : (B8 m).length = Nat.min n n := by rw [length_B8, ← hn2]; exact (Nat.min_self n).symm
      have hrun := run_copy_row (P := P) w t t o.type e g 0 n c ⟨b, off, none⟩ n c2 cur e (B8 m) hu hsz hg hlen (fun j v hj => by
        rw [getElem?_B8] at hj
        rcases hx : m[j]? with _ | x
        · rw [hx] at hj; cases hj
        · rw [hx] at hj
          rw [Addr.add_lit, hc j x hx]
          exact hj) (by rw [length_B8, ← hn2]; omega) (oneCell_B8 m)
      unfold Oper.wp
      simp [execOp, ho, resolve, invoke, builtin, hd, hs, hrun, Result.andThen]
      rw [length_B8, ← hn2]
      refine hK _ _ (h _ ⟨hn2, by rw [length_B8]; omega, Or.inr ⟨g, c, _, rfl, Nat.zero_le _, setRow_heap w g cur _ e _ hg, hnc, hcm, ?_, ?_⟩⟩ ⟨rfl, rfl, rfl, by simp, fun k _ hk => setRow_other w g k _ (fun e => hk (by rw [e]))⟩)
      · simp only [List.size_toArray, List.length_append, List.length_drop, Array.length_toList, length_B8, ← hn2]
        omega
      · have : n * 1 = (B8 m).length := by rw [length_B8]; omega
        rw [this]
        exact List.take_left
end Kin
namespace Kin
open Go Go.RowKit

/-- where a cut from k on lies -/
def cutA (A : Option Addr) (c k : Nat) : Option Addr := if c = k then A else A.map (·.add k)
theorem Byt.cut {w : World} {B : Nat} {A : Option Addr} {l : List UInt8} {c : Nat} (h : Byt w B A l) (k : Nat) (hc : l.length ≤ c) : Byt w B (cutA A c k) (l.drop k) := fun hl => by
  rw [List.length_drop] at hl
  obtain ⟨b, off, e, hb, hcell⟩ := h (by omega)
  subst e
  unfold cutA
  rw [if_neg (by omega)]
  refine ⟨b, off + k, by simp [Addr.add_lit], hb, fun j x hx => ?_⟩
  rw [List.getElem?_drop] at hx
  rw [Nat.add_assoc]
  exact hcell _ x hx
theorem Byt.take {w : World} {B : Nat} {A : Option Addr} {l : List UInt8} (h : Byt w B A l) (n : Nat) : Byt w B A (l.take n) := by
  intro hpos
  have hl : 0 < l.length := by rw [List.length_take] at hpos; omega
  obtain ⟨b, off, hA, hb, hc⟩ := h hl
  refine ⟨b, off, hA, hb, fun j x hx => ?_⟩
  rw [List.getElem?_take] at hx
  split at hx
  · exact hc j x hx
  · cases hx

section
variable {P : Program} {t e : TypeId}

theorem run_cut8 (ht : IsBytes P t e) (A : Option Addr) (n c : Nat) (kl kh : IntKind) (l h : Nat) (li hi : Int) (hl : li = l) (hh : hi = h) (h1 : l ≤ h) (h2 : h ≤ c) (w : World) :
    (Instr.sliceAt t (.slice A n c) (some (.int kl li)) (some (.int kh hi)) none).run P w = .ok (.slice (cutA A c l) (h - l) (c - l)) w := by
  subst hl hh
  obtain ⟨ht, _, i, hi, _, hs, _⟩ := ht
  have he : P.elem t = e := by simp [Program.elem, ht]
  have ht' : P.underlying t = some (.slice (P.elem t)) := by rw [he]; exact ht
  rw [run_sliceAt_slice w t _ _ _ _ ht', run_slice_lh w t A n c ht' kl kh l h (by omega) (by omega) (by omega)]
  simp [he, Go.sizeOf, typeInfo, hi, hs, sliced, cutA, Result.andThen]
theorem run_cut8l (ht : IsBytes P t e) (A : Option Addr) (n c : Nat) (kl : IntKind) (l : Nat) (li : Int) (hl : li = l) (h1 : l ≤ n) (w : World) :
    (Instr.sliceAt t (.slice A n c) (some (.int kl li)) none none).run P w = .ok (.slice (cutA A c l) (n - l) (c - l)) w := by
  subst hl
  obtain ⟨ht, _, i, hi, _, hs, _⟩ := ht
  have he : P.elem t = e := by simp [Program.elem, ht]
  have ht' : P.underlying t = some (.slice (P.elem t)) := by rw [he]; exact ht
  rw [run_sliceAt_slice w t _ _ _ _ ht', run_slice_l w t A n c ht' kl l (by omega) (by omega)]
  simp [he, Go.sizeOf, typeInfo, hi, hs, sliced, cutA, Result.andThen]
theorem run_cut8h (ht : IsBytes P t e) (A : Option Addr) (n c : Nat) (kh : IntKind) (h : Nat) (hi : Int) (hh : hi = h) (h2 : h ≤ c) (w : World) :
    (Instr.sliceAt t (.slice A n c) none (some (.int kh hi)) none).run P w = .ok (.slice A h c) w := by
  subst hh
  obtain ⟨ht, _, i, hi, _, hs, _⟩ := ht
  have he : P.elem t = e := by simp [Program.elem, ht]
  have ht' : P.underlying t = some (.slice (P.elem t)) := by rw [he]; exact ht
  rw [run_sliceAt_slice w t _ _ _ _ ht', run_slice_h w t A n c ht' kh h (by omega) (by omega)]
  have : A.map (·.add 0) = A := by cases A <;> simp [Addr.add]
  simp [he, Go.sizeOf, typeInfo, hi, hs, sliced, Result.andThen, this]
end
end Kin
namespace Kin
open Go Go.RowKit

/-- nothing of the row is frozen -/
def Soft (fz : Nat × Nat) (n : Nat) : Prop := fz.2 = 0 ∨ n ≤ fz.1
theorem soft_at {w : World} {g : Nat} {cur : Array Value} {e : TypeId} {fz : Nat × Nat} (hg : w.heap[g]? = some (.cells cur e fz)) (hf : Soft fz cur.size) {k : Nat} (hk : k < cur.size) : w.frozen? ⟨g, k, none⟩ = false := by
  obtain ⟨lo, hi⟩ := fz
  simp only [World.frozen?, hg, Bool.and_eq_false_iff, decide_eq_false_iff_not]
  rcases hf with h | h
  · right; simp only at h; omega
  · left; simp only at h; omega
theorem run_storeCells_soft (P : Program) (g o : Nat) (t : TypeId) (fz : Nat × Nat) : ∀ (vs : List Value) (i : Nat) (cur : Array Value) (w : World), w.heap[g]? = some (.cells cur t fz) → Soft fz cur.size → o + i + vs.length ≤ cur.size → (∀ v ∈ vs, v.oneCell' = true) →
    (storeCells ⟨g, o, none⟩ vs i).run P w = .ok () (w.setRow g (cur.toList.take (o + i) ++ vs ++ cur.toList.drop (o + i + vs.length)).toArray)
  | [], i, cur, w, hg, _, _, _ => by
    simp only [storeCells, List.append_nil, List.length_nil, Nat.add_zero, List.take_append_drop, Array.toArray_toList]
    rw [setRow_self w g cur t fz hg]
    rfl
  | v :: rest, i, cur, w, hg, hfz, hl, h1 => by
    have hi : o + i < cur.size := by simp at hl; omega
    have hadd : (⟨g, o, none⟩ : Addr).add i = ⟨g, o + i, none⟩ := by unfold Addr.add; split <;> simp_all
    have hcell : w.cell? ⟨g, o + i, none⟩ = some cur[o + i] := by simp [World.cell?, hg, hi]
    have hfro := soft_at hg hfz hi
    have hst : (store ((⟨g, o, none⟩ : Addr).add i) v).run P w = .ok () (w.setRow g (cur.setIfInBounds (o + i) v)) := by
      rw [hadd, run_store P w _ v _ (h1 v (by simp)), hcell]
      simp [hfro, setCell_eq_setRow w g (o + i) cur t fz v hg]
    have ih := run_storeCells_soft P g o t fz rest (i + 1) (cur.setIfInBounds (o + i) v) (w.setRow g (cur.setIfInBounds (o + i) v)) (setRow_heap w g cur _ t _ hg) (by simpa using hfz) (by simp at hl ⊢; omega) (fun x hx => h1 x (by simp [hx]))
    simp only [storeCells, Sem.run_bind, hst, Result.andThen_ok, ih, setRow_setRow]
    congr 3
    have e := list_seg_step cur.toList (o + i) v rest (by simp at hl ⊢; omega)
    simpa [Array.toList_setIfInBounds, Nat.add_assoc] using e

/-- the slice is a row of the call's own (or nil), maybe a conversion's, that holds the bytes l -/
def OwnF (w : World) (e : TypeId) (A : Option Addr) (n c : Nat) (l : List UInt8) : Prop :=
  n = l.length ∧ ((A = none ∧ n = 0 ∧ c = 0) ∨ ∃ g cur fz, A = some ⟨g, 0, none⟩ ∧ w.heap[g]? = some (.cells cur e fz) ∧ Soft fz cur.size ∧ n ≤ c ∧ c ≤ maxLen ∧ cur.size = c ∧ cur.toList.take n = B8 l)
section
variable {w w' : World} {e : TypeId} {A : Option Addr} {n c : Nat} {l : List UInt8}

theorem Own8.soft (h : Own8 w e A n c l) : OwnF w e A n c l := by
  refine ⟨h.1, ?_⟩
  rcases h.2.2 with ⟨hv, hn⟩ | ⟨g, cap, cur, hv, _, hh, h1, h2, h3, h4⟩
  · injection hv with hA _ hc
    exact .inl ⟨hA, hn, hc⟩
  · injection hv with hA _ hc
    subst hc
    exact .inr ⟨g, cur, (0, 0), hA, hh, .inl rfl, h1, h2, by simpa using h3, by simpa using h4⟩
theorem OwnF.nil (w : World) (e : TypeId) : OwnF w e none 0 0 [] := ⟨rfl, .inl ⟨rfl, rfl, rfl⟩⟩
theorem OwnF.lt (h : OwnF w e A n c l) : ∀ g, blkOf A = some g → g < w.heap.size := fun g hg => by
  rcases h.2 with ⟨hA, _⟩ | ⟨g', cur, fz, hA, hh, _⟩
  · subst hA; cases hg
  · subst hA
    have : g' = g := by simpa [blkOf] using hg
    subst this
    exact (Array.getElem?_eq_some_iff.1 hh).1
theorem OwnF.max (h : OwnF w e A n c l) : n ≤ maxLen := by
  rcases h.2 with ⟨_, hn, _⟩ | ⟨g', cur, fz, _, _, _, h1, h2, _⟩
  · rw [hn]; exact Nat.zero_le _
  · exact Nat.le_trans h1 h2
theorem OwnF.below {B : Nat} (h : OwnF w e A n c l) (hb : Below B w w') (hB : ∀ g, blkOf A = some g → g < B) : OwnF w' e A n c l := by
  refine ⟨h.1, ?_⟩
  rcases h.2 with hA | ⟨g, cur, fz, hA, hh, r⟩
  · exact .inl hA
  · exact .inr ⟨g, cur, fz, hA, by rw [hb.block g (hB g (by rw [hA]; rfl))]; exact hh, r⟩
theorem OwnF.alloc (h : OwnF w e A n c l) (o : Obj) : OwnF (w.alloc o) e A n c l := h.below ((Below.refl w.heap.size w).alloc (Nat.le_refl _) o) h.lt
theorem OwnF.drew (h : OwnF w e A n c l) : OwnF w.drew e A n c l := h
theorem OwnF.cell (h : OwnF w e A n c l) {g : Nat} (hA : A = some ⟨g, 0, none⟩) : ∀ j u, (B8 l)[j]? = some u → w.cell? ((⟨g, 0, none⟩ : Addr).add j) = some u := by
  intro j u hu
  rcases h.2 with ⟨hN, _⟩ | ⟨g', cur, fz, hA', hh, _, _, _, _, ht⟩
  · rw [hN] at hA; cases hA
  · rw [hA] at hA'
    injection hA' with hA'
    injection hA' with hA'
    subst hA'
    rw [Addr.add_lit, Nat.zero_add, cell_of_row w g j cur e fz hh]
    rw [← ht, List.getElem?_take] at hu
    split at hu
    · simpa using hu
    · cases hu
theorem OwnF.byt (h : OwnF w e A n c l) : Byt w w.heap.size A l := fun hl => by
  rcases h.2 with ⟨_, hn, _⟩ | ⟨g, cur, fz, hA, hh, _⟩
  · have := h.1; omega
  · refine ⟨g, 0, hA, (Array.getElem?_eq_some_iff.1 hh).1, fun j x hx => ?_⟩
    have := h.cell hA j (.int .u8 (x.toNat : Int)) (by rw [getElem?_B8, hx]; rfl)
    simpa [Addr.add_lit] using this
end
section
variable {P : Program} (w : World)

theorem run_append8f (t ty e : TypeId) (i : TypeInfo) (ht : P.underlying t = some (.slice e)) (hi : P.info? e = some i) (hz : i.zero = some (.int .u8 0)) (hsize : i.size = 1) (hby : i.bytes = 1)
    (A : Option Addr) (n c : Nat) (l : List UInt8) (hown : OwnF w e A n c l) (B : Nat) (A2 : Option Addr) (n2 c2 : Nat) (m : List UInt8) (hr : Byt w B A2 m) (hn2 : n2 = m.length) (h0 : 0 < n2) (hb : n + n2 ≤ 140737488355328) :
    ∃ A' c' w', (Builtin.append_ #[t, t] ty #[.slice A n c, .slice A2 n2 c2]).run P w = .ok (.slice A' (n + n2) c') w' ∧ OwnF w' e A' (n + n2) c' (l ++ m) ∧ w.grownBy w' (blkOf A) ∧
      (blkOf A' = blkOf A ∨ blkOf A' = some w.heap.size) := by
  have h2 := hown.2
  rcases h2 with ⟨hA, hn, hc⟩ | ⟨g, cur, fz, hA, hh, hf, hnc, hcm, hcs, htake⟩
  · subst hA hn hc
    have hl : l = [] := List.eq_nil_of_length_eq_zero hown.1.symm
    subst hl
    obtain ⟨A', c', w', h1, h2, h3, h4⟩ := run_append8 (P := P) w t ty e i ht hi hz hsize hby none 0 0 [] (Own8.nil w e) B A2 n2 c2 m hr hn2 hb
    exact ⟨A', c', w', h1, h2.soft, h3, h4⟩
  · obtain ⟨b, off, hA2, _, hcell⟩ := hr (by omega)
    subst hA hA2
    have hnews : ∀ j u, (B8 m)[j]? = some u → w.cell? ((⟨b, off, none⟩ : Addr).add j) = some u := by
      intro j u hu
      rw [getElem?_B8] at hu
      rcases hx : m[j]? with _ | x
      · rw [hx] at hu; cases hu
      · rw [hx] at hu
        rw [Addr.add_lit, hcell j x hx]
        exact hu
    have hlm : (B8 m).length = n2 * i.size := by rw [length_B8, hsize, Nat.mul_one]; exact hn2.symm
    have hlen : (B8 l ++ B8 m).length = n + n2 := by rw [List.length_append, length_B8, length_B8, ← hown.1, hn2]
    have hlen' : n + n2 = (l ++ m).length := by rw [List.length_append, ← hown.1, hn2]
    by_cases hroom : n + n2 ≤ c
    · have hfc := run_firstCells_some (P := P) w i.size n2 ⟨b, off, none⟩ n2 c2 (B8 m) hlm hnews
      have hst := run_storeCells_soft P g (n * i.size) e fz (B8 m) 0 cur w hh hf (by rw [length_B8, hsize]; omega) (oneCell_B8 m)
      simp only [Nat.add_zero] at hst
      refine ⟨some ⟨g, 0, none⟩, c, w.setRow g (cur.toList.take (n * i.size) ++ B8 m ++ cur.toList.drop (n * i.size + (B8 m).length)).toArray, ?_, ⟨hlen', .inr ⟨g, _, fz, rfl, setRow_heap w g cur _ e _ hh, ?_, hroom, hcm, ?_, ?_⟩⟩, ⟨rfl, rfl, rfl, by simp, fun k _ hk => setRow_other w g k _ (fun e => hk (by simp [blkOf, e]))⟩, .inl rfl⟩
      · simp [Builtin.append_, run_underlying ht, Go.sizeOf, typeInfo, hi, Builtin.lenOf, hroom, hfc, Addr.add_lit, hst]
      · have : (cur.toList.take (n * i.size) ++ B8 m ++ cur.toList.drop (n * i.size + (B8 m).length)).toArray.size = cur.size := by
          simp only [List.size_toArray, List.length_append, List.length_take, List.length_drop, Array.length_toList, length_B8, hsize]
          omega
        rw [this]; exact hf
      · simp only [List.size_toArray, List.length_append, List.length_take, List.length_drop, Array.length_toList, length_B8, hsize]
        omega
      · simp only [hsize, Nat.mul_one]
        rw [htake, B8_append, ← hlen]
        exact List.take_left
    · have holds := hown.cell (g := g) rfl
      have hgr := run_append_grow (P := P) w t ty e i (.int .u8 0) ht hi hz ⟨g, 0, none⟩ n c (B8 l) (by rw [length_B8, hsize, Nat.mul_one]; exact hown.1.symm) holds ⟨b, off, none⟩ n2 c2 (B8 m) hlm hnews (by omega) (by omega) (by rw [hby]; exact growslice_fits (by omega) (by omega))
      have hge := grownCap_ge w (n + n2) c e
      have hcm2 : grownCap w (n + n2) c e ≤ maxLen := grownCap_le_maxLen w (n + n2) c e (by unfold maxLen; omega)
      refine ⟨_, _, _, hgr, ⟨hlen', .inr ⟨w.heap.size, _, (0, 0), rfl, heap_alloc_new w.drew _, .inl rfl, hge, hcm2, ?_, ?_⟩⟩, ⟨rfl, rfl, rfl, by simp, fun k hk _ => heap_alloc_old w.drew _ k hk⟩, .inr rfl⟩
      · have hz1 : (Value.int IntKind.u8 0).cells.size = 1 := rfl
        simp only [Array.size_append, List.size_toArray, size_zeroCells, hz1, length_B8, ← hown.1, ← hn2]
        omega
      · simp only [Array.toList_append, List.append_assoc]
        rw [← List.append_assoc, B8_append, ← hlen]
        exact List.take_left
variable {w}

theorem wpList_append8f {ops : Array Oper} {rest : List Oper} {o : Oper} {a : Act} {Q : Exit → Act → World → Prop} (hw : Region.wanted o (yielded ops a.tmps) = true) (s x : Operand) (t e : TypeId)
    (ho : o.op = .call { callee := .builtin .append, args := #[s, x], argTypes := #[t, t] }) (ht : IsBytes P t e)
    (A : Option Addr) (n c : Nat) (l : List UInt8) (hs : a.eval s = .slice A n c) (hown : OwnF w e A n c l) (B : Nat) (A2 : Option Addr) (n2 c2 : Nat) (m : List UInt8) (hx : a.eval x = .slice A2 n2 c2) (hr : Byt w B A2 m) (hn2 : n2 = m.length) (h0 : 0 < n2) (hb : n + n2 ≤ 140737488355328)
    (h : ∀ A' c' w', OwnF w' e A' (n + n2) c' (l ++ m) → w.grownBy w' (blkOf A) → (blkOf A' = blkOf A ∨ blkOf A' = some w.heap.size) → wpList P ops Q rest (a.put o.dst (.slice A' (n + n2) c')) w') : wpList P ops Q (o :: rest) a w := by
  obtain ⟨ht, _, i, hi, hz, hsize, hby⟩ := ht
  obtain ⟨A', c', w', hr, h2, h3, h4⟩ := run_append8f (P := P) w t o.type e i ht hi hz hsize hby A n c l hown B A2 n2 c2 m hr hn2 h0 hb
  refine BigFrame.wpList_want hw fun K hK => ?_
  unfold Oper.wp execOp
  simp only [ho, resolve, invoke, builtin, Sem.run_bind, Sem.run_pure, Result.andThen_ok, List.map_toArray, List.map_cons, List.map_nil, hs, hx, hr]
  exact hK _ _ (h A' c' w' h2 h3 h4)
theorem step_append8f {ops : Array Oper} {o : Oper} {a : Act} {K : Act → World → Prop} {Q : Exit → Act → World → Prop} (hw : Region.wanted o (yielded ops a.tmps) = true) (s x : Operand) (t e : TypeId)
    (ho : o.op = .call { callee := .builtin .append, args := #[s, x], argTypes := #[t, t] }) (ht : IsBytes P t e)
    (A : Option Addr) (n c : Nat) (l : List UInt8) (hs : a.eval s = .slice A n c) (hown : OwnF w e A n c l) (B : Nat) (A2 : Option Addr) (n2 c2 : Nat) (m : List UInt8) (hx : a.eval x = .slice A2 n2 c2) (hr : Byt w B A2 m) (hn2 : n2 = m.length) (h0 : 0 < n2) (hb : n + n2 ≤ 140737488355328)
    (h : ∀ A' c' w', OwnF w' e A' (n + n2) c' (l ++ m) → w.grownBy w' (blkOf A) → (blkOf A' = blkOf A ∨ blkOf A' = some w.heap.size) → K (a.put o.dst (.slice A' (n + n2) c')) w') :
    if Region.wanted o (yielded ops a.tmps) = true then Oper.wp P o a w K Q else K (a.put o.dst undef) w := by
  obtain ⟨ht, _, i, hi, hz, hsize, hby⟩ := ht
  obtain ⟨A', c', w', hr, h2, h3, h4⟩ := run_append8f (P := P) w t o.type e i ht hi hz hsize hby A n c l hown B A2 n2 c2 m hr hn2 h0 hb
  rw [if_pos hw]
  unfold Oper.wp execOp
  simp only [ho, resolve, invoke, builtin, Sem.run_bind, Sem.run_pure, Result.andThen_ok, List.map_toArray, List.map_cons, List.map_nil, hs, hx, hr]
  exact h A' c' w' h2 h3 h4
/-- the world, and the room, behind '[]byte(s)' -/
def convW (w : World) (e : TypeId) (s : ByteArray) : World := Lib.bytesWorld w e s
def convC (w : World) (e : TypeId) (s : ByteArray) : Nat := grownCap w s.size 0 e
/-- '[]byte(s)' -/
theorem run_conv_sb {t e ts : TypeId} (ht : IsBytes P t e) (hd : P.underlying ts = some .string) (s : ByteArray) (hm : s.size ≤ 1000000000) (w : World) : ∃ c, (convert ts t (.string s)).run P w = .ok (.slice (some ⟨w.heap.size, 0, none⟩) s.size c) (Lib.bytesWorld w e s) ∧ OwnF (Lib.bytesWorld w e s) e (some ⟨w.heap.size, 0, none⟩) s.size c s.data.toList ∧ Below w.heap.size w (Lib.bytesWorld w e s) ∧ (Lib.bytesWorld w e s).heap.size = w.heap.size + 1 := by
  have hge := grownCap_ge w s.size 0 e
  have hcm : grownCap w s.size 0 e ≤ maxLen := grownCap_le_maxLen w s.size 0 e (by unfold maxLen; omega)
  refine ⟨grownCap w s.size 0 e, Lib.run_convert_string_bytes w ts t e s hd ht.1 ht.2.1, ⟨rfl, .inr ⟨w.heap.size, _, _, rfl, Lib.bytesWorld_at_new w e s, .inr (Nat.le_refl _), hge, hcm, ?_, ?_⟩⟩, ⟨rfl, rfl, rfl, by rw [Lib.bytesWorld_size]; omega, fun k hk => Lib.bytesWorld_at_old w e s k hk⟩, Lib.bytesWorld_size w e s⟩
  · simp only [Lib.bytesCells, Array.size_append, Array.size_map, Array.size_replicate]
    have : s.data.size = s.size := rfl
    omega
  · simp only [Lib.bytesCells, Array.toList_append, Array.toList_map]
    have : s.size = (s.data.toList.map fun b : UInt8 => Value.int .u8 (b.toNat : Int)).length := by simp
    rw [this]
    exact List.take_left
theorem run_convW {t e ts : TypeId} (ht : IsBytes P t e) (hd : P.underlying ts = some .string) (s : ByteArray) (w : World) : (convert ts t (.string s)).run P w = .ok (.slice (some ⟨w.heap.size, 0, none⟩) s.size (convC w e s)) (convW w e s) :=
  Lib.run_convert_string_bytes w ts t e s hd ht.1 ht.2.1
theorem convW_below (w : World) (e : TypeId) (s : ByteArray) : Below w.heap.size w (convW w e s) := ⟨rfl, rfl, rfl, by unfold convW; rw [Lib.bytesWorld_size]; omega, fun k hk => Lib.bytesWorld_at_old w e s k hk⟩
theorem convW_size (w : World) (e : TypeId) (s : ByteArray) : (convW w e s).heap.size = w.heap.size + 1 := Lib.bytesWorld_size w e s
theorem convW_own (w : World) (e : TypeId) (s : ByteArray) (hm : s.size ≤ 1000000000) : OwnF (convW w e s) e (some ⟨w.heap.size, 0, none⟩) s.size (convC w e s) s.data.toList := by
  have hge := grownCap_ge w s.size 0 e
  have hcm : grownCap w s.size 0 e ≤ maxLen := grownCap_le_maxLen w s.size 0 e (by unfold maxLen; omega)
  refine ⟨rfl, .inr ⟨w.heap.size, _, _, rfl, Lib.bytesWorld_at_new w e s, .inr (Nat.le_refl _), hge, hcm, ?_, ?_⟩⟩
  · simp only [Lib.bytesCells, Array.size_append, Array.size_map, Array.size_replicate]
    have : s.data.size = s.size := rfl
    unfold convC
    omega
  · simp only [Lib.bytesCells, Array.toList_append, Array.toList_map]
    have : s.size = (s.data.toList.map fun b : UInt8 => Value.int .u8 (b.toNat : Int)).length := by simp
    rw [this]
    exact List.take_left
end
end Kin
