/- Words for memory, over any program: a slice of bytes that reads as a list; a block that is known whole; frames. No program here; no conditions. -/
import Derived.Below
import Derived.Laws.OwnMore
import Derived.Laws.Rows
import Derived.Laws.Tables
import Derived.Deep.AppendLies
import Derived.Deep.Draws
import Derived.Deep.OwnRows
namespace Kin
open Go Go.RowKit

/-- the slice at A reads as the bytes l, and lies below block B -/
def Byt (w : World) (B : Nat) (A : Option Addr) (l : List UInt8) : Prop :=
  0 < l.length → ∃ b off, A = some ⟨b, off, none⟩ ∧ b < B ∧ ∀ j x, l[j]? = some x → w.cell? ⟨b, off + j, none⟩ = some (.int .u8 (x.toNat : Int))

section
variable {w w' : World} {B B' : Nat} {A : Option Addr} {l : List UInt8}

theorem Byt.nil : Byt w B A [] := fun h => absurd h (by simp)
theorem Byt.keep (h : Byt w B A l) (hk : ∀ p : Addr, p.block < B → w'.cell? p = w.cell? p) : Byt w' B A l := fun hl => by
  obtain ⟨b, off, e, hb, hc⟩ := h hl
  exact ⟨b, off, e, hb, fun j x hx => (hk ⟨b, off + j, none⟩ hb).trans (hc j x hx)⟩
theorem Byt.more (h : Byt w B A l) (hB : B ≤ B') : Byt w B' A l := fun hl => by
  obtain ⟨b, off, e, hb, hc⟩ := h hl
  exact ⟨b, off, e, Nat.lt_of_lt_of_le hb hB, hc⟩
theorem Byt.below (h : Byt w B A l) (hb : Below B w w') : Byt w' B A l := h.keep fun _ hp => hb.cell hp
theorem Byt.drew (h : Byt w B A l) : Byt w.drew B A l := h
theorem Byt.drewN (h : Byt w B A l) (k : Nat) : Byt (w.drewN k) B A l := h
theorem Byt.here (h : Byt w B A l) : Byt w w.heap.size A l := fun hl => by
  obtain ⟨b, off, e, _, hc⟩ := h hl
  exact ⟨b, off, e, block_lt_of_cell (a := ⟨b, off + 0, none⟩) (hc 0 _ (List.getElem?_eq_getElem hl)), hc⟩
theorem Byt.at_ (h : Byt w B A l) {k : Nat} (hk : k < l.length) : ∃ b off, A = some ⟨b, off, none⟩ ∧ b < B ∧ w.cell? ⟨b, off + k, none⟩ = some (.int .u8 ((l[k]).toNat : Int)) := by
  obtain ⟨b, off, e, hb, hc⟩ := h (by omega)
  exact ⟨b, off, e, hb, hc k _ (List.getElem?_eq_getElem hk)⟩
end

/-- a row of n cells by a function -/
def rowA (n : Nat) (f : Nat → Value) : Array Value := (Array.range n).map f
theorem size_rowA (n : Nat) (f : Nat → Value) : (rowA n f).size = n := by simp [rowA]
theorem getElem?_rowA {n : Nat} (f : Nat → Value) {i : Nat} (h : i < n) : (rowA n f)[i]? = some (f i) := by simp [rowA, h]
theorem rowA_congr {n : Nat} {f g : Nat → Value} (h : ∀ i, i < n → f i = g i) : rowA n f = rowA n g := by
  apply Array.ext_getElem?
  intro i
  by_cases hi : i < n
  · rw [getElem?_rowA _ hi, getElem?_rowA _ hi, h i hi]
  · rw [Array.getElem?_eq_none (by rw [size_rowA]; omega), Array.getElem?_eq_none (by rw [size_rowA]; omega)]
theorem rowA_set (n : Nat) (f : Nat → Value) (i : Nat) (u : Value) : (rowA n f).setIfInBounds i u = rowA n (fun j => if j = i then u else f j) := by
  apply Array.ext_getElem?
  intro j
  rw [Array.getElem?_setIfInBounds]
  by_cases hj : j < n
  · rw [getElem?_rowA _ hj, getElem?_rowA _ hj]
    by_cases e : i = j
    · subst e; simp [size_rowA, hj]
    · simp [e, Ne.symm e]
  · rw [Array.getElem?_eq_none (xs := rowA n fun j => if j = i then u else f j) (by rw [size_rowA]; omega)]
    by_cases e : i = j
    · subst e; simp [size_rowA, hj]
    · simp only [e, if_false]; exact Array.getElem?_eq_none (by rw [size_rowA]; omega)
theorem oneCell_rowA (n : Nat) (f : Nat → Value) (h : ∀ i, i < n → (f i).oneCell' = true) : (rowA n f).all (·.oneCell') = true := by
  rw [Array.all_eq_true_iff_forall_mem]
  intro v hv
  obtain ⟨i, hi, rfl⟩ : ∃ i, i < n ∧ f i = v := by simpa [rowA] using hv
  exact h i hi

/-- a block that is known whole -/
def Blk (w : World) (g : Nat) (t : TypeId) (cs : Array Value) : Prop := w.heap[g]? = some (.cells cs t (0, 0))
section
variable {w w' : World} {g : Nat} {t : TypeId} {cs : Array Value}

theorem Blk.lt (h : Blk w g t cs) : g < w.heap.size := by
  rcases Nat.lt_or_ge g w.heap.size with hlt | hge
  · exact hlt
  · unfold Blk at h; rw [Array.getElem?_eq_none hge] at h; cases h
theorem Blk.cell (h : Blk w g t cs) (i : Nat) : w.cell? ⟨g, i, none⟩ = cs[i]? := cell_of_row w g i cs t (0, 0) h
theorem Blk.frozen (h : Blk w g t cs) (i : Nat) : w.frozen? ⟨g, i, none⟩ = false := by
  unfold Blk at h
  simp [World.frozen?, h]
theorem Blk.new (w : World) (t : TypeId) (cs : Array Value) : Blk (w.alloc (.cells cs t)) w.heap.size t cs := heap_alloc_new w _
theorem Blk.drew (h : Blk w g t cs) : Blk w.drew g t cs := h
theorem Blk.drewN (h : Blk w g t cs) (n : Nat) : Blk (w.drewN n) g t cs := h
theorem Blk.alloc (h : Blk w g t cs) (o : Obj) : Blk (w.alloc o) g t cs := (Below.heap_alloc w o g h.lt).trans h
theorem Blk.set_ (h : Blk w g t cs) (i : Nat) (u : Value) : Blk (w.setCell ⟨g, i, none⟩ u) g t (cs.setIfInBounds i u) := by
  unfold Blk at h ⊢
  simp [World.setCell, Array.getElem?_modify, h]
theorem Blk.setRow (h : Blk w g t cs) (c' : Array Value) : Blk (w.setRow g c') g t c' := by
  unfold Blk at h ⊢
  simp [World.setRow, Array.getElem?_modify, h]
theorem Blk.setRow_far (h : Blk w g t cs) {k : Nat} (hk : g ≠ k) (c' : Array Value) : Blk (w.setRow k c') g t cs := by
  unfold Blk at h ⊢
  simp only [World.setRow, Array.getElem?_modify]
  rw [if_neg (by omega)]
  exact h
theorem Blk.far (h : Blk w g t cs) {p : Addr} (hp : g ≠ p.block) (u : Value) : Blk (w.setCell p u) g t cs := (Below.heap_setCell w p u g hp).trans h
theorem Blk.below {B : Nat} (h : Blk w g t cs) (hb : Below B w w') (hg : g < B) : Blk w' g t cs := (hb.block g hg).trans h
theorem Blk.grown {row : Option Nat} (h : Blk w g t cs) (hb : w.grownBy w' row) (hg : some g ≠ row) : Blk w' g t cs := (hb.block g h.lt hg).trans h
theorem Blk.ne_ {g' : Nat} {t' : TypeId} {cs' : Array Value} (h : Blk w g t cs) (h' : Blk w g' t' cs') (hne : t ≠ t') : g ≠ g' := by
  rintro rfl
  unfold Blk at h h'
  rw [h] at h'
  injection h' with h'
  injection h' with _ ht
  exact hne ht
theorem own_blk_ne {base : Nat} {e : TypeId} {size n : Nat} {v : Value} {xs : List Value} (h : w.ownsRow base e size v n xs) (hg : Blk w g t cs) (hne : e ≠ t) : v.ownBlock ≠ some g := by
  rcases h.2 with ⟨rfl, _⟩ | ⟨g', cap, cur, rfl, _, hh, _⟩
  · simp [Value.ownBlock]
  · intro he
    have : g' = g := by simpa [Value.ownBlock] using he
    subst this
    exact Blk.ne_ (t := e) hh hg hne rfl
theorem below_setRow' {B g : Nat} {w0 w : World} (hb : Below B w0 w) (hBg : B ≤ g) (cs : Array Value) : Below B w0 (w.setRow g cs) :=
  hb.trans ⟨rfl, rfl, rfl, by simp [World.setRow], fun k hk => by simp only [World.setRow, Array.getElem?_modify]; rw [if_neg (by omega)]⟩
theorem bcell {W w1 : World} (hb : Below W.heap.size W w1) : (∀ b o, b < W.heap.size → w1.cell? ⟨b, o, none⟩ = W.cell? ⟨b, o, none⟩) ∧ (∀ b o, b < W.heap.size → w1.frozen? ⟨b, o, none⟩ = W.frozen? ⟨b, o, none⟩) :=
  ⟨fun b o h => hb.cell (p := ⟨b, o, none⟩) h, fun b o h => hb.frozen (p := ⟨b, o, none⟩) h⟩
end

theorem bnext {a b c : World} (h : Below a.heap.size a b) (k : Below b.heap.size b c) : Below a.heap.size a c := h.trans (k.mono h.size)
theorem ret_int {k : IntKind} {a b : Int} (h : a = b) : Ending.returned (.int k a) = .returned (.int k b) := by rw [h]
theorem hide {p : Prop} (h : p) : Hid p := h
end Kin
