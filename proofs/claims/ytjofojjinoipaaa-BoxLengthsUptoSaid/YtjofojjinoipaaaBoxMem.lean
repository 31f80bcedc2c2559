/- Slices of boxes in memory: a slice that came in, or that a call made, reads as a list of boxes. No conditions. -/
import Derived.Test.YtjofojjinoipaaaBoxPlain
import Derived.Test.YtjofojjinoipaaaOwnR
namespace Bx
open Go Go.RowKit Kin

/-- a box's two cells, and the bytes of its data -/
structure Cel where
  t : ByteArray
  A : Option Addr
  n : Nat
  c : Nat
  d : List UInt8
def Cel.row (x : Cel) : List Value := [.string x.t, .slice x.A x.n x.c]
def Cel.box (x : Cel) : Box := (x.t, x.d)
/-- the data reads as d -/
def Cel.ok (w : World) (B : Nat) (x : Cel) : Prop := x.n = x.d.length ∧ x.n ≤ maxLen ∧ Byt w B x.A x.d
/-- the slice at A reads as the boxes xs, all below block B -/
def Boxes (w : World) (B : Nat) (A : Option Addr) (xs : List Cel) : Prop := Recs w B 2 A (xs.map Cel.row) ∧ ∀ x ∈ xs, x.ok w B
def boxs (xs : List Cel) : List Box := xs.map Cel.box

section
variable {w w' : World} {B : Nat} {A : Option Addr} {xs : List Cel} {x : Cel}
theorem Cel.ok.below (h : x.ok w B) (hb : Below B w w') : x.ok w' B := ⟨h.1, h.2.1, h.2.2.below hb⟩
theorem Cel.ok.more {B' : Nat} (h : x.ok w B) (hb : B ≤ B') : x.ok w B' := ⟨h.1, h.2.1, h.2.2.more hb⟩
theorem Boxes.nil : Boxes w B A [] := ⟨Recs.nil, by simp⟩
theorem Boxes.below (h : Boxes w B A xs) (hb : Below B w w') : Boxes w' B A xs := ⟨h.1.below hb, fun x hx => (h.2 x hx).below hb⟩
theorem Boxes.at_ (h : Boxes w B A xs) {i : Nat} (hi : i < xs.length) : ∃ b off, A = some ⟨b, off, none⟩ ∧ b < B ∧ w.cell? ⟨b, off + i * 2, none⟩ = some (.string (xs[i]).t) ∧ w.cell? ⟨b, off + i * 2 + 1, none⟩ = some (.slice (xs[i]).A (xs[i]).n (xs[i]).c) ∧ (xs[i]).ok w B := by
  obtain ⟨b, off, e, hb, _, hc⟩ := h.1.at_ (i := i) (by simpa using hi)
  rw [List.getElem_map] at hc
  exact ⟨b, off, e, hb, hc 0 _ rfl, hc 1 _ rfl, h.2 _ (List.getElem_mem hi)⟩
theorem length_boxs (xs : List Cel) : (boxs xs).length = xs.length := by simp [boxs]
theorem boxs_append (xs ys : List Cel) : boxs (xs ++ ys) = boxs xs ++ boxs ys := by simp [boxs]
theorem boxs_take (xs : List Cel) (k : Nat) : (boxs xs).take k = boxs (xs.take k) := by simp [boxs, List.map_take]
theorem boxs_drop (xs : List Cel) (k : Nat) : (boxs xs).drop k = boxs (xs.drop k) := by simp [boxs, List.map_drop]
theorem boxs_at (xs : List Cel) {i : Nat} (hi : i < xs.length) : (boxs xs)[i]? = some (xs[i].t, xs[i].d) := by
  simp [boxs, Cel.box, hi]
theorem take_boxs (xs : List Cel) {i : Nat} (hi : i < xs.length) : (boxs xs).take (i + 1) = (boxs xs).take i ++ [(xs[i].t, xs[i].d)] := by
  rw [List.take_add_one, boxs_at xs hi]; rfl
end

/-- such boxes as are gone through -/
def small (x : Cel) : Bool := decide (x.n ≤ 1000) && decide (x.t.size ≤ 1000)
def fits (xs : List Cel) : Bool := decide (xs.length ≤ 20) && xs.all small
theorem fits_of {xs : List Cel} (h : fits xs = true) : xs.length ≤ 20 ∧ ∀ x ∈ xs, x.n ≤ 1000 ∧ x.t.size ≤ 1000 := by
  unfold fits at h
  rw [Bool.and_eq_true, decide_eq_true_iff, List.all_eq_true] at h
  refine ⟨h.1, fun x hx => ?_⟩
  have := h.2 x hx
  unfold small at this
  rw [Bool.and_eq_true, decide_eq_true_iff, decide_eq_true_iff] at this
  exact this
theorem fits_long {xs : List Cel} (h : 20 < xs.length) : fits xs = false := by
  unfold fits
  rw [decide_eq_false (by omega), Bool.false_and]
theorem fits_big {xs : List Cel} {i : Nat} (hi : i < xs.length) (h : small xs[i] = false) : fits xs = false := by
  unfold fits
  have : xs.all small = false := by
    cases e : xs.all small
    · rfl
    · rw [List.all_eq_true] at e
      rw [e _ (List.getElem_mem hi)] at h; cases h
  rw [this, Bool.and_false]
theorem small_of {x : Cel} (h1 : x.n ≤ 1000) (h2 : x.t.size ≤ 1000) : small x = true := by simp [small, h1, h2]
theorem small_no {x : Cel} (h : 1000 < x.n ∨ 1000 < x.t.size) : small x = false := by
  unfold small
  rcases h with h | h
  · rw [decide_eq_false (by omega), Bool.false_and]
  · rw [decide_eq_false (p := x.t.size ≤ 1000) (by omega), Bool.and_false]
theorem all_take {xs : List Cel} {k : Nat} (hk : k < xs.length) (h : (xs.take k).all small = true) (h2 : small xs[k] = true) : (xs.take (k + 1)).all small = true := by
  rw [List.take_add_one, List.getElem?_eq_getElem hk, List.all_append, h]
  simp [h2]

/-- the boxes are of the call's own (or nil), and their data too -/
def Cel.own (w : World) (e8 : TypeId) (x : Cel) : Prop := Own8 w e8 x.A x.n x.c x.d
def OwnB (w : World) (e e8 : TypeId) (A : Option Addr) (n c : Nat) (xs : List Cel) : Prop := OwnR w e 2 A n c (xs.map Cel.row) ∧ ∀ x ∈ xs, x.own w e8
section
variable {w w' : World} {e e8 : TypeId} {A : Option Addr} {n c : Nat} {xs : List Cel} {x : Cel}
theorem own8_max {l : List UInt8} (h : Own8 w e A n c l) : n ≤ maxLen := by
  rcases h.2.2 with ⟨hv, _⟩ | ⟨g, cap, cur, hv, _, _, h1, h2, _⟩
  · injection hv with _ h2 _; rw [h2]; exact Nat.zero_le _
  · exact Nat.le_trans h1 h2
theorem Cel.own.ok (h : x.own w e8) : x.ok w w.heap.size := ⟨h.1, own8_max h, h.byt⟩
theorem OwnB.nil (w : World) (e e8 : TypeId) : OwnB w e e8 none 0 0 [] := ⟨OwnR.nil w e 2, by simp⟩
theorem OwnB.len (h : OwnB w e e8 A n c xs) : n = xs.length := by have := h.1.1; simpa using this
theorem OwnB.boxes (h : OwnB w e e8 A n c xs) : Boxes w w.heap.size A xs := ⟨h.1.recs, fun x hx => (h.2 x hx).ok⟩
theorem OwnB.next (h : OwnB w e e8 A n c xs) (hb : Below w.heap.size w w') : OwnB w' e e8 A n c xs := ⟨h.1.next hb, fun x hx => Own8.below (h.2 x hx) hb (Own8.lt (h.2 x hx))⟩
end
theorem Boxes.more {w : World} {B B' : Nat} {A : Option Addr} {xs : List Cel} (h : Boxes w B A xs) (hb : B ≤ B') : Boxes w B' A xs :=
  ⟨fun hl => by obtain ⟨b, off, e, h1, h2⟩ := h.1 hl; exact ⟨b, off, e, by omega, h2⟩, fun x hx => (h.2 x hx).more hb⟩
theorem Boxes.of_below {w w' : World} {A : Option Addr} {xs : List Cel} (h : Boxes w w.heap.size A xs) (hb : Below w.heap.size w w') : Boxes w' w'.heap.size A xs := (h.below hb).more hb.size
end Bx
