/- What parsing answers, in one form for both its ways. No conditions but those of the contracts. -/
import Derived.Test.YtjofojjinoipaaaLaw16Alive
import Derived.Test.YtjofojjinoipaaaBoxOpen
namespace Go.Proofs.Ytjofojjinoipaaa
open Go.RowKit Kin

def paL (m : List UInt8) : List Bx.Box := if Bx.even m = true then Bx.boxes m else []
def paE (m : List UInt8) : Int := if Bx.even m = true then 0 else 161
theorem pa_yes {m : List UInt8} (h : Bx.even m = true) : paL m = Bx.boxes m ∧ paE m = 0 := by unfold paL paE; rw [if_pos h, if_pos h]; exact ⟨rfl, rfl⟩
theorem pa_no {m : List UInt8} (h : Bx.even m = false) : paL m = [] ∧ paE m = 161 := by unfold paL paE; rw [h, if_neg (by simp), if_neg (by simp)]; exact ⟨rfl, rfl⟩
def RetPa (w : World) (L : List Bx.Box) (E : Int) (e : Ending) (w' : World) : Prop :=
  ∃ A n c xs, e = .returned (.tuple #[.slice A n c, .int .i64 E]) ∧ Bx.OwnB w' 36 5 A n c xs ∧ Bx.boxs xs = L ∧ (∀ g, blkOf A = some g → w.heap.size ≤ g) ∧ Below w.heap.size w w'
theorem retPa {w : World} {m : List UInt8} {e : Ending} {w' : World} (h : RetParse w m e w') : RetPa w (paL m) (paE m) e w' := by
  rcases h with ⟨hv, A, n, c, xs, rfl, o, hx, g, b⟩ | ⟨hv, rfl, b⟩
  · rw [(pa_yes hv).1, (pa_yes hv).2]; exact ⟨A, n, c, xs, rfl, o, hx, g, b⟩
  · rw [(pa_no hv).1, (pa_no hv).2]; exact ⟨none, 0, 0, [], rfl, Bx.OwnB.nil _ _ _, rfl, by simp [blkOf], b⟩
theorem pa_calls (A : Option Addr) (n c : Nat) (m : List UInt8) (w : World) (hn : n = m.length) (hc : n ≤ c) (hm : n ≤ 1099511627776) (hA : Byt w w.heap.size A m) :
    Calls Try.prog 11 #[.slice A n c] w (RetPa w (paL m) (paE m)) := (parse_calls A n c m w hn hc hm hA).mono fun _ _ h => retPa h
theorem refpa_calls (A : Option Addr) (n c : Nat) (m : List UInt8) (w : World) (hn : n = m.length) (hc : n ≤ c) (hm : n ≤ 1099511627776) (hA : Byt w w.heap.size A m) :
    Calls Try.prog 12 #[.slice A n c] w (RetPa w (paL m) (paE m)) := (refparse_calls A n c m w hn hc hm hA).mono fun _ _ h => retPa h
theorem ownB_max {w : World} {e e8 : TypeId} {A : Option Addr} {n c : Nat} {xs : List Bx.Cel} (h : Bx.OwnB w e e8 A n c xs) : n ≤ 9223372036854775807 := by
  rcases h.1.2.2.2 with ⟨hv, hn⟩ | ⟨g, cap, cur, hv, _, _, h1, h2, _⟩
  · omega
  · have : maxLen = 9223372036854775807 := rfl
    omega
theorem sizes_small : ∀ (xs : List Bx.Cel) (_ : ∀ x ∈ xs, x.n = x.d.length ∧ x.n ≤ 1000), Bx.sizes (Bx.boxs xs) ≤ xs.length * 1008
  | [], _ => by simp [Bx.boxs, Bx.sizes]
  | x :: xs, h => by
    have ih := sizes_small xs (fun y hy => h y (by simp [hy]))
    have hx := h x (by simp)
    show 8 + x.d.length + Bx.sizes (Bx.boxs xs) ≤ (xs.length + 1) * 1008
    omega
theorem fits_sizes {xs : List Bx.Cel} {w : World} {B : Nat} {A : Option Addr} (h : Bx.fits xs = true) (hA : Bx.Boxes w B A xs) : xs.length ≤ 20 ∧ (∀ x ∈ xs, x.n ≤ 1000 ∧ x.t.size ≤ 1000) ∧ Bx.sizes (Bx.boxs xs) ≤ 20160 := by
  obtain ⟨h1, h2⟩ := Bx.fits_of h
  refine ⟨h1, h2, Nat.le_trans (sizes_small xs (fun x hx => ⟨(hA.2 x hx).1, (h2 x hx).1⟩)) (by omega)⟩
end Go.Proofs.Ytjofojjinoipaaa
