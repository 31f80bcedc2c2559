/- A slice of boxes that came in: how long its file may be, by how much was read. No conditions. -/
import Derived.Test.YtjofojjinoipaaaBoxOpen
import Derived.Test.YtjofojjinoipaaaBoxWrite
import Derived.Test.YtjofojjinoipaaaRows
namespace Go.Proofs.Ytjofojjinoipaaa
open Go.RowKit Kin Go.ChangeShapes Go.WideShapes Go.ChangeAt Go.Deep
open _root_.Go.Proofs.Ytjofojjinoipaaa.Rows

theorem bulkAll_append {H : Type} : ∀ (a b : List (DataW H)), uptoBulkAll (a ++ b) = uptoBulkAll a + uptoBulkAll b
  | [], b => by simp [uptoBulkAll]
  | x :: a, b => by
    rw [List.cons_append, uptoBulkAll, uptoBulkAll, bulkAll_append a b]; omega
theorem bulk_pos {H : Type} (d : DataW H) : 1 ≤ uptoBulk d := by
  cases d with
  | lit l => cases l <;> simp [uptoBulk]
  | _ => simp [uptoBulk]
theorem bulk_mem {H : Type} : ∀ (l : List (DataW H)) (i : Nat) (d : DataW H), l[i]? = some d → uptoBulk d ≤ uptoBulkAll l
  | [], i, d, h => by simp at h
  | x :: l, 0, d, h => by simp at h; subst h; rw [uptoBulkAll]; omega
  | x :: l, i + 1, d, h => by
    have := bulk_mem l i d (by simpa using h)
    rw [uptoBulkAll]; omega
theorem bulk_lits {H : Type} (k : IntKind) : ∀ (zs : List Int), uptoBulkAll (lits (H := H) k zs) = zs.length
  | [] => rfl
  | z :: zs => by
    show uptoBulk (.lit (.int k z)) + uptoBulkAll (lits k zs) = zs.length + 1
    have : uptoBulk (H := H) (.lit (.int k z)) = 1 := by simp [uptoBulk]
    rw [bulk_lits k zs, this]; omega

/-- what a slice of bytes holds is not more than was read -/
theorem bytes_bulk {H : Type} {enc : TypeId × Value → H} {W : World} {base : Nat} {spare : Nat → Bool} {held : Bool} {A : Option Addr} {n c : Nat} {fuel : Nat} {x : DataW H × List MemPlace}
    (hf : DataW.trod enc Try.prog W base spare held fuel 23 [.slice A n c] = some x) : n ≤ uptoBulk x.1 := by
  rcases open_ints Try.underlying23 Try.underlying5 (by kernel_rfl) hf with ⟨hcs, hx⟩ | ⟨y, n', c', zs, hcs, _, hl, hm, hz, hx, hcell, hwz⟩
  · simp at hcs
    omega
  · simp at hcs
    obtain ⟨_, rfl, rfl⟩ := hcs
    rw [hx]
    show n ≤ uptoBulk (.slice _ _)
    rw [uptoBulk, bulk_lits, List.length_take]
    have : n ≤ zs.length := by rw [hz]; split <;> omega
    omega

theorem boxes_upto {H : Type} {enc : TypeId × Value → H} {w : World} {base : Nat} {spare : Nat → Bool} {held : Bool} {v : Value} {d : DataW H} {p : List MemPlace} {r : Reach} {b0 : Nat}
    (hv : Value.okWide Try.prog w r b0 22 v) (h : DataW.Trod enc Try.prog w base spare held 22 v d p) :
    ∃ A n c xs, v = .slice A n c ∧ n = xs.length ∧ n ≤ c ∧ c ≤ maxLen ∧ Bx.Boxes w w.heap.size A xs ∧ Bx.sizes (Bx.boxs xs) ≤ 9 * uptoBulk d := by
  obtain ⟨A, n, c, xs, rfl, hn, hm, hb, _⟩ := boxes_open hv h
  obtain ⟨fuel, hf⟩ := h
  rcases open_slice Try.underlying22 hf with ⟨hcs, hx⟩ | ⟨a, len, cap, m, k, D, Pl, hcs, hbb, hl, hcm, hmm, hx, hi⟩
  · simp [Value.cells] at hcs
    obtain ⟨rfl, rfl, rfl⟩ := hcs
    have : xs = [] := List.eq_nil_of_length_eq_zero hn.symm
    subst this
    exact ⟨none, 0, 0, [], rfl, rfl, Nat.le_refl _, Nat.zero_le _, hb, by simp [Bx.boxs, Bx.sizes]⟩
  · simp [Value.cells] at hcs
    obtain ⟨rfl, rfl, rfl⟩ := hcs
    refine ⟨some a, n, c, xs, rfl, hn, hl, hcm, hb, ?_⟩
    have hnm : n ≤ m := by rw [hmm]; split <;> omega
    have hone : ∀ i (hi' : i < xs.length), xs[i].n ≤ uptoBulk (D i) := by
      intro i hi'
      obtain ⟨b, off, hA, _, _, c1, _⟩ := hb.at_ hi'
      injection hA with hA
      obtain ⟨cs', hc, ht⟩ := hi i (by omega)
      have hC : Try.prog.cellsOf 36 = 2 := by kernel_rfl
      rw [hC] at hc
      obtain ⟨ys, n', _, hy, hlen, hyl, hfl⟩ := DataW.trod_struct Try.underlying36 ht
      obtain ⟨_, hcl, hat⟩ := World.cells?_some hc
      have h1 := hat 1 (by omega)
      rw [Go.Deep.add_add, hA, Addr.add_lit] at h1
      rw [Nat.add_assoc] at c1
      rw [c1] at h1
      have hf1 := hfl 1 _ rfl
      match cs', hcl with
      | [u, v], _ =>
        simp at h1
        subst h1
        have hy1 : ys[1]? = some (ys[1]'(by rw [hyl]; decide)) := List.getElem?_eq_getElem _
        rw [hy1] at hf1
        have := bytes_bulk (n := xs[i].n) hf1
        refine Nat.le_trans this ?_
        injection hy with hy _
        rw [hy, uptoBulk]
        have := bulk_mem (ys.map (·.1)) 1 (ys[1]'(by rw [hyl]; decide)).1 (by rw [List.getElem?_map, hy1]; rfl)
        omega
    have key : ∀ k, k ≤ n → Bx.sizes ((Bx.boxs xs).take k) ≤ 9 * uptoBulkAll ((List.range k).map D) := by
      intro k
      induction k with
      | zero => intro _; simp [Bx.sizes]
      | succ k ih =>
        intro hk
        have hkx : k < xs.length := by omega
        have i1 := ih (by omega)
        have i2 := hone k hkx
        have i3 := bulk_pos (D k)
        have i4 := (hb.2 _ (List.getElem_mem hkx)).1
        rw [Bx.take_boxs xs hkx, sizes_snoc, List.range_succ, List.map_append, bulkAll_append]
        simp only [List.map_cons, List.map_nil, uptoBulkAll]
        omega
    have hk := key n (Nat.le_refl _)
    rw [List.take_of_length_le (by rw [Bx.length_boxs]; omega)] at hk
    injection hx with hx _
    rw [hx, uptoBulk]
    omega
end Go.Proofs.Ytjofojjinoipaaa
