/- From a statement's arguments to what the walks ask: an init and a media by value, and how much they hold. No conditions. -/
import Derived.Test.YtakglalebjkpeaaHLift
import Derived.Test.YtakglalebjkpeaaHSegMem
import Derived.Test.YtakglalebjkpeaaRows
import Derived.Lib.SmallJoins
import Derived.Deep.Slices
import Derived.Deep.Fields
import Derived.ChangeArms
namespace Go.Proofs.Ytakglalebjkpeaa.C17
open Go.RowKit Kin Go.ChangeShapes Go.WideShapes Go.ChangeAt Go.Deep Go.Proofs.Ytakglalebjkpeaa.C16
open _root_.Go.Proofs.Ytakglalebjkpeaa.Rows

set_option maxRecDepth 100000 in
theorem seq3 {H : Type} {enc : TypeId × Value → H} {w : World} {base : Nat} {spare : Nat → Bool} {held : Bool} {m : Nat} {a b c : Value} {x : DataW H × List MemPlace}
    (h : DataW.trod enc Try.prog w base spare held m 23 [a, b, c] = some x) : ∃ p q r : Int, a = .int .i64 p ∧ b = .int .i64 q ∧ c = .int .i64 r := by
  obtain ⟨ys, n, hm, hy, hlen, hyl, hf⟩ := DataW.trod_struct Try.underlying23 h
  have ci : Try.prog.cellsOf 3 = 1 := by kernel_rfl
  have l3 : ys.length = 3 := hyl
  have h0 := hf 0 _ rfl
  have h1 := hf 1 _ rfl
  have h2 := hf 2 _ rfl
  simp only [List.getElem?_eq_getElem (show 0 < ys.length by omega)] at h0
  simp only [List.getElem?_eq_getElem (show 1 < ys.length by omega)] at h1
  simp only [List.getElem?_eq_getElem (show 2 < ys.length by omega)] at h2
  obtain ⟨p, e0, _⟩ := DataW.trod_int Try.underlying3 h0
  obtain ⟨q, e1, _⟩ := DataW.trod_int Try.underlying3 h1
  obtain ⟨r, e2, _⟩ := DataW.trod_int Try.underlying3 h2
  simp [ci] at e0 e1 e2
  exact ⟨p, q, r, e0, e1, e2⟩
set_option maxRecDepth 100000 in
theorem ini_open {H : Type} {enc : TypeId × Value → H} {w : World} {base : Nat} {spare : Nat → Bool} {held : Bool} {v : Value} {d : DataW H} {p : List MemPlace} {r : Reach} {b0 : Nat}
    (hv : Value.okWide Try.prog w r b0 25 v) (h : DataW.Trod enc Try.prog w base spare held 25 v d p) :
    ∃ (t : ByteArray) (W H' G S T : Int), v = .agg #[.string t, .int .i64 W, .int .i64 H', .int .i64 G, .int .i64 S, .int .i64 T] ∧ t.size ≤ maxLen := by
  have hC : Try.prog.cellsOf 25 = 6 := by kernel_rfl
  obtain ⟨cs, rfl, hsz⟩ := okWide_struct Try.underlying25 hv
  obtain ⟨fuel, hf0⟩ := h
  obtain ⟨ys, m, hm, hy, hlen, hyl, hf⟩ := DataW.trod_struct Try.underlying25 hf0
  obtain ⟨l⟩ := cs
  rw [hC] at hsz
  have ci : Try.prog.cellsOf 3 = 1 := by kernel_rfl
  have cs' : Try.prog.cellsOf 9 = 1 := by kernel_rfl
  have c3 : Try.prog.cellsOf 23 = 3 := by kernel_rfl
  have l4 : ys.length = 4 := hyl
  match l, hsz with
  | [x0, x1, x2, x3, x4, x5], _ =>
    have e : (Value.agg #[x0, x1, x2, x3, x4, x5]).cells.toList = [x0, x1, x2, x3, x4, x5] := rfl
    rw [e] at hf
    have h0 := hf 0 _ rfl
    have h1 := hf 1 _ rfl
    have h2 := hf 2 _ rfl
    have h3 := hf 3 _ rfl
    simp only [List.getElem?_eq_getElem (show 0 < ys.length by omega)] at h0
    simp only [List.getElem?_eq_getElem (show 1 < ys.length by omega)] at h1
    simp only [List.getElem?_eq_getElem (show 2 < ys.length by omega)] at h2
    simp only [List.getElem?_eq_getElem (show 3 < ys.length by omega)] at h3
    obtain ⟨t, e0, _, hs⟩ := DataW.trod_string Try.underlying9 h0
    have h1' : DataW.trod enc Try.prog w base spare held m 23 [x1, x2, x3] = some (ys[1]'(by omega)) := by simpa [c3] using h1
    obtain ⟨a, b, c, e1, e2, e3⟩ := seq3 h1'
    obtain ⟨S, e4, _⟩ := DataW.trod_int Try.underlying3 h2
    obtain ⟨T, e5, _⟩ := DataW.trod_int Try.underlying3 h3
    simp [cs'] at e0
    simp [ci] at e4 e5
    subst e0 e1 e2 e3 e4 e5
    exact ⟨t, a, b, c, S, T, rfl, hs⟩

theorem bulkAll_append {H : Type} : ∀ (a b : List (DataW H)), uptoBulkAll (a ++ b) = uptoBulkAll a + uptoBulkAll b
  | [], b => by simp [uptoBulkAll]
  | x :: a, b => by
    rw [List.cons_append, uptoBulkAll, uptoBulkAll, bulkAll_append a b]; omega
theorem bulk_mem {H : Type} : ∀ (l : List (DataW H)) (i : Nat) (d : DataW H), l[i]? = some d → uptoBulk d ≤ uptoBulkAll l
  | [], i, d, h => by simp at h
  | x :: l, 0, d, h => by simp at h; subst h; rw [uptoBulkAll]; omega
  | x :: l, i + 1, d, h => by
    have := bulk_mem l i d (by simpa using h)
    rw [uptoBulkAll]; omega
theorem bulk_lits {H : Type} (k : IntKind) : ∀ (zs : List Int), uptoBulkAll (lits (H := H) k zs) = zs.length
  | [] => rfl
  | z :: zs => by
    show uptoBulk (.lit (.int k z)) + uptoBulkAll (lits k zs) = zs.length + 1
    have : uptoBulk (H := H) (.lit (.int k z)) = 1 := by simp [uptoBulk]
    rw [bulk_lits k zs, this]; omega
theorem bytes_bulk {H : Type} {enc : TypeId × Value → H} {W : World} {base : Nat} {spare : Nat → Bool} {held : Bool} {A : Option Addr} {n c : Nat} {fuel : Nat} {x : DataW H × List MemPlace}
    (hf : DataW.trod enc Try.prog W base spare held fuel 31 [.slice A n c] = some x) : n ≤ uptoBulk x.1 := by
  rcases open_ints Try.underlying31 Try.underlying5 (by kernel_rfl) hf with ⟨hcs, hx⟩ | ⟨y, n', c', zs, hcs, _, hl, hm, hz, hx, hcell, hwz⟩
  · simp at hcs
    omega
  · simp at hcs
    obtain ⟨_, rfl, rfl⟩ := hcs
    rw [hx]
    show n ≤ uptoBulk (.slice _ _)
    rw [uptoBulk, bulk_lits, List.length_take]
    have : n ≤ zs.length := by rw [hz]; split <;> omega
    omega
theorem list_smp {p : Sg.Smp → Prop} : ∀ (vs : List Value), (∀ v ∈ vs, ∃ x : Sg.Smp, v = x.val ∧ p x) → ∃ xs : List Sg.Smp, xs.map Sg.Smp.val = vs ∧ ∀ x ∈ xs, p x
  | [], _ => ⟨[], rfl, by simp⟩
  | v :: vs, h => by
    obtain ⟨x, hx, px⟩ := h v (by simp)
    obtain ⟨xs, e, hp⟩ := list_smp vs (fun r hr => h r (by simp [hr]))
    refine ⟨x :: xs, by rw [List.map_cons, e, hx], fun y hy => ?_⟩
    rcases List.mem_cons.1 hy with rfl | hy
    · exact px
    · exact hp y hy
theorem flat_le : ∀ (xs : List Sg.Smp) (ws : List Nat), xs.length = ws.length → (∀ i (h1 : i < xs.length) (h2 : i < ws.length), xs[i].d.length ≤ ws[i]) → (Sg.dats xs).flatten.length ≤ ws.sum
  | [], ws, _, _ => by simp [Sg.dats]
  | x :: xs, [], h, _ => by simp at h
  | x :: xs, w :: ws, h, hi => by
    have h0 := hi 0 (by simp) (by simp)
    have ih := flat_le xs ws (by simpa using h) (fun i h1 h2 => by have := hi (i + 1) (by simpa using h1) (by simpa using h2); simpa using this)
    show (x.d ++ (Sg.dats xs).flatten).length ≤ _
    rw [List.length_append, List.sum_cons]
    simp at h0
    omega
theorem bulk_sum {H : Type} (D : Nat → DataW H) : ∀ n, uptoBulkAll ((List.range n).map D) = ((List.range n).map fun i => uptoBulk (D i)).sum
  | 0 => rfl
  | n + 1 => by
    rw [List.range_succ, List.map_append, bulkAll_append, bulk_sum D n, List.map_append, List.sum_append]
    simp [uptoBulkAll]
set_option maxRecDepth 100000 in
theorem smps_upto {H : Type} {enc : TypeId × Value → H} {w : World} {base : Nat} {spare : Nat → Bool} {held : Bool} {v : Value} {fuel : Nat} {x : DataW H × List MemPlace}
    (hf : DataW.trod enc Try.prog w base spare held fuel 26 [v] = some x) :
    ∃ A n c xs, v = .slice A n c ∧ n = xs.length ∧ n ≤ maxLen ∧ Sg.Samps w w.heap.size A xs ∧ (Sg.dats xs).flatten.length ≤ uptoBulk x.1 := by
  have hC : Try.prog.cellsOf 31 = 1 := by kernel_rfl
  rcases open_slice Try.underlying26 hf with ⟨hcs, _⟩ | ⟨a, n, c, m, k, D, Pl, hcs, hb, hl, hm, hmm, hx, hi⟩
  · simp at hcs
    subst hcs
    exact ⟨none, 0, 0, [], rfl, rfl, Nat.zero_le _, ⟨fun h => absurd h (by simp), by simp⟩, by simp [Sg.dats]⟩
  · simp at hcs
    subst hcs
    have hnm : n ≤ m := by rw [hmm]; split <;> omega
    have cellAt : ∀ i, i < n → ∃ v, w.cell? (a.add i) = some v ∧ DataW.trod enc Try.prog w base spare held k 31 [v] = some (D i, Pl i) := by
      intro i hin
      obtain ⟨cs', hc, ht'⟩ := hi i (by omega)
      rw [hC] at hc
      obtain ⟨_, hcl, hat⟩ := World.cells?_some hc
      match cs', hcl with
      | [v], _ =>
        have := hat 0 (by omega)
        rw [Go.Deep.add_add] at this
        exact ⟨v, by simpa using this, ht'⟩
    let f := fun i : Nat => (w.cell? (a.add i)).getD undef
    obtain ⟨b, off, spot⟩ := a
    have hV : Vals w w.heap.size (some ⟨b, off, spot⟩) ((List.range n).map f) := fun hp => by
      have hn0 : 0 < n := by simpa using hp
      obtain ⟨v0, hv0, _⟩ := cellAt 0 hn0
      have hspot : spot = Option.none := by simpa [Addr.add] using World.cell?_spot hv0
      subst hspot
      refine ⟨b, off, rfl, ?_, fun j v hj => ?_⟩
      · have := block_lt_of_cell hv0
        simpa [Addr.add] using this
      · have hjn : j < n := by
          rcases Nat.lt_or_ge j n with h | h
          · exact h
          · rw [List.getElem?_eq_none (by simpa using h)] at hj; cases hj
        obtain ⟨v', hv', _⟩ := cellAt j hjn
        simp only [f, List.getElem?_map, List.getElem?_range hjn, Option.map_some] at hj
        injection hj with hj
        rw [hv', Option.getD_some] at hj
        subst hj
        rw [Addr.add_lit] at hv'
        exact hv'
    obtain ⟨xs, hxs, hok⟩ := list_smp (p := fun x => x.ok w w.heap.size) ((List.range n).map f) (fun v hv => by
      obtain ⟨i, hi', rfl⟩ := List.mem_map.1 hv
      obtain ⟨v, hv, hy⟩ := cellAt i (by simpa using hi')
      obtain ⟨A, n', c', l, rfl, g1, g2, g3, g4⟩ := bytc_trod bytesT (by kernel_rfl) hy
      exact ⟨⟨A, n', c', l⟩, by simp only [f, hv, Option.getD_some]; rfl, g1, g3, g4⟩)
    have hxl : xs.length = n := by
      have := congrArg List.length hxs
      simpa using this
    refine ⟨some ⟨b, off, spot⟩, n, c, xs, rfl, hxl.symm, by omega, ⟨by rw [hxs]; exact hV, hok⟩, ?_⟩
    have h1 := flat_le xs ((List.range n).map fun i => uptoBulk (D i)) (by simp [hxl]) (fun i h1 h2 => by
      have hin : i < n := by omega
      obtain ⟨v, hv, hy⟩ := cellAt i hin
      have e : (xs.map Sg.Smp.val)[i]? = some v := by
        rw [hxs, List.getElem?_map, List.getElem?_range hin]
        simp only [Option.map_some, f, hv, Option.getD_some]
      rw [List.getElem?_map, List.getElem?_eq_getElem h1] at e
      injection e with e
      rw [← e] at hy
      have h3 := bytes_bulk (n := xs[i].n) hy
      have h4 := (hok _ (List.getElem_mem h1)).1
      dsimp only at h3
      simp only [List.getElem_map, List.getElem_range]
      omega)
    rw [hx]
    refine Nat.le_trans h1 ?_
    show _ ≤ uptoBulk (.slice _ _)
    rw [← bulk_sum, uptoBulk]
    omega
set_option maxRecDepth 100000 in
theorem med_upto {H : Type} {enc : TypeId × Value → H} {w : World} {base : Nat} {spare : Nat → Bool} {held : Bool} {v : Value} {d : DataW H} {p : List MemPlace} {r : Reach} {b0 : Nat}
    (hv : Value.okWide Try.prog w r b0 28 v) (h : DataW.Trod enc Try.prog w base spare held 28 v d p) :
    ∃ (N F : Int) (A : Option Addr) (n c : Nat) (xs : List Sg.Smp), v = .agg #[.int .i64 N, .int .i64 F, .slice A n c] ∧ n = xs.length ∧ n ≤ maxLen ∧ Sg.Samps w w.heap.size A xs ∧ (Sg.dats xs).flatten.length ≤ uptoBulk d := by
  have hC : Try.prog.cellsOf 28 = 3 := by kernel_rfl
  obtain ⟨cs, rfl, hsz⟩ := okWide_struct Try.underlying28 hv
  obtain ⟨fuel, hf0⟩ := h
  obtain ⟨ys, m, hm, hy, hlen, hyl, hf⟩ := DataW.trod_struct Try.underlying28 hf0
  obtain ⟨l⟩ := cs
  rw [hC] at hsz
  have ci : Try.prog.cellsOf 3 = 1 := by kernel_rfl
  have cs' : Try.prog.cellsOf 26 = 1 := by kernel_rfl
  have l3 : ys.length = 3 := hyl
  match l, hsz with
  | [x0, x1, x2], _ =>
    have e : (Value.agg #[x0, x1, x2]).cells.toList = [x0, x1, x2] := rfl
    rw [e] at hf
    have h0 := hf 0 _ rfl
    have h1 := hf 1 _ rfl
    have h2 := hf 2 _ rfl
    simp only [List.getElem?_eq_getElem (show 0 < ys.length by omega)] at h0
    simp only [List.getElem?_eq_getElem (show 1 < ys.length by omega)] at h1
    simp only [List.getElem?_eq_getElem (show 2 < ys.length by omega)] at h2
    obtain ⟨N, e0, _⟩ := DataW.trod_int Try.underlying3 h0
    obtain ⟨F, e1, _⟩ := DataW.trod_int Try.underlying3 h1
    have h2' : DataW.trod enc Try.prog w base spare held m 26 [x2] = some (ys[2]'(by omega)) := by simpa [cs'] using h2
    obtain ⟨A, n, c, xs, e2, g1, g2, g3, g4⟩ := smps_upto h2'
    simp [ci] at e0 e1
    subst e0 e1 e2
    refine ⟨N, F, A, n, c, xs, rfl, g1, g2, g3, Nat.le_trans g4 ?_⟩
    injection hy with hy _
    rw [hy, uptoBulk]
    have := bulk_mem (ys.map (·.1)) 2 (ys[2]'(by omega)).1 (by rw [List.getElem?_map, List.getElem?_eq_getElem (by omega)]; rfl)
    omega
end Go.Proofs.Ytakglalebjkpeaa.C17
