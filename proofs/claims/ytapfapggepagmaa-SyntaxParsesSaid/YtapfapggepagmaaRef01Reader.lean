/- The document's reader, each function by its contract. Conditions: the object is as the calls leave it; at most 2^40 bits. -/
import Derived.Test.YtapfapggepagmaaRef01Writer
import Derived.Test.YtapfapggepagmaaCut
import Derived.BigQuiet
import Derived.Deep.QuietTactic
namespace Go.Proofs.Ytapfapggepagmaa
open Go.RowKit Kin

theorem Own8.form {w : World} {e : TypeId} {A : Option Addr} {n c : Nat} {l : List UInt8} (h : Kin.Own8 w e A n c l) : (A = none ∧ n = 0 ∧ c = 0) ∨ ∃ g, A = some ⟨g, 0, none⟩ ∧ n ≤ c ∧ c ≤ maxLen := by
  rcases h.2.2 with ⟨hv, _⟩ | ⟨g, cap, cur, hv, _, _, h1, h2, _, _⟩
  · injection hv with h1 h2 h3
    exact .inl ⟨h1, h2, h3⟩
  · injection hv with h3 h4 h5
    subst h5
    exact .inr ⟨g, h3, h1, h2⟩

/-- at block g lies the document's reader of the bits B, at bit k, its row in block R -/
def RefRIs (w : World) (g : Nat) (R : Option Nat) (B : List Bool) (k : Nat) : Prop :=
  (∃ A n c, Blk w g 75 #[.slice A n c, .int .i64 (k : Int)] ∧ Kin.Own8 w 5 A n c (Bit.zo B) ∧ blkOf A = R) ∧ k ≤ B.length ∧ B.length ≤ 1099511627776
theorem RefRIs.lt {w : World} {g k : Nat} {R : Option Nat} {B : List Bool} (h : RefRIs w g R B k) : g < w.heap.size := by
  obtain ⟨⟨A, n, c, h1, _, _⟩, _⟩ := h
  exact h1.lt
theorem RefRIs.rlt {w : World} {g k : Nat} {R : Option Nat} {B : List Bool} (h : RefRIs w g R B k) : ∀ r, R = some r → r < w.heap.size := by
  obtain ⟨⟨A, n, c, _, h2, h3⟩, _⟩ := h
  intro r hr
  exact h2.lt r (by rw [h3]; exact hr)
theorem RefRIs.keep {S : Nat → Prop} {w w' : World} {g k : Nat} {R : Option Nat} {B : List Bool} (h : RefRIs w g R B k) (hc : Chg S w w') (hn : ∀ k, Foot g R k → ¬ S k) : RefRIs w' g R B k := by
  obtain ⟨⟨A, n, c, h1, h2, h3⟩, h4⟩ := h
  exact ⟨⟨A, n, c, hc.blk h1 (hn g (.inl rfl)), hc.own h2 (fun k hk => hn k (.inr (by rw [← h3]; exact hk))), h3⟩, h4⟩
theorem RefRIs.below {w w' : World} {g k : Nat} {R : Option Nat} {B : List Bool} (h : RefRIs w g R B k) (hc : Below w.heap.size w w') : RefRIs w' g R B k :=
  h.keep (S := fun _ => False) (Chg.of_below hc) (fun _ _ e => e)

theorem refReader_zero : (Try.prog.info? 75).map (fun i => (i.zero, i.size)) = some (some (.agg #[.slice none 0 0, .int .i64 0]), 2) := by kernel_rfl
/-- a new reader of the document's -/
def RetRefR (w : World) (B : List Bool) (e : Ending) (w' : World) : Prop :=
  ∃ g R, e = .returned (.pointer (some ⟨g, 0, none⟩)) ∧ RefRIs w' g R B 0 ∧ w.heap.size ≤ g ∧ (∀ r, R = some r → w.heap.size ≤ r) ∧ Below w.heap.size w w'
set_option maxRecDepth 100000 in
set_option maxHeartbeats 1000000 in
theorem refopen_calls (A : Option Addr) (n c : Nat) (l : List UInt8) (w : World) (hn : n = l.length) (hm : n ≤ 300) {b : Nat} (hA : Byt w b A l) :
    Calls Try.prog 33 #[.slice A n c] w (RetRefR w (Bit.row l)) := by
  have hz := (zero_of_info refReader_zero).1
  have hrl : (Bit.row l).length ≤ 1099511627776 := by rw [Bit.length_row]; omega
  have HL := hide hrl
  have HN := hide hn
  clear hrl hn
  go_enter Try.func33, Try.ntmps33
  go_wp2_with fail
  refine (row_calls A n c l _ HN.out hm hA).mono ?_
  rintro e w1 ⟨A1, n1, c1, rfl, o1, g1, b1⟩
  have hb : Blk (w1.alloc (Obj.cells #[.slice A1 n1 c1, .int .i64 0] 75)) w1.heap.size 75 #[.slice A1 n1 c1, .int .i64 ((0 : Nat) : Int)] := Blk.new _ _ _
  have o2 := o1.alloc (Obj.cells #[.slice A1 n1 c1, .int .i64 0] 75)
  have b2 := b1.alloc b1.size (Obj.cells #[.slice A1 n1 c1, .int .i64 0] 75)
  have HE : Hid (RetRefR w (Bit.row l) (.returned (.pointer (some ⟨w1.heap.size, 0, none⟩))) (w1.alloc (Obj.cells #[.slice A1 n1 c1, .int .i64 0] 75))) :=
    ⟨w1.heap.size, blkOf A1, rfl, ⟨⟨A1, n1, c1, hb, o2, rfl⟩, Nat.zero_le _, HL.out⟩, b1.size, g1, b2⟩
  clear hb o2 b2 o1 g1 b1 HL hA
  go_wp2
  go_ret
  exact HE.out

set_option maxRecDepth 100000 in
theorem refget_bad (P0 : Option Addr) (n : Int) (w : World) (h : n < 0 ∨ 64 < n) : Calls Try.prog 34 #[.pointer P0, .int .i64 n] w fun e w' => e = .returned (.tuple #[.int .u64 0, .int .i64 1]) ∧ w = w' := by
  by_cases h1 : n < 0
  · go_enter Try.func34, Try.ntmps34
    go_wp2
    go_ret2
    exact ⟨rfl, rfl⟩
  · have h2 : 64 < n := by omega
    clear h
    go_enter Try.func34, Try.ntmps34
    go_wp2
    go_ret2
    exact ⟨rfl, rfl⟩

set_option maxRecDepth 100000 in
set_option maxHeartbeats 1000000 in
theorem refget_short (g : Nat) (R : Option Nat) (B : List Bool) (k n : Nat) (w : World) (h : RefRIs w g R B k) (hn : n ≤ 64) (hs : B.length < k + n) :
    Calls Try.prog 34 #[.pointer (some ⟨g, 0, none⟩), .int .i64 (n : Int)] w fun e w' => e = .returned (.tuple #[.int .u64 0, .int .i64 11]) ∧ Below w.heap.size w w' := by
  obtain ⟨⟨A, m, c, h1, h2, _⟩, hk, hB⟩ := h
  have c0 : w.cell? ⟨g, 0, none⟩ = some (.slice A m c) := h1.cell 0
  have c1 : w.cell? ⟨g, 1, none⟩ = some (.int .i64 (k : Int)) := h1.cell 1
  have hm : m = B.length := by rw [h2.1, Bit.length_zo]
  have d1 : decide ((n : Int) < 0) = false := by simp
  have d2 : decide ((64 : Int) < (n : Int)) = false := by simp; omega
  have e1 : IntKind.i64.wrap ((m : Int) - (k : Int)) = (m : Int) - (k : Int) := by rw [IntKind.wrap_i64]; omega
  have d3 : decide ((m : Int) - (k : Int) < (n : Int)) = true := by simp; omega
  clear hm hs hk hB
  go_enter Try.func34, Try.ntmps34
  go_wp2
  go_region
  go_wp2
  go_ret2
  exact ⟨rfl, (Below.refl _ _).drew⟩

theorem quiet_left {P : Program} {f : FuncId} {args : Array Value} {w : World} {n : Nat} {v : Value}
    (h : Calls P f args (w.drewN n) fun e w' => e = .returned v ∧ w.drewN n = w') : Calls P f args (w.drewN n) fun e w'' => e = .returned v ∧ ∃ m, w'' = w.drewN m :=
  h.mono fun _ _ ⟨he, hm⟩ => ⟨he, n, hm.symm⟩

theorem Own8.cap {w : World} {e : TypeId} {A : Option Addr} {n c : Nat} {l : List UInt8} (h : Kin.Own8 w e A n c l) : n ≤ c := by
  rcases Own8.form h with ⟨_, rfl, rfl⟩ | ⟨g, _, h1, _⟩
  · exact Nat.le_refl _
  · exact h1

set_option maxRecDepth 100000 in
set_option maxHeartbeats 2000000 in
theorem refget_calls (g : Nat) (R : Option Nat) (B : List Bool) (k n : Nat) (w : World) (h : RefRIs w g R B k) (hn : n ≤ 64) (hs : k + n ≤ B.length) :
    Calls Try.prog 34 #[.pointer (some ⟨g, 0, none⟩), .int .i64 (n : Int)] w
      fun e w' => e = .returned (.tuple #[.int .u64 (Bit.num ((B.drop k).take n) : Int), .int .i64 0]) ∧ RefRIs w' g R B (k + n) ∧ Chg (One g) w w' := by
  obtain ⟨⟨A, m, c, h1, h2, hR⟩, hk, hB⟩ := h
  have c0 : w.cell? ⟨g, 0, none⟩ = some (.slice A m c) := h1.cell 0
  have c1 : w.cell? ⟨g, 1, none⟩ = some (.int .i64 (k : Int)) := h1.cell 1
  have hmc := Own8.cap h2
  have hne : blkOf A ≠ some g := by have := own_blk_ne h2.2 h1 (by decide); rwa [ownBlock_slice] at this
  have HNE := hide hne
  have hm : m = B.length := by rw [h2.1, Bit.length_zo]
  have HM := hide hm
  have d1 : decide ((n : Int) < 0) = false := by simp
  have d2 : decide ((64 : Int) < (n : Int)) = false := by simp; omega
  have e1 : IntKind.i64.wrap ((m : Int) - (k : Int)) = (m : Int) - (k : Int) := by rw [IntKind.wrap_i64]; omega
  have d3 : decide ((m : Int) - (k : Int) < (n : Int)) = false := by simp; omega
  have hkn : k + n ≤ m := by omega
  have hm40 : m ≤ 1099511627776 := by omega
  have e2 : IntKind.i64.wrap ((k : Int) + (n : Int)) = (k : Int) + (n : Int) := by rw [IntKind.wrap_i64]; omega
  have hsl := run_cut8 bytesT A m c .i64 .i64 k (k + n) k ((k : Int) + (n : Int)) rfl (by omega) (by omega) (by omega)
  rw [Nat.add_sub_cancel_left] at hsl
  have HBY : Hid (∀ w', Byt w' w'.heap.size A (Bit.zo B) → Byt w' w'.heap.size (cutA A c k) (Bit.zo ((B.drop k).take n))) := fun w' hb => by
    rw [← Bit.zo_take, ← Bit.zo_drop]
    exact (hb.cut k (by rw [Bit.length_zo, ← hm]; exact hmc)).take n
  have HLEN : Hid (n = ((B.drop k).take n).length) := by show n = _; rw [List.length_take, List.length_drop]; omega
  have HK : Hid (k + n ≤ B.length ∧ B.length ≤ 1099511627776) := ⟨hs, hB⟩
  generalize (B.drop k).take n = D at *
  generalize cutA A c k = A' at *
  clear hm hs hne hmc hB hk
  go_enter Try.func34, Try.ntmps34
  go_wp2
  go_region
  have h1d := h1.drew
  have h2d := h2.drew
  have c0d : w.drew.cell? ⟨g, 0, none⟩ = some (.slice A m c) := c0
  have c1d : w.drew.cell? ⟨g, 1, none⟩ = some (.int .i64 (k : Int)) := c1
  have ch : Chg (One g) w w.drew := (Chg.refl _ _).drew
  clear h1 h2 c0 c1
  generalize w.drew = V at *
  go_wp2
  go_quiet ((go_at_call 42; exact quiet_left (number_calls _ _ _ D _ HLEN.out (by omega) (HBY.out _ h2d.byt))))
  have h1q := h1d.drewN nq
  have h2q := h2d.drewN nq
  have c1q : (V.drewN nq).cell? ⟨g, 1, none⟩ = some (.int .i64 (k : Int)) := c1d
  have f1q := h1q.frozen 1
  have chq := ch.drewN nq
  clear h1d h2d c0d c1d ch
  generalize V.drewN nq = V2 at *
  go_wp2
  go_ret2
  refine ⟨rfl, ⟨⟨A, m, c, ?_, h2q.setFar (p := ⟨g, 1, none⟩) HNE.out _, hR⟩, HK.out⟩, chq.setCell (p := ⟨g, 1, none⟩) (.inl rfl) _⟩
  have := h1q.set_ 1 (.int .i64 ((k : Int) + (n : Int)))
  rw [show (((k + n : Nat)) : Int) = (k : Int) + (n : Int) from by omega]
  simpa using this

/-- are the bits from k up to the next whole byte noughts? -/
def Bit.restB (B : List Bool) (k : Nat) : Bool := ((B.drop k).take (8 * ((k + 7) / 8) - k)).all (! ·)

theorem restB_at {B : List Bool} {k i : Nat} (h : Bit.restB B k = true) (h1 : k ≤ i) (h2 : i < 8 * ((k + 7) / 8)) (h3 : i < B.length) : B[i] = false := by
  unfold Bit.restB at h
  rw [List.all_eq_true] at h
  have : B[i] ∈ (B.drop k).take (8 * ((k + 7) / 8) - k) := by
    rw [List.mem_iff_getElem?]
    refine ⟨i - k, ?_⟩
    rw [List.getElem?_take_of_lt (by omega), List.getElem?_drop, show k + (i - k) = i from by omega, List.getElem?_eq_getElem h3]
  simpa using h _ this
theorem restB_of {B : List Bool} {k : Nat} (h : ∀ i, k ≤ i → i < 8 * ((k + 7) / 8) → B.getD i false = false) : Bit.restB B k = true := by
  unfold Bit.restB
  rw [List.all_eq_true]
  intro b hb
  obtain ⟨j, hj⟩ := List.mem_iff_getElem?.1 hb
  rw [List.getElem?_take] at hj
  split at hj
  · rw [List.getElem?_drop] at hj
    have := h (k + j) (by omega) (by omega)
    rw [List.getD, hj] at this
    simpa using this
  · cases hj

/-- what an alignment answers, and where it leaves the reader -/
def alE (ok : Bool) : Int := if ok then 0 else 11
def alK (ok : Bool) (k : Nat) : Nat := if ok then 8 * ((k + 7) / 8) else k

end Go.Proofs.Ytapfapggepagmaa
