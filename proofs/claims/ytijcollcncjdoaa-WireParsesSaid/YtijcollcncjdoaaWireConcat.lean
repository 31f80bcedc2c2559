/- Three lists of pointers in one (slices.Concat, slices.Grow), by their contracts. Conditions: at most a hundred pointers. -/
import Derived.Test.YtijcollcncjdoaaWireWrite
import Derived.Test.YtijcollcncjdoaaOwnR
import Derived.Test.YtijcollcncjdoaaCut
namespace Go.Proofs.Ytijcollcncjdoaa
open Go.RowKit Kin

theorem ptrsT : IsRows Try.prog 64 51 1 8 := isRows_of (z := .pointer none) Try.underlying64 (by decide) (by kernel_rfl) rfl
theorem run_cutR_h {P : Program} {t e : TypeId} {k by_ : Nat} (ht : IsRows P t e k by_) (A : Option Addr) (n c : Nat) (j : Nat) (h2 : j ≤ c) (w : World) :
    (Instr.sliceAt t (.slice A n c) none (some (.int .i64 (j : Int))) none).run P w = .ok (.slice A j c) w := by
  obtain ⟨ht, _, i, z, hi, _, hs, _⟩ := ht
  have he : P.elem t = e := by simp [Program.elem, ht]
  have ht' : P.underlying t = some (.slice (P.elem t)) := by rw [he]; exact ht
  rw [run_sliceAt_slice w t _ _ _ _ ht', run_slice_h w t A n c ht' .i64 j (by omega) (by omega)]
  have : A.map (·.add 0) = A := by cases A <;> simp [Addr.add]
  simp [he, Go.sizeOf, typeInfo, hi, hs, sliced, Result.andThen, this]
theorem wpList_appendZ {P : Program} {w : World} {ops : Array Oper} {rest : List Oper} {o : Oper} {a : Act} {Q : Exit → Act → World → Prop} (hw : Region.wanted o (yielded ops a.tmps) = true) (s x : Operand) (t e tn : TypeId) (by_ : Nat)
    (ho : o.op = .call { callee := .builtin .append, args := #[s, x], argTypes := #[t, tn] }) (ht : IsRows P t e 1 by_) (kn : IntKind) (htn : P.underlying tn = some (.int kn))
    (hs : a.eval s = .slice none 0 0) (k : IntKind) (n : Nat) (hx : a.eval x = .int k (n : Int)) (h0 : 0 < n) (hb : n ≤ 1000000) (hby : by_ ≤ 100)
    (h : ∀ A' c' w', OwnR w' e 1 A' 0 c' [] → n ≤ c' → (∀ g, blkOf A' = some g → g = w.heap.size) → Below w.heap.size w w' → wpList P ops Q rest (a.put o.dst (.slice A' n c')) w') : wpList P ops Q (o :: rest) a w := by
  obtain ⟨ht, _, i, z, hi, hz, hsize, hbb, hzs⟩ := ht
  have hr := Lib.run_append_nil_zeros (P := P) w t tn o.type e i z k kn ht htn hi hz n h0 (by omega) (by omega) (by rw [hbb]; exact Nat.le_trans (Nat.mul_le_mul hb hby) (by decide))
  have hge := grownCap_ge w n 0 e
  have hcm : grownCap w n 0 e ≤ maxLen := grownCap_le_maxLen w n 0 e (by unfold maxLen; omega)
  refine BigFrame.wpList_want hw fun K hK => ?_
  unfold Oper.wp execOp
  simp only [ho, resolve, invoke, builtin, Sem.run_bind, Sem.run_pure, Result.andThen_ok, List.map_toArray, List.map_cons, List.map_nil, hs, hx, hr]
  refine hK _ _ (h _ _ _ ⟨rfl, by simp, by simp, Or.inr ⟨w.heap.size, _, _, rfl, Nat.zero_le _, heap_alloc_new w.drew _, Nat.zero_le _, hcm, ?_, by simp⟩⟩ hge (by simp [blkOf]) ?_)
  · rw [Array.size_append, size_zeroCells, size_zeroCells, hzs]; omega
  · exact ⟨rfl, rfl, rfl, by simp, fun k hk => Below.heap_alloc w.drew _ k hk⟩

set_option maxRecDepth 100000 in
set_option maxHeartbeats 2000000 in
theorem grow_calls (n : Nat) (w : World) (h0 : 0 < n) (hn : n ≤ 100) : Calls Try.prog 56 #[.slice none 0 0, .int .i64 (n : Int)] w fun e w' => ∃ A c, e = .returned (.slice A 0 c) ∧ OwnR w' 51 1 A 0 c [] ∧ (∀ g, blkOf A = some g → w.heap.size ≤ g) ∧ Below w.heap.size w w' := by
  have hs1 : ∀ w', Sem.run Try.prog (Instr.sliceAt 64 (.slice none 0 0) none (some (.int .i64 0)) none) w' = .ok (.slice none 0 0) w' := fun w' => run_cutR_h ptrsT none 0 0 0 (Nat.le_refl _) w'
  have hs2 : ∀ (A : Option Addr) (m c : Nat) w', Sem.run Try.prog (Instr.sliceAt 64 (.slice A m c) none (some (.int .i64 0)) none) w' = .ok (.slice A 0 c) w' := fun A m c w' => run_cutR_h ptrsT A m c 0 (Nat.zero_le _) w'
  have d0 : decide ((n : Int) < 0) = false := by simp
  have i0 : (0 : Int) < (n : Int) := by omega
  go_enter Try.func56, Try.ntmps56
  go_wp2_with (at_builtin; refine wpList_appendZ (by rfl) (.tmp 20) (.tmp 21) 64 51 3 8 (by rfl) ptrsT .i64 Try.underlying3 (by rfl) .i64 n (by rfl) h0 (by omega) (by decide) ?_; intro A1 c1 w1 own1 hc1 g1 b1)
  go_ret
  exact ⟨A1, c1, rfl, own1, fun g hg => Nat.le_of_eq (g1 g hg).symm, b1⟩

/-- rows of one cell -/
def ptrRows (ps : List Addr) : List (List Value) := ps.map fun p => [.pointer (some p)]
theorem ptrRows_len (ps : List Addr) : ∀ r ∈ ptrRows ps, r.length = 1 := by
  intro r hr
  obtain ⟨p, _, rfl⟩ := List.mem_map.1 hr
  rfl
theorem ptrRows_one (ps : List Addr) : ∀ r ∈ ptrRows ps, ∀ u ∈ r, u.oneCell' = true := by
  intro r hr
  obtain ⟨p, _, rfl⟩ := List.mem_map.1 hr
  simp [Value.oneCell']
theorem ptr_nxt {w W W' : World} {A A' : Option Addr} (bel : Below w.heap.size w W) (gA : ∀ k, blkOf A = some k → w.heap.size ≤ k) (grow : W.grownBy W' (blkOf A)) (at1 : blkOf A' = blkOf A ∨ blkOf A' = some W.heap.size) :
    Below w.heap.size w W' ∧ (∀ k, blkOf A' = some k → w.heap.size ≤ k) := by
  refine ⟨bel.grown grow bel.size gA, fun k hk => ?_⟩
  rcases at1 with e | e
  · exact gA k (by rw [← e]; exact hk)
  · rw [hk] at e; injection e with e; rw [e]; exact bel.size
theorem ptrRows_app (a b : List Addr) : ptrRows (a ++ b) = ptrRows a ++ ptrRows b := by simp [ptrRows]

set_option maxRecDepth 100000 in
set_option maxHeartbeats 4000000 in
theorem concat_calls (g : Nat) (A1 A2 A3 : Option Addr) (n1 n2 n3 c1 c2 c3 : Nat) (p1 p2 p3 : List Addr) (w : World) (hg : Blk w g 64 #[.slice A1 n1 c1, .slice A2 n2 c2, .slice A3 n3 c3])
    (h1 : n1 = p1.length) (h2 : n2 = p2.length) (h3 : n3 = p3.length) (h0 : 0 < n1) (hm : n1 + n2 + n3 ≤ 100) (r1 : Recs w w.heap.size 1 A1 (ptrRows p1)) (r2 : Recs w w.heap.size 1 A2 (ptrRows p2)) (r3 : Recs w w.heap.size 1 A3 (ptrRows p3)) :
    Calls Try.prog 40 #[.slice (some ⟨g, 0, none⟩) 3 3] w fun e w' => ∃ A c, e = .returned (.slice A (n1 + n2 + n3) c) ∧ OwnR w' 51 1 A (n1 + n2 + n3) c (ptrRows (p1 ++ p2 ++ p3)) ∧ (∀ k, blkOf A = some k → w.heap.size ≤ k) ∧ Below w.heap.size w w' := by
  have H1 := hide h1
  have H2 := hide h2
  have H3 := hide h3
  clear h1 h2 h3
  have q0 : w.cell? ⟨g, 0, none⟩ = some (.slice A1 n1 c1) := hg.cell 0
  have q1 : w.cell? ⟨g, 1, none⟩ = some (.slice A2 n2 c2) := hg.cell 1
  have q2 : w.cell? ⟨g, 2, none⟩ = some (.slice A3 n3 c3) := hg.cell 2
  go_enter Try.func40, Try.ntmps40
  go_wp2
  go_loop [3, 11] (fun sv iv => ∃ k s : Nat, k ≤ 3 ∧ iv = .int .i64 (k : Int) ∧ sv = .int .i64 (s : Int) ∧ Hid ((k = 0 → s = 0) ∧ (k = 1 → s = n1) ∧ (k = 2 → s = n1 + n2) ∧ (k = 3 → s = n1 + n2 + n3)) ∧ s ≤ 100) (fun _ iv => 3 - (intOf iv).toNat)
  case atStart => exact ⟨0, 0, by omega, rfl, rfl, ⟨fun _ => rfl, fun h => by omega, fun h => by omega, fun h => by omega⟩, by omega⟩
  case round =>
    obtain ⟨k, s, hk, rfl, rfl, hs, hs2⟩ := hrel
    by_cases hlt : k < 3
    · have hk3 : k = 0 ∨ k = 1 ∨ k = 2 := by omega
      rcases hk3 with rfl | rfl | rfl
      · obtain rfl : s = 0 := hs.out.1 rfl
        go_wp2
        go_round
        case rel => exact ⟨1, n1, by omega, by go_num, by go_num, ⟨fun h => by omega, fun _ => rfl, fun h => by omega, fun h => by omega⟩, by omega⟩
        case measure => simp [intOf]
      · obtain rfl : s = n1 := hs.out.2.1 rfl
        go_wp2
        go_round
        case rel => exact ⟨2, s + n2, by omega, by go_num, by go_num, ⟨fun h => by omega, fun h => by omega, fun _ => rfl, fun h => by omega⟩, by omega⟩
        case measure => simp [intOf]
      · have hs' : s = n1 + n2 := hs.out.2.2.1 rfl
        have HSS := hide hs'
        have hs3 : s + n3 ≤ 100 := by omega
        clear hs'
        go_wp2
        go_round
        case rel => exact ⟨3, s + n3, by omega, by go_num, by go_num, ⟨fun h => by omega, fun h => by omega, fun h => by omega, fun _ => by rw [HSS.out]⟩, by omega⟩
        case measure => simp [intOf]
    · obtain rfl : k = 3 := by omega
      have hs' : s = n1 + n2 + n3 := hs.out.2.2.2 rfl
      have HSS := hide hs'
      have hs0 : 0 < s := by omega
      clear hs' hlt hs q0 q1 q2
      go_wp2_with fail
      refine (grow_calls s _ hs0 hs2).mono ?_
      rintro e w1 ⟨A4, c4, rfl, o4, g4, b4⟩
      go_wp2
      go_loopw [6, 27] (fun sv iv wr => ∃ (k m cc : Nat) (AA : Option Addr) (ps : List Addr), k ≤ 3 ∧ iv = .int .i64 (k : Int) ∧ sv = .slice AA m cc ∧ OwnR wr 51 1 AA m cc (ptrRows ps) ∧ (∀ q, blkOf AA = some q → w.heap.size ≤ q) ∧ Below w.heap.size w wr ∧ Hid ((k = 0 → ps = []) ∧ (k = 1 → ps = p1) ∧ (k = 2 → ps = p1 ++ p2) ∧ (k = 3 → ps = p1 ++ p2 ++ p3))) (fun _ iv _ => 3 - (intOf iv).toNat)
      case atStart => exact ⟨0, 0, c4, A4, [], by omega, rfl, rfl, o4, g4, b4, ⟨fun _ => rfl, fun h => by omega, fun h => by omega, fun h => by omega⟩⟩
      case round =>
        obtain ⟨k, m, cc, AA, ps, hk, rfl, rfl, own, gA, bel, hps⟩ := hrel
        have hg2 := hg.below bel hg.lt
        have q0 : wr.cell? ⟨g, 0, none⟩ = some (.slice A1 n1 c1) := hg2.cell 0
        have q1 : wr.cell? ⟨g, 1, none⟩ = some (.slice A2 n2 c2) := hg2.cell 1
        have q2 : wr.cell? ⟨g, 2, none⟩ = some (.slice A3 n3 c3) := hg2.cell 2
        have hml : m = ps.length := by have := own.1; rw [ptrRows, List.length_map] at this; exact this
        have HML := hide hml
        clear hml
        by_cases hlt : k < 3
        · have hk3 : k = 0 ∨ k = 1 ∨ k = 2 := by omega
          rcases hk3 with rfl | rfl | rfl
          · obtain rfl : ps = [] := hps.out.1 rfl
            have hm1 : m = 0 := HML.out
            subst hm1
            go_wp2_with (at_builtin; refine wpList_appendR (by rfl) (.tmp 31) (.tmp 32) 64 51 1 8 (by rfl) ptrsT _ _ _ _ (by rfl) own _ _ _ _ (ptrRows p1) (by rfl) (r1.below bel) (by rw [ptrRows, List.length_map]; exact H1.out) (ptrRows_len _) (ptrRows_one _) (by omega) (by unfold maxLen; omega) ?_; intro A5 c5 w5 own5 grow5 at5)
            have F5 := ptr_nxt bel gA grow5 at5
            rw [← ptrRows_app, List.nil_append, Nat.zero_add] at own5
            go_roundw
            case rel => exact ⟨1, _, c5, A5, p1, by omega, by go_num, rfl, own5, F5.2, F5.1, ⟨fun h => by omega, fun _ => rfl, fun h => by omega, fun h => by omega⟩⟩
            case measure => simp [intOf]
          · obtain rfl : ps = p1 := hps.out.2.1 rfl
            have hmb : m + n2 ≤ 100 := by have := HML.out; have := H1.out; omega
            go_wp2_with (at_builtin; refine wpList_appendR (by rfl) (.tmp 31) (.tmp 32) 64 51 1 8 (by rfl) ptrsT _ _ _ _ (by rfl) own _ _ _ _ (ptrRows p2) (by rfl) (r2.below bel) (by rw [ptrRows, List.length_map]; exact H2.out) (ptrRows_len _) (ptrRows_one _) (by omega) (by unfold maxLen; omega) ?_; intro A5 c5 w5 own5 grow5 at5)
            have F5 := ptr_nxt bel gA grow5 at5
            rw [← ptrRows_app] at own5
            go_roundw
            case rel => exact ⟨2, _, c5, A5, ps ++ p2, by omega, by go_num, rfl, own5, F5.2, F5.1, ⟨fun h => by omega, fun h => by omega, fun _ => rfl, fun h => by omega⟩⟩
            case measure => simp [intOf]
          · have hps' : ps = p1 ++ p2 := hps.out.2.2.1 rfl
            subst hps'
            have hmb : m + n3 ≤ 100 := by have := HML.out; rw [List.length_append] at this; have := H1.out; have := H2.out; omega
            go_wp2_with (at_builtin; refine wpList_appendR (by rfl) (.tmp 31) (.tmp 32) 64 51 1 8 (by rfl) ptrsT _ _ _ _ (by rfl) own _ _ _ _ (ptrRows p3) (by rfl) (r3.below bel) (by rw [ptrRows, List.length_map]; exact H3.out) (ptrRows_len _) (ptrRows_one _) (by omega) (by unfold maxLen; omega) ?_; intro A5 c5 w5 own5 grow5 at5)
            have F5 := ptr_nxt bel gA grow5 at5
            rw [← ptrRows_app] at own5
            go_roundw
            case rel => exact ⟨3, _, c5, A5, p1 ++ p2 ++ p3, by omega, by go_num, rfl, own5, F5.2, F5.1, ⟨fun h => by omega, fun h => by omega, fun h => by omega, fun _ => rfl⟩⟩
            case measure => simp [intOf]
        · obtain rfl : k = 3 := by omega
          obtain rfl : ps = p1 ++ p2 ++ p3 := hps.out.2.2.2 rfl
          have hmm : m = n1 + n2 + n3 := by have := HML.out; rw [List.length_append, List.length_append] at this; have := H1.out; have := H2.out; have := H3.out; omega
          subst hmm
          clear hlt q0 q1 q2
          go_wp2
          go_ret
          exact ⟨AA, cc, rfl, by rw [← List.append_assoc]; exact own, gA, bel⟩
end Go.Proofs.Ytijcollcncjdoaa
