/- Append of a text to bytes; make with room. Over any program; no conditions but the room (2^47 bytes). -/
import Derived.Test.YtbfhpgpceakeiaaGreatDoorApp
import Derived.Lib.AppendStr
import Derived.Laws.MakeOwn
namespace Kin
open Go Go.RowKit

theorem strCells_B8 (s : ByteArray) : Lib.strCells s = B8 s.data.toList := rfl
section
variable {P : Program} {w : World}

theorem run_append8s (t u ty e : TypeId) (ht : IsBytes P t e) (hu : P.underlying u = some .string)
    (A : Option Addr) (n c : Nat) (l : List UInt8) (hown : Own8 w e A n c l) (B : Nat) (hB : ∀ g, blkOf A = some g → B ≤ g) (hBs : B ≤ w.heap.size) (s : ByteArray) (hb : n + s.size ≤ 140737488355328) :
    ∃ A' c' w', (Builtin.append_ #[t, u] ty #[.slice A n c, .string s]).run P w = .ok (.slice A' (n + s.size) c') w' ∧ Own8 w' e A' (n + s.size) c' (l ++ s.data.toList) ∧ w.grownBy w' (blkOf A) ∧ (∀ g, blkOf A' = some g → B ≤ g) := by
  obtain ⟨ht, _, i, hi, hz, hsize, hby⟩ := ht
  have hown2 : w.ownsRow B e 1 (.slice A n c) n (B8 l) := by
    refine ⟨hown.2.1, ?_⟩
    rcases hown.2.2 with h | ⟨g, cap, cur, hv, _, r⟩
    · exact .inl h
    · refine .inr ⟨g, cap, cur, hv, ?_, r⟩
      injection hv with hA
      exact hB g (by rw [hA]; rfl)
  obtain ⟨v', w', hrun, h2, h3, h4⟩ := Lib.run_append_own_string (P := P) w B t u ty e i ht hu hi hz hsize hby (.slice A n c) n (B8 l) hown2 s (by unfold maxLen; omega) hb hBs
  rw [ownBlock_slice] at h3
  have hlen : n + s.size = (l ++ s.data.toList).length := by
    rw [List.length_append, ← hown.1]; rfl
  rw [strCells_B8, ← B8_append] at h2
  rcases h2.2 with ⟨hv, hn⟩ | ⟨g, cap, cur, hv, hg, r⟩
  · subst hv
    refine ⟨none, 0, w', by rw [hrun, hn], ⟨hlen, ?_⟩, h3, by simp [blkOf]⟩
    rw [hn]
    rw [hn] at h2
    exact ⟨h2.1, .inl ⟨rfl, rfl⟩⟩
  · subst hv
    exact ⟨_, _, w', hrun, ⟨hlen, h2.1, .inr ⟨g, cap, cur, rfl, Nat.zero_le _, r⟩⟩, h3, fun g' hg' => by simp [blkOf] at hg'; omega⟩
theorem wpList_append8s {ops : Array Oper} {rest : List Oper} {o : Oper} {a : Act} {Q : Exit → Act → World → Prop} (hw : Region.wanted o (yielded ops a.tmps) = true) (s x : Operand) (t e u : TypeId)
    (ho : o.op = .call { callee := .builtin .append, args := #[s, x], argTypes := #[t, u] }) (ht : IsBytes P t e) (hu : P.underlying u = some .string)
    (A : Option Addr) (n c : Nat) (l : List UInt8) (hs : a.eval s = .slice A n c) (hown : Own8 w e A n c l) (B : Nat) (hB : ∀ g, blkOf A = some g → B ≤ g) (hBs : B ≤ w.heap.size) (S : ByteArray) (hx : a.eval x = .string S) (hb : n + S.size ≤ 140737488355328)
    (h : ∀ A' c' w', Own8 w' e A' (n + S.size) c' (l ++ S.data.toList) → w.grownBy w' (blkOf A) → (∀ g, blkOf A' = some g → B ≤ g) → wpList P ops Q rest (a.put o.dst (.slice A' (n + S.size) c')) w') : wpList P ops Q (o :: rest) a w := by
  obtain ⟨A', c', w', hr, h2, h3, h4⟩ := run_append8s (P := P) (w := w) t u o.type e ht hu A n c l hown B hB hBs S hb
  refine BigFrame.wpList_want hw fun K hK => ?_
  unfold Oper.wp execOp
  simp only [ho, resolve, invoke, builtin, Sem.run_bind, Sem.run_pure, Result.andThen_ok, List.map_toArray, List.map_cons, List.map_nil, hs, hx, hr]
  exact hK _ _ (h A' c' w' h2 h3 h4)
theorem own8_cap {e : TypeId} {A : Option Addr} {n c : Nat} {l : List UInt8} (h : Own8 w e A n c l) : n ≤ c := by
  rcases h.2.2 with ⟨hv, _⟩ | ⟨g, cap, cur, hv, _, _, h1, _⟩
  · injection hv with _ h2 h3; omega
  · injection hv with _ _ h3; omega
/-- make([]T, 0, c) -/
theorem run_make0 (t e : TypeId) (i : TypeInfo) (z : Value) (ht : P.underlying t = some (.slice e)) (hi : P.info? e = some i) (hz : i.zero = some z) (kl kc : IntKind) (c : Nat) (hb : i.bytes * c ≤ 281474976710656) (h63 : c ≤ maxLen) (w : World) :
    (Instr.makeSlice t (.int kl 0) (.int kc (c : Int))).run P w = .ok (.slice (some ⟨w.heap.size, 0, none⟩) 0 c) (w.alloc (.cells (madeCells z.cells (c * i.size)) e)) := by
  unfold maxLen at h63
  have hb' : (i.bytes : Int) * (c : Int) ≤ 281474976710656 := by
    have h : ((i.bytes * c : Nat) : Int) ≤ 281474976710656 := by omega
    rwa [Int.natCast_mul] at h
  have hr := run_make (P := P) w t e i z ht hi hz kl kc 0 c (Int.le_refl _) (by omega) hb' (by omega)
  simpa using hr
theorem run_make80 {t e : TypeId} (ht : IsBytes P t e) (kl kc : IntKind) (c : Nat) (hb : c ≤ 281474976710656) (w : World) :
    (Instr.makeSlice t (.int kl 0) (.int kc (c : Int))).run P w = .ok (.slice (some ⟨w.heap.size, 0, none⟩) 0 c) (w.alloc (.cells (madeCells #[.int .u8 0] c) e)) := by
  obtain ⟨ht, _, i, hi, hz, hsize, hby⟩ := ht
  have := run_make0 t e i _ ht hi hz kl kc c (by rw [hby]; omega) (by unfold maxLen; omega) w
  rw [hsize, Nat.mul_one] at this
  exact this
theorem Own8.new0 (w : World) (cs : Array Value) (e : TypeId) (c : Nat) (hs : cs.size = c) (hm : c ≤ maxLen) : Own8 (w.alloc (.cells cs e)) e (some ⟨w.heap.size, 0, none⟩) 0 c [] :=
  ⟨rfl, by simp [B8], Or.inr ⟨w.heap.size, c, cs, rfl, Nat.zero_le _, heap_alloc_new w _, Nat.zero_le _, hm, by omega, by simp [B8]⟩⟩
end
end Kin
