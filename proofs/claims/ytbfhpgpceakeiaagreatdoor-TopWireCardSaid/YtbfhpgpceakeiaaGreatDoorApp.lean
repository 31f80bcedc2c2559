/- Bytes that a call makes: a row of bytes of the call's own; append of bytes, of noughts, of a text. Over any program; no conditions but the room (2^47 bytes). -/
import Derived.Test.YtbfhpgpceakeiaaGreatDoorWords
import Derived.Maps.AppendAt
import Derived.Lib.AppendZeros
import Derived.BigFrame
import Derived.OwnWalk
namespace Kin
open Go Go.RowKit

/-- bytes as values -/
def B8 (l : List UInt8) : List Value := l.map fun b => .int .u8 (b.toNat : Int)
theorem length_B8 (l : List UInt8) : (B8 l).length = l.length := by simp [B8]
theorem B8_append (l m : List UInt8) : B8 (l ++ m) = B8 l ++ B8 m := by simp [B8]
theorem getElem?_B8 (l : List UInt8) (j : Nat) : (B8 l)[j]? = l[j]?.map fun b => .int .u8 (b.toNat : Int) := by simp [B8]
theorem oneCell_B8 (l : List UInt8) : ∀ u ∈ B8 l, u.oneCell' = true := by
  intro u hu
  obtain ⟨b, _, rfl⟩ := List.mem_map.1 hu
  rfl
theorem B8_zeros (m : Nat) : B8 (List.replicate m 0) = List.replicate m (.int .u8 0) := by simp [B8]

/-- the slice is a row of the call's own (or nil) that holds the bytes l -/
def Own8 (w : World) (e : TypeId) (A : Option Addr) (n c : Nat) (l : List UInt8) : Prop := n = l.length ∧ w.ownsRow 0 e 1 (.slice A n c) n (B8 l)
/-- the block of a slice -/
def blkOf (A : Option Addr) : Option Nat := A.map (·.block)
theorem ownBlock_slice (A : Option Addr) (n c : Nat) : (Value.slice A n c).ownBlock = blkOf A := by cases A <;> rfl

section
variable {w w' : World} {e : TypeId} {A : Option Addr} {n c : Nat} {l : List UInt8}

theorem Own8.nil (w : World) (e : TypeId) : Own8 w e none 0 0 [] := ⟨rfl, World.ownsRow_nil _ _ _ _⟩
theorem Own8.len (h : Own8 w e A n c l) : n = l.length := h.1
theorem Own8.byt (h : Own8 w e A n c l) : Byt w w.heap.size A l := fun hl => by
  obtain ⟨g, cap, hv, _, hlt⟩ := h.2.form (by rw [h.1]; exact hl)
  have hA : A = some ⟨g, 0, none⟩ := by injection hv
  subst hA
  refine ⟨g, 0, rfl, hlt, fun j x hx => ?_⟩
  have := h.2.cells (g := g) rfl j (.int .u8 (x.toNat : Int)) (by rw [getElem?_B8, hx]; rfl)
  simpa [Addr.add_lit] using this
theorem Own8.lt (h : Own8 w e A n c l) : ∀ g, blkOf A = some g → g < w.heap.size := fun g hg => (h.2.lt g (by rw [ownBlock_slice]; exact hg)).2
theorem Own8.kept {row : Option Nat} (h : Own8 w e A n c l) (hg : w.grownBy w' row) (hne : blkOf A = none ∨ blkOf A ≠ row) : Own8 w' e A n c l :=
  ⟨h.1, h.2.kept hg (by rw [ownBlock_slice]; exact hne)⟩
theorem Own8.below {B : Nat} (h : Own8 w e A n c l) (hb : Below B w w') (hB : ∀ g, blkOf A = some g → g < B) : Own8 w' e A n c l := by
  refine ⟨h.1, h.2.1, ?_⟩
  rcases h.2.2 with h2 | ⟨g, cap, cur, hv, hg, hh, r⟩
  · exact Or.inl h2
  · have hA : A = some ⟨g, 0, none⟩ := by injection hv
    exact Or.inr ⟨g, cap, cur, hv, hg, by rw [hb.block g (hB g (by rw [hA]; rfl))]; exact hh, r⟩
theorem Own8.alloc (h : Own8 w e A n c l) (o : Obj) : Own8 (w.alloc o) e A n c l := ⟨h.1, h.2.alloc o⟩
theorem Own8.drew (h : Own8 w e A n c l) : Own8 w.drew e A n c l := ⟨h.1, h.2.drew⟩
theorem Own8.drewN (h : Own8 w e A n c l) (k : Nat) : Own8 (w.drewN k) e A n c l := h
theorem Own8.setFar (h : Own8 w e A n c l) {p : Addr} (hp : blkOf A ≠ some p.block) (u : Value) : Own8 (w.setCell p u) e A n c l := by
  refine ⟨h.1, h.2.1, ?_⟩
  rcases h.2.2 with h2 | ⟨g, cap, cur, hv, hg, hh, r⟩
  · exact Or.inl h2
  · have hA : A = some ⟨g, 0, none⟩ := by injection hv
    exact Or.inr ⟨g, cap, cur, hv, hg, by rw [Below.heap_setCell _ _ _ _ (fun e => hp (by rw [hA, ← e]; rfl))]; exact hh, r⟩
/-- an index of it -/
theorem Own8.at_ (h : Own8 w e A n c l) {k : Nat} (hk : k < n) : ∃ g b, A = some ⟨g, 0, none⟩ ∧ l[k]? = some b ∧ w.cell? ⟨g, k, none⟩ = some (.int .u8 (b.toNat : Int)) ∧ w.frozen? ⟨g, k, none⟩ = false := by
  obtain ⟨g, cap, hv, _, hlt⟩ := h.2.form (by omega)
  injection hv with hA _ hc
  subst hA
  have hl : k < l.length := by rw [← h.1]; exact hk
  refine ⟨g, l[k], rfl, List.getElem?_eq_getElem hl, ?_, h.2.frozenAt k⟩
  have := h.2.cellAt k (by omega)
  rw [this, getElem?_B8, List.getElem?_eq_getElem hl]; rfl
theorem Own8.at0 {g : Nat} (h : Own8 w e (some ⟨g, 0, none⟩) n c l) {k : Nat} (hk : k < n) : ∃ b : UInt8, w.cell? ⟨g, k, none⟩ = some (.int .u8 (b.toNat : Int)) ∧ w.frozen? ⟨g, k, none⟩ = false := by
  obtain ⟨g', b, hg, _, h1, h2⟩ := h.at_ hk
  injection hg with hg
  injection hg with hg
  subst hg
  exact ⟨b, h1, h2⟩
/-- a store into it -/
theorem Own8.set (h : Own8 w e A n c l) {g k : Nat} (hA : A = some ⟨g, 0, none⟩) (b : UInt8) : Own8 (w.setCell ⟨g, k, none⟩ (.int .u8 (b.toNat : Int))) e A n c (l.set k b) := by
  subst hA
  refine ⟨by simp [h.1], ?_⟩
  rcases h.2.2 with ⟨hv, _⟩ | ⟨g', cap, cur, hv, hg, hh, hnc, hcm, hcs, ht⟩
  · cases hv
  · injection hv with hA hn hc
    injection hA with hA
    injection hA with hA
    subst hA
    refine ⟨by rw [length_B8, List.length_set, ← length_B8]; exact h.2.1, Or.inr ⟨g, cap, cur.setIfInBounds k (.int .u8 (b.toNat : Int)), by rw [hc], Nat.zero_le _, ?_, hnc, hcm, by simpa using hcs, ?_⟩⟩
    · have : Blk w g e cur := hh
      exact this.set_ k _
    · rw [Array.toList_setIfInBounds]
      rw [List.take_set, ht]
      simp [B8, List.map_set]
end

section
variable {P : Program} (w : World)

/-- append of bytes -/
theorem run_append8 (t ty e : TypeId) (i : TypeInfo) (ht : P.underlying t = some (.slice e)) (hi : P.info? e = some i) (hz : i.zero = some (.int .u8 0)) (hsize : i.size = 1) (hby : i.bytes = 1)
    (A : Option Addr) (n c : Nat) (l : List UInt8) (hown : Own8 w e A n c l) (B : Nat) (A2 : Option Addr) (n2 c2 : Nat) (m : List UInt8) (hr : Byt w B A2 m) (hn2 : n2 = m.length) (hb : n + n2 ≤ 140737488355328) :
    ∃ A' c' w', (Builtin.append_ #[t, t] ty #[.slice A n c, .slice A2 n2 c2]).run P w = .ok (.slice A' (n + n2) c') w' ∧ Own8 w' e A' (n + n2) c' (l ++ m) ∧ w.grownBy w' (blkOf A) ∧
      (blkOf A' = blkOf A ∨ blkOf A' = some w.heap.size) := by
  subst hn2
  rcases A2 with _ | ad
  · have hm : m = [] := by
      rcases m with _ | ⟨b, m⟩
      · rfl
      · obtain ⟨_, _, h, _⟩ := hr (by simp)
        cases h
    subst hm
    refine ⟨A, c, w, ?_, by simpa using hown, World.grownBy.refl w _, .inl rfl⟩
    rcases hown.2.2 with ⟨hv, hn⟩ | ⟨g, cap, cur, hv, _, _, hnc, _⟩
    · injection hv with hA hn2 hc
      subst hA hn hc
      simp [Builtin.append_, run_underlying ht, Go.sizeOf, typeInfo, hi, Builtin.lenOf, Builtin.firstCells]
    · injection hv with hA hn2 hc
      subst hA hc
      simp [Builtin.append_, run_underlying ht, Go.sizeOf, typeInfo, hi, Builtin.lenOf, Builtin.firstCells, hnc, storeCells]
  · have hcells : ∀ j u, (B8 m)[j]? = some u → w.cell? (ad.add j) = some u := by
      intro j u hu
      rw [getElem?_B8] at hu
      rcases hx : m[j]? with _ | x
      · rw [hx] at hu; cases hu
      · rw [hx] at hu
        have hj : j < m.length := (List.getElem?_eq_some_iff.1 hx).1
        obtain ⟨b, off, h, _, hc⟩ := hr (by omega)
        injection h with h
        subst h
        rw [Addr.add_lit, hc j x hx]
        exact hu
    obtain ⟨v', w', hrun, h2, h3, h4, h5⟩ := run_append_own_at (P := P) w 0 t ty e i (.int .u8 0) 1 1 ht hi hz hsize hby rfl (by omega) (.slice A n c) n (B8 l) hown.2 ad m.length c2 (B8 m) (by simp [B8]) hcells (oneCell_B8 m) (by unfold maxLen; omega) (by omega) (Nat.zero_le _)
    rw [ownBlock_slice] at h3 h5
    rcases h2.2 with ⟨hv, hn⟩ | ⟨g, cap, cur, hv, r⟩
    · subst hv
      have : n + m.length = 0 := hn
      refine ⟨none, 0, w', by rw [hrun, this], ⟨by simp [← hown.1], ?_⟩, h3, h5⟩
      rw [B8_append, this]
      rw [this] at h2
      exact h2
    · subst hv
      exact ⟨_, _, w', hrun, ⟨by simp [← hown.1], by rw [B8_append]; exact h2⟩, h3, h5⟩

/-- append of noughts: 'append(b, make([]byte, m)...)' -/
theorem run_append8z (t tn ty e : TypeId) (i : TypeInfo) (k kn : IntKind) (ht : P.underlying t = some (.slice e)) (htn : P.underlying tn = some (.int kn)) (hi : P.info? e = some i) (hz : i.zero = some (.int .u8 0)) (hsize : i.size = 1) (hby : i.bytes = 1)
    (A : Option Addr) (n c : Nat) (l : List UInt8) (hown : Own8 w e A n c l) (m : Nat) (hb : n + m ≤ 140737488355328) :
    ∃ A' c' w', (Builtin.append_ #[t, tn] ty #[.slice A n c, .int k (m : Int)]).run P w = .ok (.slice A' (n + m) c') w' ∧ Own8 w' e A' (n + m) c' (l ++ List.replicate m 0) ∧ w.grownBy w' (blkOf A) ∧
      (blkOf A' = blkOf A ∨ blkOf A' = some w.heap.size) := by
  have hw : IntKind.i64.wrap (m : Int) = m := by rw [IntKind.wrap_i64]; omega
  have hneg : ¬ ((m : Int) < 0) := by omega
  have h48i : ¬ (281474976710656 < (m : Int)) := by omega
  have hlen : (B8 (l ++ List.replicate m 0)).length = (n + m) * 1 := by rw [length_B8]; simp [← hown.1]
  have hzc : Builtin.zeroCells (Value.cells (.int .u8 0)) m = (B8 (List.replicate m 0)).toArray := by
    rw [B8_zeros]
    apply Array.ext_getElem?
    intro j
    simp only [Builtin.zeroCells, Value.cells]
    by_cases hj : j < m
    · simp [hj, Nat.mod_one]
    · simp [hj]
  by_cases hm : m = 0
  · subst hm
    refine ⟨A, c, w, ?_, by simpa using hown, World.grownBy.refl w _, .inl rfl⟩
    rcases hown.2.2 with ⟨hv, hn⟩ | ⟨g, cap, cur, hv, _, _, hnc, _⟩
    · injection hv with hA hn2 hc
      subst hA hn hc
      simp [Builtin.append_, run_underlying ht, run_underlying htn, Go.sizeOf, typeInfo, hi, asInt, asIntOf, IntKind.wrap_i64]
    · injection hv with hA hn2 hc
      subst hA hc
      simp [Builtin.append_, run_underlying ht, run_underlying htn, Go.sizeOf, typeInfo, hi, asInt, asIntOf, hnc, storeCells, IntKind.wrap_i64]
  · have grown : ∀ (old : Nat), old < n + m →
        Own8 (w.drew.alloc (.cells ((B8 l).toArray ++ (B8 (List.replicate m 0)).toArray ++ Builtin.zeroCells (Value.cells (.int .u8 0)) (grownCap w (n + m) old e - (n + m))) e)) e
          (some ⟨w.heap.size, 0, none⟩) (n + m) (grownCap w (n + m) old e) (l ++ List.replicate m 0) ∧
        w.grownBy (w.drew.alloc (.cells ((B8 l).toArray ++ (B8 (List.replicate m 0)).toArray ++ Builtin.zeroCells (Value.cells (.int .u8 0)) (grownCap w (n + m) old e - (n + m))) e)) (blkOf A) := by
      intro old ho
      have hge := grownCap_ge w (n + m) old e
      have hcm : grownCap w (n + m) old e ≤ maxLen := grownCap_le_maxLen w (n + m) old e (by unfold maxLen; omega)
      refine ⟨⟨by simp [← hown.1], hlen, .inr ⟨w.heap.size, _, _, rfl, Nat.zero_le _, heap_alloc_new w.drew _, hge, hcm, ?_, ?_⟩⟩, ⟨rfl, rfl, rfl, by simp, fun k hk _ => heap_alloc_old w.drew _ k hk⟩⟩
      · simp only [Array.size_append, List.size_toArray, size_zeroCells, length_B8, List.length_replicate, ← hown.1]
        simp only [Value.cells, List.size_toArray, List.length_cons, List.length_nil]
        omega
      · simp only [Array.toList_append, List.append_assoc]
        rw [← List.append_assoc, ← B8_append, ← hlen]
        exact List.take_left
    rcases hown.2.2 with ⟨hv, hn⟩ | ⟨g, cap, cur, hv, _, hg, hnc, hcm, hcs, htake⟩
    · injection hv with hA hn2 hc
      subst hA hn hc
      have hl : l = [] := List.eq_nil_of_length_eq_zero hown.1.symm
      subst hl
      have hr := Lib.run_append_nil_zeros (P := P) w t tn ty e i (.int .u8 0) k kn ht htn hi hz m (by omega) (by omega) (by omega) (by rw [hby]; omega)
      have hgr := grown 0 (by omega)
      simp only [Nat.zero_add] at hgr ⊢
      refine ⟨_, _, _, hr, ?_, ?_, .inr rfl⟩
      · rw [hzc]; simpa [B8] using hgr.1
      · rw [hzc]; simpa [B8] using hgr.2
    · injection hv with hA hn2 hc
      subst hA hc
      by_cases hroom : n + m ≤ c
      · have hst := run_storeCells_at P g (n * 1) e (B8 (List.replicate m 0)) 0 cur w hg (by rw [length_B8, List.length_replicate]; omega) (oneCell_B8 _)
        simp only [Nat.add_zero, Nat.mul_one] at hst
        refine ⟨some ⟨g, 0, none⟩, c, w.setRow g (cur.toList.take n ++ B8 (List.replicate m 0) ++ cur.toList.drop (n + (B8 (List.replicate m 0)).length)).toArray, ?_, ⟨by simp [← hown.1], hlen, .inr ⟨g, c, _, rfl, Nat.zero_le _, setRow_heap w g cur _ e _ hg, hroom, hcm, ?_, ?_⟩⟩, ⟨rfl, rfl, rfl, by simp, fun k _ hk => setRow_other w g k _ (fun e => hk (by simp [blkOf, e]))⟩, .inl rfl⟩
        · simp [Builtin.append_, run_underlying ht, run_underlying htn, Go.sizeOf, typeInfo, zeroValue, hi, hz, asInt, asIntOf, hw, hneg, hsize, hby, h48i, hm, hroom, hzc, Addr.add_lit, hst]
        · simp only [List.size_toArray, List.length_append, List.length_take, List.length_drop, Array.length_toList, length_B8, List.length_replicate]
          omega
        · simp only [Nat.mul_one] at htake ⊢
          rw [htake, ← B8_append]
          have : n + m = (B8 (l ++ List.replicate m 0)).length := by rw [hlen]; omega
          rw [this]
          exact List.take_left
      · have hgr := grown c (by omega)
        have holds : ∀ j u, (B8 l)[j]? = some u → w.cell? ((⟨g, 0, none⟩ : Addr).add j) = some u := hown.2.cells (g := g) rfl
        have hf := run_firstCells_some (P := P) w.drew 1 n ⟨g, 0, none⟩ n c (B8 l) (by rw [length_B8, ← hown.1]; omega) (by simpa using holds)
        have h63' : ¬ (9223372036854775807 < ((n : Int) + (m : Int))) := by omega
        have h48'' : ¬ (281474976710656 < Builtin.nextslicecap (n + m) c) := by
          have := growslice_fits (need := n + m) (old := c) (bytes := 1) (by omega) (by omega)
          omega
        refine ⟨_, _, _, ?_, hgr.1, hgr.2, .inr rfl⟩
        simp [Builtin.append_, run_underlying ht, run_underlying htn, Go.sizeOf, typeInfo, zeroValue, hi, hz, asInt, asIntOf, hw, hneg, hsize, hby, h48i, hm, hroom, hzc, h63', h48'', Question.forced, hf, newRow, grownCap]
        rw [← List.append_toArray, Array.append_assoc]

/-- t is []byte, e byte -/
def IsBytes (P : Program) (t e : TypeId) : Prop := P.underlying t = some (.slice e) ∧ P.underlying e = some (.int .u8) ∧ ∃ i, P.info? e = some i ∧ i.zero = some (.int .u8 0) ∧ i.size = 1 ∧ i.bytes = 1
theorem isBytes_of {t e : TypeId} (ht : P.underlying t = some (.slice e)) (he : P.underlying e = some (.int .u8)) (h : (P.info? e).map (fun i => (i.zero, i.size, i.bytes)) = some (some (.int .u8 0), 1, 1)) : IsBytes P t e :=
  ⟨ht, he, info_parts h⟩

variable {w}

theorem wpList_append8 {ops : Array Oper} {rest : List Oper} {o : Oper} {a : Act} {Q : Exit → Act → World → Prop} (hw : Region.wanted o (yielded ops a.tmps) = true) (s x : Operand) (t e : TypeId)
    (ho : o.op = .call { callee := .builtin .append, args := #[s, x], argTypes := #[t, t] }) (ht : IsBytes P t e)
    (A : Option Addr) (n c : Nat) (l : List UInt8) (hs : a.eval s = .slice A n c) (hown : Own8 w e A n c l) (B : Nat) (A2 : Option Addr) (n2 c2 : Nat) (m : List UInt8) (hx : a.eval x = .slice A2 n2 c2) (hr : Byt w B A2 m) (hn2 : n2 = m.length) (hb : n + n2 ≤ 140737488355328)
    (h : ∀ A' c' w', Own8 w' e A' (n + n2) c' (l ++ m) → w.grownBy w' (blkOf A) → (blkOf A' = blkOf A ∨ blkOf A' = some w.heap.size) → wpList P ops Q rest (a.put o.dst (.slice A' (n + n2) c')) w') : wpList P ops Q (o :: rest) a w := by
  obtain ⟨ht, _, i, hi, hz, hsize, hby⟩ := ht
  obtain ⟨A', c', w', hr, h2, h3, h4⟩ := run_append8 (P := P) w t o.type e i ht hi hz hsize hby A n c l hown B A2 n2 c2 m hr hn2 hb
  refine BigFrame.wpList_want hw fun K hK => ?_
  unfold Oper.wp execOp
  simp only [ho, resolve, invoke, builtin, Sem.run_bind, Sem.run_pure, Result.andThen_ok, List.map_toArray, List.map_cons, List.map_nil, hs, hx, hr]
  exact hK _ _ (h A' c' w' h2 h3 h4)

theorem wpList_append8z {ops : Array Oper} {rest : List Oper} {o : Oper} {a : Act} {Q : Exit → Act → World → Prop} (hw : Region.wanted o (yielded ops a.tmps) = true) (s x : Operand) (t e tn : TypeId)
    (ho : o.op = .call { callee := .builtin .append, args := #[s, x], argTypes := #[t, tn] }) (ht : IsBytes P t e) (kn : IntKind) (htn : P.underlying tn = some (.int kn))
    (A : Option Addr) (n c : Nat) (l : List UInt8) (hs : a.eval s = .slice A n c) (hown : Own8 w e A n c l) (k : IntKind) (z : Int) (m : Nat) (hx : a.eval x = .int k z) (hz : z = (m : Int)) (hb : n + m ≤ 140737488355328)
    (h : ∀ A' c' w', Own8 w' e A' (n + m) c' (l ++ List.replicate m 0) → w.grownBy w' (blkOf A) → (blkOf A' = blkOf A ∨ blkOf A' = some w.heap.size) → wpList P ops Q rest (a.put o.dst (.slice A' (n + m) c')) w') : wpList P ops Q (o :: rest) a w := by
  subst hz
  obtain ⟨ht, _, i, hi, hz, hsize, hby⟩ := ht
  obtain ⟨A', c', w', hr, h2, h3, h4⟩ := run_append8z (P := P) w t tn o.type e i k kn ht htn hi hz hsize hby A n c l hown m hb
  refine BigFrame.wpList_want hw fun K hK => ?_
  unfold Oper.wp execOp
  simp only [ho, resolve, invoke, builtin, Sem.run_bind, Sem.run_pure, Result.andThen_ok, List.map_toArray, List.map_cons, List.map_nil, hs, hx, hr]
  exact hK _ _ (h A' c' w' h2 h3 h4)

/-- a new block of bytes -/
theorem Byt.new (w : World) (cs : Array Value) (e : TypeId) (fr : Nat × Nat) (l : List UInt8) (h : cs.toList = B8 l) : Byt (w.alloc (.cells cs e fr)) (w.heap.size + 1) (some ⟨w.heap.size, 0, none⟩) l := fun _ =>
  ⟨w.heap.size, 0, rfl, by omega, fun j x hx => by
    rw [cell_of_row _ _ _ cs e fr (heap_alloc_new w _)]
    have : cs.toList[0 + j]? = some (.int .u8 (x.toNat : Int)) := by rw [h, getElem?_B8, Nat.zero_add, hx]; rfl
    simpa using this⟩
theorem Own8.new (w : World) (cs : Array Value) (e : TypeId) (n : Nat) (l : List UInt8) (hn : n = l.length) (h : cs.toList = B8 l) (hm : n ≤ maxLen) : Own8 (w.alloc (.cells cs e)) e (some ⟨w.heap.size, 0, none⟩) n n l := by
  have hs : cs.size = n := by rw [← Array.length_toList, h, length_B8, hn]
  refine ⟨hn, by rw [length_B8, hn]; omega, Or.inr ⟨w.heap.size, n, cs, rfl, Nat.zero_le _, heap_alloc_new w _, Nat.le_refl _, hm, by omega, ?_⟩⟩
  rw [List.take_of_length_le (by simp; omega), h]
/-- what make lays -/
def mk8 (n : Nat) : Array Value := (B8 (List.replicate n 0)).toArray
theorem toList_mk8 (n : Nat) : (mk8 n).toList = B8 (List.replicate n 0) := rfl
theorem run_make8 {t e : TypeId} (ht : IsBytes P t e) (kl kc : IntKind) (n : Nat) (hb : n ≤ 281474976710656) (w : World) :
    (Instr.makeSlice t (.int kl (n : Int)) (.int kc (n : Int))).run P w = .ok (.slice (some ⟨w.heap.size, 0, none⟩) n n) (w.alloc (.cells (mk8 n) e)) := by
  obtain ⟨ht, _, i, hi, hz, hsize, hby⟩ := ht
  rw [run_make_row t e i (.int .u8 0) ht hi hz hsize rfl kl kc n (by rw [hby]; omega) (by omega) w]
  have : madeCells #[Value.int .u8 0] n = mk8 n := by
    apply Array.ext'
    rw [toList_madeCells_one, toList_mk8, B8_zeros]
  rw [this]
theorem Own8.newAt (w : World) (cs : Array Value) (e : TypeId) (n : Nat) (l : List UInt8) (g : Nat) (hg : w.heap.size = g) (hn : n = l.length) (h : cs.toList = B8 l) (hm : n ≤ maxLen) : Own8 (w.alloc (.cells cs e)) e (some ⟨g, 0, none⟩) n n l := by
  subst hg
  exact Own8.new w cs e n l hn h hm
theorem Byt.newAt (w : World) (cs : Array Value) (e : TypeId) (fr : Nat × Nat) (l : List UInt8) (g : Nat) (hg : w.heap.size = g) (h : cs.toList = B8 l) : Byt (w.alloc (.cells cs e fr)) (g + 1) (some ⟨g, 0, none⟩) l := by
  subst hg
  exact Byt.new w cs e fr l h
end
end Kin
