/- Frames for objects that calls write into: which blocks may have changed; objects apart; copy into a row of one's own. Over any program; no conditions. -/
import Derived.Test.YtbfhpgpceakeiaaGreatDoorApp
import Derived.Laws.CopyOwn
namespace Kin
open Go Go.RowKit

/-- only blocks of S, and new ones, may have changed -/
structure Chg (S : Nat → Prop) (w w' : World) : Prop where
  os : w'.os = w.os
  tape : w'.tape = w.tape
  output : w'.output = w.output
  size : w.heap.size ≤ w'.heap.size
  block : ∀ k, k < w.heap.size → ¬ S k → w'.heap[k]? = w.heap[k]?

section
variable {S T U : Nat → Prop} {a b c w w' : World}

theorem Chg.refl (S : Nat → Prop) (w : World) : Chg S w w := ⟨rfl, rfl, rfl, Nat.le_refl _, fun _ _ _ => rfl⟩
theorem Chg.trans (h : Chg S a b) (k : Chg T b c) (hS : ∀ i, i < a.heap.size → S i → U i) (hT : ∀ i, i < a.heap.size → T i → U i) : Chg U a c :=
  ⟨k.os.trans h.os, k.tape.trans h.tape, k.output.trans h.output, Nat.le_trans h.size k.size, fun i hi hn =>
    (k.block i (Nat.lt_of_lt_of_le hi h.size) (fun e => hn (hT i hi e))).trans (h.block i hi (fun e => hn (hS i hi e)))⟩
theorem Chg.mono (h : Chg S a b) (hS : ∀ i, i < a.heap.size → S i → U i) : Chg U a b := ⟨h.os, h.tape, h.output, h.size, fun i hi hn => h.block i hi (fun e => hn (hS i hi e))⟩
theorem Chg.same (h : Chg S a b) (k : Chg S b c) : Chg S a c := h.trans k (fun _ _ e => e) (fun _ _ e => e)
theorem Chg.of_below (h : Below a.heap.size a b) : Chg S a b := ⟨h.os, h.tape, h.output, h.size, fun i hi _ => h.block i hi⟩
theorem Chg.below {B : Nat} (h : Chg S a b) (hS : ∀ i, S i → B ≤ i) (hB : B ≤ a.heap.size) : Below B a b := ⟨h.os, h.tape, h.output, h.size, fun i hi => h.block i (by omega) (fun e => by have := hS i e; omega)⟩
theorem Chg.drew (h : Chg S a b) : Chg S a b.drew := ⟨h.os, h.tape, h.output, h.size, h.block⟩
theorem Chg.drewN (h : Chg S a b) (n : Nat) : Chg S a (b.drewN n) := ⟨h.os, h.tape, h.output, h.size, h.block⟩
theorem Chg.alloc (h : Chg S a b) (o : Obj) : Chg S a (b.alloc o) := h.trans (T := fun _ => False) (Chg.of_below ((Below.refl _ _).alloc (Nat.le_refl _) o)) (fun _ _ e => e) (fun _ _ e => e.elim)
theorem Chg.setCell (h : Chg S a b) {p : Addr} (hp : S p.block ∨ a.heap.size ≤ p.block) (u : Value) : Chg S a (b.setCell p u) :=
  ⟨h.os, h.tape, h.output, by simpa [World.setCell] using h.size, fun i hi hn => (Below.heap_setCell b p u i (by
    rintro rfl
    rcases hp with hp | hp
    · exact hn hp
    · omega)).trans (h.block i hi hn)⟩
theorem Chg.setRow (h : Chg S a b) {g : Nat} (hp : S g ∨ a.heap.size ≤ g) (cs : Array Value) : Chg S a (b.setRow g cs) :=
  ⟨h.os, h.tape, h.output, by simpa [World.setRow] using h.size, fun i hi hn => (setRow_other b g i cs (by
    rintro rfl
    rcases hp with hp | hp
    · exact hn hp
    · omega)).trans (h.block i hi hn)⟩
theorem Chg.grown (h : Chg S a b) {row : Option Nat} (hg : b.grownBy c row) (hr : ∀ g, row = some g → S g ∨ a.heap.size ≤ g) : Chg S a c :=
  ⟨hg.os.trans h.os, hg.tape.trans h.tape, hg.output.trans h.output, Nat.le_trans h.size hg.size, fun i hi hn => (hg.block i (Nat.lt_of_lt_of_le hi h.size) (fun e => by
    rcases hr i e.symm with hp | hp
    · exact hn hp
    · omega)).trans (h.block i hi hn)⟩
theorem Chg.blk {g : Nat} {t : TypeId} {cs : Array Value} (h : Chg S a b) (hb : Blk a g t cs) (hn : ¬ S g) : Blk b g t cs := (h.block g hb.lt hn).trans hb
theorem Chg.own {e : TypeId} {A : Option Addr} {n c : Nat} {l : List UInt8} (h : Chg S a b) (ho : Own8 a e A n c l) (hn : ∀ g, blkOf A = some g → ¬ S g) : Own8 b e A n c l := by
  refine ⟨ho.1, ho.2.1, ?_⟩
  rcases ho.2.2 with h2 | ⟨g, cap, cur, hv, hg, hh, r⟩
  · exact Or.inl h2
  · have hA : A = some ⟨g, 0, none⟩ := by injection hv
    exact Or.inr ⟨g, cap, cur, hv, hg, by rw [h.block g (Blk.lt (t := e) hh) (hn g (by rw [hA]; rfl))]; exact hh, r⟩
theorem Chg.byt {B : Nat} {A : Option Addr} {l : List UInt8} (h : Chg S a b) (ho : Byt a B A l) (hn : ∀ g, g < B → ¬ S g) : Byt b B A l := fun hl => by
  obtain ⟨g, off, e, hb, hc⟩ := ho.here hl
  obtain ⟨g', off', e', hb', _⟩ := ho hl
  rw [e] at e'
  injection e' with e'
  injection e' with e1 e2
  subst e1 e2
  exact ⟨g, off, e, hb', fun j x hx => (World.cell?_of_block (a := ⟨g, off + j, none⟩) (h.block g hb (hn g hb'))).trans (hc j x hx)⟩
end

/-- the blocks of an object: its own and its row's -/
def Foot (g : Nat) (R : Option Nat) (k : Nat) : Prop := k = g ∨ R = some k
theorem Foot.ge {B g : Nat} {R : Option Nat} (hg : B ≤ g) (hR : ∀ r, R = some r → B ≤ r) : ∀ i, Foot g R i → B ≤ i := by
  rintro i (rfl | e)
  · exact hg
  · exact hR i e
theorem Foot.not {B g k : Nat} {R : Option Nat} (hk : k < B) (hg : B ≤ g) (hR : ∀ r, R = some r → B ≤ r) : ¬ Foot g R k := fun h => by
  have := Foot.ge hg hR k h
  omega
/-- the row behind a call is the old one, or new -/
def RowNew (n : Nat) (R R' : Option Nat) : Prop := R' = R ∨ ∃ r, R' = some r ∧ n ≤ r
theorem RowNew.refl (n : Nat) (R : Option Nat) : RowNew n R R := .inl rfl
theorem RowNew.trans {n m : Nat} {R R' R'' : Option Nat} (h : RowNew n R R') (k : RowNew m R' R'') (hnm : n ≤ m) : RowNew n R R'' := by
  rcases k with rfl | ⟨r, rfl, hr⟩
  · exact h
  · exact .inr ⟨r, rfl, by omega⟩
theorem RowNew.ge {n B : Nat} {R R' : Option Nat} (h : RowNew n R R') (hR : ∀ r, R = some r → B ≤ r) (hB : B ≤ n) : ∀ r, R' = some r → B ≤ r := by
  intro r hr
  rcases h with h | ⟨r', h, hr'⟩
  · exact hR r (by rw [← h]; exact hr)
  · rw [hr] at h; injection h with h; omega
/-- two objects share no block -/
def Disj (g1 : Nat) (R1 : Option Nat) (g2 : Nat) (R2 : Option Nat) : Prop := g1 ≠ g2 ∧ R1 ≠ some g2 ∧ R2 ≠ some g1 ∧ ∀ r, R1 = some r → R2 ≠ some r
theorem Disj.symm {g1 g2 : Nat} {R1 R2 : Option Nat} (h : Disj g1 R1 g2 R2) : Disj g2 R2 g1 R1 := ⟨h.1.symm, h.2.2.1, h.2.1, fun r hr e => h.2.2.2 r e hr⟩
theorem Disj.foot {g1 g2 : Nat} {R1 R2 : Option Nat} (h : Disj g1 R1 g2 R2) (k : Nat) (hk : Foot g2 R2 k) : ¬ Foot g1 R1 k := by
  rintro (rfl | h1)
  · rcases hk with e | e
    · exact h.1 e
    · exact h.2.2.1 e
  · rcases hk with e | e
    · subst e; exact h.2.1 h1
    · exact h.2.2.2 k h1 e
/-- the first one's row has moved to a new block -/
theorem Disj.left {n g1 g2 : Nat} {R1 R1' R2 : Option Nat} (h : Disj g1 R1 g2 R2) (hr : RowNew n R1 R1') (hg : g2 < n) (hR : ∀ r, R2 = some r → r < n) : Disj g1 R1' g2 R2 := by
  rcases hr with rfl | ⟨r, rfl, hr⟩
  · exact h
  · refine ⟨h.1, fun e => by injection e with e; omega, h.2.2.1, fun r' hr' e => ?_⟩
    injection hr' with hr'
    have := hR r' e
    omega
/-- a new object -/
theorem Disj.fresh {n g1 g2 : Nat} {R1 R2 : Option Nat} (hg : g1 < n) (hR : ∀ r, R1 = some r → r < n) (hg2 : n ≤ g2) (hR2 : ∀ r, R2 = some r → n ≤ r) : Disj g1 R1 g2 R2 :=
  ⟨by omega, fun e => by have := hR _ e; omega, fun e => by have := hR2 _ e; omega, fun r h1 h2 => by have := hR _ h1; have := hR2 _ h2; omega⟩

/-- copy into a row of one's own, as long as what is copied -/
theorem wpList_copy8 {P : Program} {w : World} {ops : Array Oper} {rest : List Oper} {o : Oper} {a : Act} {Q : Exit → Act → World → Prop} (hw : Region.wanted o (yielded ops a.tmps) = true) (d s : Operand) (t e : TypeId)
    (ho : o.op = .call { callee := .builtin .copy, args := #[d, s], argTypes := #[t, t] }) (ht : IsBytes P t e)
    (g n c : Nat) (l : List UInt8) (hd : a.eval d = .slice (some ⟨g, 0, none⟩) n c) (hown : Own8 w e (some ⟨g, 0, none⟩) n c l) (B : Nat) (A2 : Option Addr) (n2 c2 : Nat) (m : List UInt8) (hs : a.eval s = .slice A2 n2 c2) (hr : Byt w B A2 m) (hn2 : n2 = m.length) (hn : n = n2)
    (h : ∀ w', Own8 w' e (some ⟨g, 0, none⟩) n c m → w.grownBy w' (some g) → wpList P ops Q rest (a.put o.dst (.int .i64 (n : Int))) w') : wpList P ops Q (o :: rest) a w := by
  obtain ⟨hu, _, i, hi, hz, hsize, hby⟩ := ht
  subst hn
  have hsz : (P.info? e).map (·.size) = some 1 := by rw [hi]; simp [hsize]
  refine BigFrame.wpList_want hw fun K hK => ?_
  by_cases h0 : n = 0
  · subst h0
    have hm : m = [] := List.eq_nil_of_length_eq_zero hn2.symm
    have hl : l = [] := List.eq_nil_of_length_eq_zero hown.1.symm
    have hrun := run_copy_none (P := P) w t t o.type e (some ⟨g, 0, none⟩) A2 0 c 0 c2 hu hsz rfl
    unfold Oper.wp
    simp [execOp, ho, resolve, invoke, builtin, hd, hs, hrun, Result.andThen]
    exact hK _ _ (h w (by rw [hm, ← hl]; exact hown) (World.grownBy.refl w _))
  · obtain ⟨b, off, hA, _, hc⟩ := hr (by omega)
    subst hA
    rcases hown.2.2 with ⟨hv, _⟩ | ⟨g', cap, cur, hv, _, hg, hnc, hcm, hcs, htake⟩
    · cases hv
    · injection hv with hA hn' hc'
      injection hA with hA
      injection hA with hA
      subst hA hc'
      have hlen : (B8 m).length = Nat.min n n := by rw [length_B8, ← hn2]; exact (Nat.min_self n).symm
      have hrun := run_copy_row (P := P) w t t o.type e g 0 n c ⟨b, off, none⟩ n c2 cur e (B8 m) hu hsz hg hlen (fun j v hj => by
        rw [getElem?_B8] at hj
        rcases hx : m[j]? with _ | x
        · rw [hx] at hj; cases hj
        · rw [hx] at hj
          rw [Addr.add_lit, hc j x hx]
          exact hj) (by rw [length_B8, ← hn2]; omega) (oneCell_B8 m)
      unfold Oper.wp
      simp [execOp, ho, resolve, invoke, builtin, hd, hs, hrun, Result.andThen]
      rw [length_B8, ← hn2]
      refine hK _ _ (h _ ⟨hn2, by rw [length_B8]; omega, Or.inr ⟨g, c, _, rfl, Nat.zero_le _, setRow_heap w g cur _ e _ hg, hnc, hcm, ?_, ?_⟩⟩ ⟨rfl, rfl, rfl, by simp, fun k _ hk => setRow_other w g k _ (fun e => hk (by rw [e]))⟩)
      · simp only [List.size_toArray, List.length_append, List.length_drop, Array.length_toList, length_B8, ← hn2]
        omega
      · have : n * 1 = (B8 m).length := by rw [length_B8]; omega
        rw [this]
        exact List.take_left
end Kin
