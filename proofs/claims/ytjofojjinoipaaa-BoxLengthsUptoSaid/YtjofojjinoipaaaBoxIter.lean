/- A file's boxes, cut off one by one by a closure that keeps what is left, by its contract. Conditions: the slice reads as bytes. -/
import Derived.Test.YtjofojjinoipaaaBoxFirst
import Derived.Test.YtjofojjinoipaaaRange
import Derived.OwnWalkIn
import Derived.TacticsInMore
import Derived.LoopNIn
import Derived.LoopIn
namespace Kin
open Go Go.RowKit
theorem wpListIn_appendR {F : Fence} {m : Nat} {P : Program} {w : World} {ops : Array Oper} {rest : List Oper} {o : Oper} {a : Act} {Q : Exit → Act → World → Prop} (hg : o.guard = none) (s x : Operand) (t e : TypeId) (k by_ : Nat)
    (ho : o.op = .call { callee := .builtin .append, args := #[s, x], argTypes := #[t, t] }) (ht : IsRows P t e k by_)
    (A : Option Addr) (n c : Nat) (rows : List (List Value)) (hs : a.eval s = .slice A n c) (hown : OwnR w e k A n c rows) (B : Nat) (A2 : Option Addr) (n2 c2 : Nat) (news : List (List Value)) (hx : a.eval x = .slice A2 n2 c2) (hr : Recs w B k A2 news) (hn2 : n2 = news.length)
    (hk : ∀ r ∈ news, r.length = k) (h1 : ∀ r ∈ news, ∀ u ∈ r, u.oneCell' = true) (hb : (n + n2) * by_ ≤ 140737488355328) (h63 : n + n2 ≤ maxLen)
    (h : ∀ A' c' w', OwnR w' e k A' (n + n2) c' (rows ++ news) → w.grownBy w' (blkOf A) → (blkOf A' = blkOf A ∨ blkOf A' = some w.heap.size) → wpListIn F m P ops Q rest (a.put o.dst (.slice A' (n + n2) c')) w') : wpListIn F m P ops Q (o :: rest) a w := by
  obtain ⟨A', c', w', hr, h2, h3, h4⟩ := run_appendR (P := P) w t o.type e k by_ ht A n c rows hown A2 n2 c2 news hr hn2 hk h1 hb h63
  refine wpListIn_plain hg fun K hK' => ?_
  unfold Oper.wpIn
  refine ⟨?_, ?_⟩
  · simp [Oper.about, ho, resolve, Target.leads, Sem.run_pure]
  · rw [Oper.semAt_plain F _ _ (by rw [ho]; intro c hc'; cases hc')]
    simp [execOp, ho, resolve, invoke, builtin, hs, hx, hr, Result.andThen]
    exact hK' _ _ (h A' c' w' h2 h3 h4)
section
variable {W : World} {l : Nat} {o o' : Obj}
theorem Blk.turn {g : Nat} {t : TypeId} {cs : Array Value} (h : Blk W g t cs) (hl : W.heap[l]? = some o) (ho : o.isCells = false) : Blk (W.putObj l o') g t cs := by
  refine (World.putObj_heap_other (fun e => ?_)).trans h
  subst e
  unfold Blk at h
  rw [h] at hl
  injection hl with hl
  subst hl
  cases ho
theorem cell_turn {p : Addr} {v : Value} (h : W.cell? p = some v) (hl : W.heap[l]? = some o) (ho : o.isCells = false) : (W.putObj l o').cell? p = some v :=
  cell_kept h (grownBy_putObj' W l o') (fun r e => by cases e; exact ⟨o, hl, ho⟩)
theorem Byt.turn {B : Nat} {A : Option Addr} {d : List UInt8} (h : Byt W B A d) (hl : W.heap[l]? = some o) (ho : o.isCells = false) : Byt (W.putObj l o') B A d := fun hp => by
  obtain ⟨b, off, e, hb, hc⟩ := h hp
  exact ⟨b, off, e, hb, fun j x hx => cell_turn (hc j x hx) hl ho⟩
theorem OwnR.turn {e : TypeId} {k : Nat} {A : Option Addr} {n c : Nat} {rows : List (List Value)} (h : OwnR W e k A n c rows) (hl : W.heap[l]? = some o) (ho : o.isCells = false) : OwnR (W.putObj l o') e k A n c rows :=
  ⟨h.1, h.2.1, ownsRow_putObj h.2.2 o' hl ho⟩
theorem below_turn {B : Nat} {w : World} (h : Below B w W) (hB : B ≤ l) (hl : W.heap[l]? = some o) : Below B w (W.putObj l o') :=
  h.grown (grownBy_putObj' W l o') (by have := (Array.getElem?_eq_some_iff.1 hl).1; omega) (fun k e => by cases e; exact hB)
theorem keepsO {w w' : World} (h : Below w.heap.size w w') : KeepsOthers w w' := ⟨h.size, fun k _ hk _ => (h.block k (Array.getElem?_eq_some_iff.1 hk).1).trans hk⟩
end
end Kin
namespace Bx
open Go Go.RowKit Kin
theorem own8_turn {W : World} {l : Nat} {o o' : Obj} {e : TypeId} {A : Option Addr} {n c : Nat} {d : List UInt8} (h : Own8 W e A n c d) (hl : W.heap[l]? = some o) (ho : o.isCells = false) : Own8 (W.putObj l o') e A n c d := ⟨h.1, ownsRow_putObj h.2 o' hl ho⟩
theorem OwnB.turn {W : World} {l : Nat} {o o' : Obj} {e e8 : TypeId} {A : Option Addr} {n c : Nat} {xs : List Cel} (h : OwnB W e e8 A n c xs) (hl : W.heap[l]? = some o) (ho : o.isCells = false) : OwnB (W.putObj l o') e e8 A n c xs := ⟨h.1.turn hl ho, fun x hx => own8_turn (h.2 x hx) hl ho⟩
end Bx
namespace Go.Proofs.Ytjofojjinoipaaa
open Go.RowKit Kin
attribute [local go_sem] Oper.semAt_some

/-- between two rounds: the boxes that have come, and the bytes that are left -/
structure PSt (w : World) (s : List Bx.Cel × List UInt8) (W : World) : Prop where
  r0 : Blk W w.heap.size 22 #[.slice none 0 0]
  r1 : Blk W (w.heap.size + 1) 26 #[.int .i64 0]
  v : ∃ A n c, Blk W (w.heap.size + 2) 22 #[.slice A n c] ∧ Bx.OwnB W 36 5 A n c s.1 ∧ (∀ k, blkOf A = some k → w.heap.size ≤ k)
  b : ∃ A n c, Blk W (w.heap.size + 3) 23 #[.slice A n c] ∧ n = s.2.length ∧ n ≤ c ∧ Byt W w.heap.size A s.2
  bel : Below w.heap.size w W
/-- a round has said: no more -/
structure PEnd (w : World) (W : World) : Prop where
  r0 : Blk W w.heap.size 22 #[.slice none 0 0]
  r1 : Blk W (w.heap.size + 1) 26 #[.int .i64 161]
  bel : Below w.heap.size w W
theorem PSt.turn (w : World) (s : List Bx.Cel × List UInt8) {B : Nat} (hB : w.heap.size ≤ B) : Bides B (PSt w s) := fun W l o o' h hl hh ho => by
  obtain ⟨r0, r1, ⟨A, n, c, v1, v2, v3⟩, ⟨A2, n2, c2, b1, b2, b3, b4⟩, bel⟩ := h
  exact ⟨r0.turn hh ho, r1.turn hh ho, ⟨A, n, c, v1.turn hh ho, v2.turn hh ho, v3⟩, ⟨A2, n2, c2, b1.turn hh ho, b2, b3, b4.turn hh ho⟩, below_turn bel (Nat.le_trans hB hl) hh⟩
theorem PEnd.turn (w : World) {B : Nat} (hB : w.heap.size ≤ B) : Bides B (PEnd w) := fun _ _ _ _ h hl hh ho =>
  ⟨h.r0.turn hh ho, h.r1.turn hh ho, below_turn h.bel (Nat.le_trans hB hl) hh⟩
theorem PSt.below {w W W' : World} {s : List Bx.Cel × List UInt8} (h : PSt w s W) (hb : Below W.heap.size W W') : PSt w s W' := by
  obtain ⟨r0, r1, ⟨A, n, c, v1, v2, v3⟩, ⟨A2, n2, c2, b1, b2, b3, b4⟩, bel⟩ := h
  exact ⟨r0.below hb r0.lt, r1.below hb r1.lt, ⟨A, n, c, v1.below hb v1.lt, v2.next hb, v3⟩, ⟨A2, n2, c2, b1.below hb b1.lt, b2, b3, b4.below (hb.mono bel.size)⟩, bel.trans (hb.mono bel.size)⟩

theorem byt_set {W : World} {B : Nat} {A : Option Addr} {d : List UInt8} {g : Nat} {t : TypeId} {v u : Value} (h : Byt W B A d) (hg : Blk W g t #[v]) (hv : ∀ z, v ≠ .int .u8 z) : Byt (W.setCell ⟨g, 0, none⟩ u) B A d := fun hp => by
  obtain ⟨b, off, e, hb, hc⟩ := h hp
  refine ⟨b, off, e, hb, fun j x hx => ?_⟩
  have h1 := hc j x hx
  by_cases hbg : b = g
  · subst hbg
    exfalso
    rw [hg.cell] at h1
    rcases hz : off + j with _ | k
    · rw [hz] at h1; simp at h1; exact hv _ h1
    · rw [hz] at h1; simp at h1
  · exact (World.cell?_of_block (a := ⟨b, off + j, none⟩) (Below.heap_setCell W ⟨g, 0, none⟩ u b hbg)).trans h1
theorem ownR_set {W : World} {e : TypeId} {k : Nat} {A : Option Addr} {n c : Nat} {rows : List (List Value)} {g : Nat} {t : TypeId} {cs : Array Value} (h : OwnR W e k A n c rows) (hg : Blk W g t cs) (hne : e ≠ t) (u : Value) : OwnR (W.setCell ⟨g, 0, none⟩ u) e k A n c rows := by
  refine Chg.ownR (S := fun k => k = g) ((Chg.refl (fun k => k = g) W).setCell (p := ⟨g, 0, none⟩) (.inl rfl) u) h ?_
  rintro k hk rfl
  exact h.ne_blk hg hne hk
theorem own8_set {W : World} {e : TypeId} {A : Option Addr} {n c : Nat} {d : List UInt8} {g : Nat} {t : TypeId} {cs : Array Value} (h : Own8 W e A n c d) (hg : Blk W g t cs) (hne : e ≠ t) (u : Value) : Own8 (W.setCell ⟨g, 0, none⟩ u) e A n c d :=
  h.setFar (p := ⟨g, 0, none⟩) (far8 h hg hne) u
theorem ownB_set {W : World} {e e8 : TypeId} {A : Option Addr} {n c : Nat} {xs : List Bx.Cel} {g : Nat} {t : TypeId} {cs : Array Value} {u : Value} (h : Bx.OwnB W e e8 A n c xs) (hg : Blk W g t cs) (hne : e ≠ t) (hne8 : e8 ≠ t) : Bx.OwnB (W.setCell ⟨g, 0, none⟩ u) e e8 A n c xs :=
  ⟨ownR_set h.1 hg hne u, fun x hx => own8_set (h.2 x hx) hg hne8 u⟩
theorem PSt.setB {w W : World} {s : List Bx.Cel × List UInt8} (h : PSt w s W) (A : Option Addr) (n c : Nat) (r : List UInt8) (hn : n = r.length) (hc : n ≤ c) (hb : Byt W w.heap.size A r) : PSt w (s.1, r) (W.setCell ⟨w.heap.size + 3, 0, none⟩ (.slice A n c)) := by
  obtain ⟨r0, r1, ⟨A1, n1, c1, v1, v2, v3⟩, ⟨A2, n2, c2, b1, b2, b3, b4⟩, bel⟩ := h
  exact ⟨r0.far (p := ⟨w.heap.size + 3, 0, none⟩) (show w.heap.size ≠ w.heap.size + 3 by omega) _, r1.far (p := ⟨w.heap.size + 3, 0, none⟩) (show w.heap.size + 1 ≠ w.heap.size + 3 by omega) _,
    ⟨A1, n1, c1, v1.far (p := ⟨w.heap.size + 3, 0, none⟩) (show w.heap.size + 2 ≠ w.heap.size + 3 by omega) _, ownB_set v2 b1 (by decide) (by decide), v3⟩,
    ⟨A, n, c, b1.set_ 0 _, hn, hc, byt_set hb b1 (by simp)⟩, bel.setCell (p := ⟨w.heap.size + 3, 0, none⟩) (show w.heap.size ≤ w.heap.size + 3 by omega) _⟩

theorem makeF (w : World) (g : Nat) (cap : Array Value) : Sem.run Try.prog (Instr.makeFunc (Fn.func g) #[] cap) w = .ok (.func (.func g) #[] cap) w := rfl
set_option maxRecDepth 100000 in
theorem boxes_calls (A : Option Addr) (n c : Nat) (w : World) : Calls Try.prog 20 #[.slice A n c] w fun e w' => e = .returned (.func (.func 23) #[] #[.pointer (some ⟨w.heap.size, 0, none⟩)]) ∧ w.alloc (.cells #[.slice A n c] 23) = w' := by
  have mk := makeF
  go_enter Try.func20, Try.ntmps20
  go_wp2
  go_ret
  exact ⟨rfl, rfl⟩

/-- how many bytes are left -/
def leftN (w : World) (g : Nat) : Nat := match w.cell? ⟨g, 0, none⟩ with
  | some (.slice _ n _) => n
  | _ => 0
theorem leftN_of {w : World} {g : Nat} {t : TypeId} {A : Option Addr} {n c : Nat} (h : Blk w g t #[.slice A n c]) : leftN w g = n := by
  unfold leftN
  rw [show w.cell? ⟨g, 0, none⟩ = some (.slice A n c) from h.cell 0]

/-- what is yielded: a box, and whether it is one -/
abbrev bxE (x : Bx.Cel × Bool) : Array Value := #[boxV x.1.t x.1.A x.1.n x.1.c, .bool x.2]
def zcel : Bx.Cel := ⟨⟨#[]⟩, none, 0, 0, []⟩
theorem zcel_own (w : World) (e : TypeId) : zcel.own w e := Own8.nil w e

set_option maxRecDepth 100000 in
set_option maxHeartbeats 2000000 in
theorem iter_in (w : World) (m : List UInt8) (hm : m.length ≤ 1099511627776) (n : Nat) (l : Nat) (B Bx' : World → Prop) (hB : ∀ W W', B W → KeepsOthers W W' → B W')
    (hY : ∀ s x W, PSt w s W → (x.1.own W 5 ∧ s.1.length ≤ 1099511627776) → B W → YieldAt Fence.wide (n - 1) Try.prog l (bxE x) W fun e W' => (e = .returned (.bool true) ∧ x.2 = true ∧ PSt w (s.1 ++ [x.1], s.2) W' ∧ B W') ∨ (e = .returned (.bool false) ∧ x.2 = false ∧ PEnd w W' ∧ Bx' W'))
    (W : World) (h0 : PSt w ([], m) W) (hb0 : B W) :
    CallsIn Fence.wide n Try.prog 23 #[.func (.yield l) #[] #[], .pointer (some ⟨w.heap.size + 3, 0, none⟩)] W fun e W' => (∃ v, e = .returned v) ∧ ((∃ s : List Bx.Cel × List UInt8, (Bx.even m = true ∧ Bx.boxs s.1 = Bx.boxes m) ∧ PSt w s W' ∧ B W') ∨ (Bx.even m = false ∧ PEnd w W' ∧ Bx' W')) := by
  refine callsIn_of_wp Try.func23 rfl trivial ?_ rfl
  simp only [Try.ntmps23, List.size_toArray, List.length_cons, List.length_nil, Nat.reduceAdd, Nat.reduceSub, Array.replicate_succ, Array.replicate_zero, List.push_toArray, List.append_toArray, List.nil_append, List.cons_append]
  have HM := hide hm
  clear hm
  gi_wp2
  gi_loopw [] (fun wr => ∃ (pre : List Bx.Cel) (rest : List UInt8), PSt w (pre, rest) wr ∧ B wr ∧ Hid (Bx.boxes m = Bx.boxs pre ++ Bx.boxes rest) ∧ Hid (Bx.even m = Bx.even rest) ∧ rest.length ≤ 1099511627776) (fun wr => leftN wr (w.heap.size + 3))
  case atStart => exact ⟨[], m, h0, hb0, rfl, rfl, HM⟩
  case round =>
    obtain ⟨pre, rest, hP, hBw, hbx, hev, hrl⟩ := hrel
    have hP' := hP
    have HPL : Hid (pre.length ≤ 1099511627776) := by
      have h1 := congrArg List.length hbx.out
      rw [List.length_append, Bx.length_boxs] at h1
      have h2 := Bx.length_boxes m
      have h3 := HM.out
      show _ ≤ _
      omega
    obtain ⟨r0, r1, ⟨A, n1, c, v1, v2, v3⟩, ⟨A2, n2, c2, b1, b2, b3, b4⟩, bel⟩ := hP'
    have HL := hide b2
    dsimp only at HL b4
    have k0 : wr.cell? ⟨w.heap.size + 3, 0, none⟩ = some (.slice A2 n2 c2) := b1.cell 0
    have hn2 : n2 ≤ 1099511627776 := by have := HL.out; omega
    have HLN := hide (leftN_of b1)
    clear b2 r0 r1 v1 v2 v3
    by_cases hz : n2 = 0
    · have hr0 : rest = [] := List.eq_nil_of_length_eq_zero (by rw [← HL.out]; exact hz)
      subst hz
      have HE : Hid (Bx.even m = true) := hev.out.trans (by rw [hr0]; rfl)
      have HX : Hid (Bx.boxs pre = Bx.boxes m) := by rw [hbx.out, hr0]; simp [Bx.boxes_no, Bx.firstN_small, Hid]
      gi_wp2
      go_end0
      exact ⟨⟨_, rfl⟩, .inl ⟨(pre, rest), ⟨HE.out, HX.out⟩, hP, hBw⟩⟩
    · have hpos : (0 : Int) < (n2 : Int) := by omega
      have hfi := first_calls A2 n2 c2 rest wr HL.out b3 hn2 (b4.more bel.size)
      gi_wp2
      refine ⟨trivial, fun h => by simp [Fence.wide] at h, (callsIn_wide.2 hfi).mono ?_⟩
      rintro e w2 (⟨hf, rfl, e2⟩ | ⟨hf, A3, n3, c3, rfl, o3, g3, e2⟩)
      · -- no box
        have P2 := (hP.below e2).below ((Below.refl w2.heap.size w2).alloc (Nat.le_refl _) (.cells #[.string ⟨#[]⟩, .slice none 0 0] 36))
        have B2 := hB _ _ (hB _ _ hBw (keepsO e2)) (KeepsOthers.alloc w2 (.cells #[.string ⟨#[]⟩, .slice none 0 0] 36))
        obtain ⟨fn, tmps, assign, body, hy, hR⟩ := hY (pre, rest) (zcel, false) _ P2 ⟨zcel_own _ _, HPL.out⟩ B2
        dsimp only [bxE, zcel] at hy
        have HEV : Hid (Bx.even m = false) := hev.out.trans (Bx.even_no (by rw [← HL.out]; omega) hf)
        clear hf k0 hfi
        gi_wp2
        refine ⟨fun h => by simp [Fence.wide] at h, hR.mono ?_⟩
        rintro e W3 (⟨rfl, hc, _⟩ | ⟨rfl, _, hE, hBx3⟩)
        · cases hc
        · gi_wp2
          refine bodyPost_ret (results_none rfl _ _ _) rfl ?_
          exact ⟨⟨_, rfl⟩, .inr ⟨HEV.out, hE, hBx3⟩⟩
      · have P2 := (hP.below e2).below ((Below.refl w2.heap.size w2).alloc (Nat.le_refl _) (.cells #[.string (Bx.firstT rest), .slice A3 n3 c3] 36))
        have B2 := hB _ _ (hB _ _ hBw (keepsO e2)) (KeepsOthers.alloc w2 (.cells #[.string (Bx.firstT rest), .slice A3 n3 c3] 36))
        have O2 := o3.alloc (.cells #[.string (Bx.firstT rest), .slice A3 n3 c3] 36)
        obtain ⟨fn, tmps, assign, body, hy, hR⟩ := hY (pre, rest) (⟨Bx.firstT rest, A3, n3, c3, Bx.firstD rest⟩, true) _ P2 ⟨O2, HPL.out⟩ B2
        dsimp only [bxE] at hy
        obtain ⟨f1, f2, f3, f4, _⟩ := Bx.firstN_ge hf
        have HBX : Hid (Bx.boxes m = Bx.boxs (pre ++ [⟨Bx.firstT rest, A3, n3, c3, Bx.firstD rest⟩]) ++ Bx.boxes (rest.drop (Bx.firstN rest))) := by
          show _ = _
          rw [hbx.out, Bx.boxes_yes hf, Bx.boxs_append]
          simp [Bx.boxs, Bx.Cel.box]
        have HEV : Hid (Bx.even m = Bx.even (rest.drop (Bx.firstN rest))) := hev.out.trans (Bx.even_yes hf)
        have hk1 : Bx.firstN rest ≤ n2 := by have := HL.out; omega
        have hk2 : 8 ≤ Bx.firstN rest := by omega
        have hk0 : ¬ (Bx.firstN rest : Int) = 0 := by omega
        have HLr : Hid ((rest.drop (Bx.firstN rest)).length = n2 - Bx.firstN rest) := by show _ = _; rw [List.length_drop, ← HL.out]
        have q0 := (Blk.new w2 36 #[.string (Bx.firstT rest), .slice A3 n3 c3])
        have q1 : (w2.alloc (.cells #[.string (Bx.firstT rest), .slice A3 n3 c3] 36)).cell? ⟨w2.heap.size, 0, none⟩ = some (.string (Bx.firstT rest)) := q0.cell 0
        clear k0 hfi f1 f2 f3 f4 hf
        generalize Bx.firstN rest = kk at *
        generalize Bx.firstT rest = T at *
        generalize Bx.firstD rest = Dd at *
        gi_wp2
        refine ⟨fun h => by simp [Fence.wide] at h, hR.mono ?_⟩
        rintro e W3 (⟨rfl, _, P3, B3⟩ | ⟨rfl, hc, _⟩)
        · have P3' := P3
          obtain ⟨_, _, _, ⟨A4, n4, c4, d1, d2, d3, d4⟩, bel3⟩ := P3'
          dsimp only at d2 d4
          have hn4 : n4 = n2 := by rw [d2, HL.out]
          subst hn4
          clear d2
          have k3 : W3.cell? ⟨w.heap.size + 3, 0, none⟩ = some (.slice A4 n4 c4) := d1.cell 0
          have kf := d1.frozen 0
          have hs1 : ∀ w', Sem.run Try.prog (Instr.sliceAt 23 (.slice A4 n4 c4) (some (.int .i64 (kk : Int))) none none) w' = .ok (.slice (cutA A4 c4 kk) (n4 - kk) (c4 - kk)) w' := fun w' => run_cut8l bytesT A4 n4 c4 .i64 kk _ rfl (by omega) w'
          have d5 := d4.cut kk (c := c4) (by rw [← HL.out]; exact d3)
          have P5 := P3.setB (cutA A4 c4 kk) (n4 - kk) (c4 - kk) (rest.drop kk) HLr.out.symm (by omega) d5
          have B5 := hB _ _ B3 (KeepsOthers.setCell W3 ⟨w.heap.size + 3, 0, none⟩ (.slice (cutA A4 c4 kk) (n4 - kk) (c4 - kk)))
          have HM5 := hide (leftN_of (d1.set_ 0 (.slice (cutA A4 c4 kk) (n4 - kk) (c4 - kk))))
          gi_wp2
          go_roundw
          case rel => exact ⟨_, _, P5, B5, HBX, HEV, by rw [HLr.out]; omega⟩
          case measure => rw [HM5.out, HLN.out]; omega
        · cases hc
end Go.Proofs.Ytjofojjinoipaaa
