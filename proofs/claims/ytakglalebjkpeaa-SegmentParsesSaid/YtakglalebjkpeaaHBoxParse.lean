/- Texts of this claim in one: HBoxParse. What each proves, and on what conditions, its own words say. -/
import Derived.Test.YtakglalebjkpeaaHBox
import Derived.Test.YtakglalebjkpeaaHRange
import Derived.OwnWalkIn
import Derived.TacticsInMore
import Derived.LoopNIn
import Derived.LoopIn
import Derived.Shelf.Abstract
namespace Kin
open Go Go.RowKit

theorem wpListIn_appendR {F : Fence} {m : Nat} {P : Program} {w : World} {ops : Array Oper} {rest : List Oper} {o : Oper} {a : Act} {Q : Exit → Act → World → Prop} (hg : o.guard = none) (s x : Operand) (t e : TypeId) (k by_ : Nat)
    (ho : o.op = .call { callee := .builtin .append, args := #[s, x], argTypes := #[t, t] }) (ht : IsRows P t e k by_)
    (A : Option Addr) (n c : Nat) (rows : List (List Value)) (hs : a.eval s = .slice A n c) (hown : OwnR w e k A n c rows) (B : Nat) (A2 : Option Addr) (n2 c2 : Nat) (news : List (List Value)) (hx : a.eval x = .slice A2 n2 c2) (hr : Recs w B k A2 news) (hn2 : n2 = news.length)
    (hk : ∀ r ∈ news, r.length = k) (h1 : ∀ r ∈ news, ∀ u ∈ r, u.oneCell' = true) (hb : (n + n2) * by_ ≤ 140737488355328) (h63 : n + n2 ≤ maxLen)
    (h : ∀ A' c' w', OwnR w' e k A' (n + n2) c' (rows ++ news) → w.grownBy w' (blkOf A) → (blkOf A' = blkOf A ∨ blkOf A' = some w.heap.size) → wpListIn F m P ops Q rest (a.put o.dst (.slice A' (n + n2) c')) w') : wpListIn F m P ops Q (o :: rest) a w := by
  obtain ⟨A', c', w', hr, h2, h3, h4⟩ := run_appendR (P := P) w t o.type e k by_ ht A n c rows hown A2 n2 c2 news hr hn2 hk h1 hb h63
  refine wpListIn_plain hg fun K hK' => ?_
  unfold Oper.wpIn
  refine ⟨?_, ?_⟩
  · simp [Oper.about, ho, resolve, Target.leads, Sem.run_pure]
  · rw [Oper.semAt_plain F _ _ (by rw [ho]; intro c hc'; cases hc')]
    simp [execOp, ho, resolve, invoke, builtin, hs, hx, hr, Result.andThen]
    exact hK' _ _ (h A' c' w' h2 h3 h4)
section
variable {W : World} {l : Nat} {o o' : Obj}

theorem Blk.turn {g : Nat} {t : TypeId} {cs : Array Value} (h : Blk W g t cs) (hl : W.heap[l]? = some o) (ho : o.isCells = false) : Blk (W.putObj l o') g t cs := by
  refine (World.putObj_heap_other (fun e => ?_)).trans h
  subst e
  unfold Blk at h
  rw [h] at hl
  injection hl with hl
  subst hl
  cases ho
theorem cell_turn {p : Addr} {v : Value} (h : W.cell? p = some v) (hl : W.heap[l]? = some o) (ho : o.isCells = false) : (W.putObj l o').cell? p = some v :=
  cell_kept h (grownBy_putObj' W l o') (fun r e => by cases e; exact ⟨o, hl, ho⟩)
theorem Byt.turn {B : Nat} {A : Option Addr} {d : List UInt8} (h : Byt W B A d) (hl : W.heap[l]? = some o) (ho : o.isCells = false) : Byt (W.putObj l o') B A d := fun hp => by
  obtain ⟨b, off, e, hb, hc⟩ := h hp
  exact ⟨b, off, e, hb, fun j x hx => cell_turn (hc j x hx) hl ho⟩
theorem OwnR.turn {e : TypeId} {k : Nat} {A : Option Addr} {n c : Nat} {rows : List (List Value)} (h : OwnR W e k A n c rows) (hl : W.heap[l]? = some o) (ho : o.isCells = false) : OwnR (W.putObj l o') e k A n c rows :=
  ⟨h.1, h.2.1, ownsRow_putObj h.2.2 o' hl ho⟩
theorem below_turn {B : Nat} {w : World} (h : Below B w W) (hB : B ≤ l) (hl : W.heap[l]? = some o) : Below B w (W.putObj l o') :=
  h.grown (grownBy_putObj' W l o') (by have := (Array.getElem?_eq_some_iff.1 hl).1; omega) (fun k e => by cases e; exact hB)
theorem keepsO {w w' : World} (h : Below w.heap.size w w') : KeepsOthers w w' := ⟨h.size, fun k _ hk _ => (h.block k (Array.getElem?_eq_some_iff.1 hk).1).trans hk⟩
end
end Kin
namespace Bx
open Go Go.RowKit Kin

theorem own8_turn {W : World} {l : Nat} {o o' : Obj} {e : TypeId} {A : Option Addr} {n c : Nat} {d : List UInt8} (h : Own8 W e A n c d) (hl : W.heap[l]? = some o) (ho : o.isCells = false) : Own8 (W.putObj l o') e A n c d := ⟨h.1, ownsRow_putObj h.2 o' hl ho⟩
theorem OwnB.turn {W : World} {l : Nat} {o o' : Obj} {e e8 : TypeId} {A : Option Addr} {n c : Nat} {xs : List Cel} (h : OwnB W e e8 A n c xs) (hl : W.heap[l]? = some o) (ho : o.isCells = false) : OwnB (W.putObj l o') e e8 A n c xs := ⟨h.1.turn hl ho, fun x hx => own8_turn (h.2 x hx) hl ho⟩
end Bx
namespace Go.Proofs.Ytakglalebjkpeaa.C16
open Go.RowKit Kin
attribute [local go_sem] Oper.semAt_some

/-- between two rounds: the boxes that have come, and the bytes that are left -/
structure PSt (w : World) (s : List Bx.Cel × List UInt8) (W : World) : Prop where
  r0 : Blk W w.heap.size 54 #[.slice none 0 0]
  r1 : Blk W (w.heap.size + 1) 32 #[.int .i64 0]
  v : ∃ A n c, Blk W (w.heap.size + 2) 54 #[.slice A n c] ∧ Bx.OwnB W 53 5 A n c s.1 ∧ (∀ k, blkOf A = some k → w.heap.size ≤ k)
  b : ∃ A n c, Blk W (w.heap.size + 3) 31 #[.slice A n c] ∧ n = s.2.length ∧ n ≤ c ∧ Byt W w.heap.size A s.2
  bel : Below w.heap.size w W
/-- a round has said: no more -/
structure PEnd (w : World) (W : World) : Prop where
  r0 : Blk W w.heap.size 54 #[.slice none 0 0]
  r1 : Blk W (w.heap.size + 1) 32 #[.int .i64 161]
  bel : Below w.heap.size w W
theorem PSt.turn (w : World) (s : List Bx.Cel × List UInt8) {B : Nat} (hB : w.heap.size ≤ B) : Bides B (PSt w s) := fun W l o o' h hl hh ho => by
  obtain ⟨r0, r1, ⟨A, n, c, v1, v2, v3⟩, ⟨A2, n2, c2, b1, b2, b3, b4⟩, bel⟩ := h
  exact ⟨r0.turn hh ho, r1.turn hh ho, ⟨A, n, c, v1.turn hh ho, v2.turn hh ho, v3⟩, ⟨A2, n2, c2, b1.turn hh ho, b2, b3, b4.turn hh ho⟩, below_turn bel (Nat.le_trans hB hl) hh⟩
theorem PEnd.turn (w : World) {B : Nat} (hB : w.heap.size ≤ B) : Bides B (PEnd w) := fun _ _ _ _ h hl hh ho =>
  ⟨h.r0.turn hh ho, h.r1.turn hh ho, below_turn h.bel (Nat.le_trans hB hl) hh⟩
theorem PSt.below {w W W' : World} {s : List Bx.Cel × List UInt8} (h : PSt w s W) (hb : Below W.heap.size W W') : PSt w s W' := by
  obtain ⟨r0, r1, ⟨A, n, c, v1, v2, v3⟩, ⟨A2, n2, c2, b1, b2, b3, b4⟩, bel⟩ := h
  exact ⟨r0.below hb r0.lt, r1.below hb r1.lt, ⟨A, n, c, v1.below hb v1.lt, v2.next hb, v3⟩, ⟨A2, n2, c2, b1.below hb b1.lt, b2, b3, b4.below (hb.mono bel.size)⟩, bel.trans (hb.mono bel.size)⟩

theorem byt_set {W : World} {B : Nat} {A : Option Addr} {d : List UInt8} {g : Nat} {t : TypeId} {v u : Value} (h : Byt W B A d) (hg : Blk W g t #[v]) (hv : ∀ z, v ≠ .int .u8 z) : Byt (W.setCell ⟨g, 0, none⟩ u) B A d := fun hp => by
  obtain ⟨b, off, e, hb, hc⟩ := h hp
  refine ⟨b, off, e, hb, fun j x hx => ?_⟩
  have h1 := hc j x hx
  by_cases hbg : b = g
  · subst hbg
    exfalso
    rw [hg.cell] at h1
    rcases hz : off + j with _ | k
    · rw [hz] at h1; simp at h1; exact hv _ h1
    · rw [hz] at h1; simp at h1
  · exact (World.cell?_of_block (a := ⟨b, off + j, none⟩) (Below.heap_setCell W ⟨g, 0, none⟩ u b hbg)).trans h1
theorem ownR_set {W : World} {e : TypeId} {k : Nat} {A : Option Addr} {n c : Nat} {rows : List (List Value)} {g : Nat} {t : TypeId} {cs : Array Value} (h : OwnR W e k A n c rows) (hg : Blk W g t cs) (hne : e ≠ t) (u : Value) : OwnR (W.setCell ⟨g, 0, none⟩ u) e k A n c rows := by
  refine Chg.ownR (S := fun k => k = g) ((Chg.refl (fun k => k = g) W).setCell (p := ⟨g, 0, none⟩) (.inl rfl) u) h ?_
  rintro k hk rfl
  exact h.ne_blk hg hne hk
theorem own8_set {W : World} {e : TypeId} {A : Option Addr} {n c : Nat} {d : List UInt8} {g : Nat} {t : TypeId} {cs : Array Value} (h : Own8 W e A n c d) (hg : Blk W g t cs) (hne : e ≠ t) (u : Value) : Own8 (W.setCell ⟨g, 0, none⟩ u) e A n c d :=
  h.setFar (p := ⟨g, 0, none⟩) (far8 h hg hne) u
theorem ownB_set {W : World} {e e8 : TypeId} {A : Option Addr} {n c : Nat} {xs : List Bx.Cel} {g : Nat} {t : TypeId} {cs : Array Value} {u : Value} (h : Bx.OwnB W e e8 A n c xs) (hg : Blk W g t cs) (hne : e ≠ t) (hne8 : e8 ≠ t) : Bx.OwnB (W.setCell ⟨g, 0, none⟩ u) e e8 A n c xs :=
  ⟨ownR_set h.1 hg hne u, fun x hx => own8_set (h.2 x hx) hg hne8 u⟩
theorem PSt.setB {w W : World} {s : List Bx.Cel × List UInt8} (h : PSt w s W) (A : Option Addr) (n c : Nat) (r : List UInt8) (hn : n = r.length) (hc : n ≤ c) (hb : Byt W w.heap.size A r) : PSt w (s.1, r) (W.setCell ⟨w.heap.size + 3, 0, none⟩ (.slice A n c)) := by
  obtain ⟨r0, r1, ⟨A1, n1, c1, v1, v2, v3⟩, ⟨A2, n2, c2, b1, b2, b3, b4⟩, bel⟩ := h
  exact ⟨r0.far (p := ⟨w.heap.size + 3, 0, none⟩) (show w.heap.size ≠ w.heap.size + 3 by omega) _, r1.far (p := ⟨w.heap.size + 3, 0, none⟩) (show w.heap.size + 1 ≠ w.heap.size + 3 by omega) _,
    ⟨A1, n1, c1, v1.far (p := ⟨w.heap.size + 3, 0, none⟩) (show w.heap.size + 2 ≠ w.heap.size + 3 by omega) _, ownB_set v2 b1 (by decide) (by decide), v3⟩,
    ⟨A, n, c, b1.set_ 0 _, hn, hc, byt_set hb b1 (by simp)⟩, bel.setCell (p := ⟨w.heap.size + 3, 0, none⟩) (show w.heap.size ≤ w.heap.size + 3 by omega) _⟩

theorem makeF (w : World) (g : Nat) (cap : Array Value) : Sem.run Try.prog (Instr.makeFunc (Fn.func g) #[] cap) w = .ok (.func (.func g) #[] cap) w := rfl
set_option maxRecDepth 100000 in
theorem boxes_calls (A : Option Addr) (n c : Nat) (w : World) : Calls Try.prog 71 #[.slice A n c] w fun e w' => e = .returned (.func (.func 81) #[] #[.pointer (some ⟨w.heap.size, 0, none⟩)]) ∧ w.alloc (.cells #[.slice A n c] 31) = w' := by
  have mk := makeF
  go_enter Try.func71, Try.ntmps71
  go_wp2
  go_ret
  exact ⟨rfl, rfl⟩

/-- how many bytes are left -/
def leftN (w : World) (g : Nat) : Nat := match w.cell? ⟨g, 0, none⟩ with
  | some (.slice _ n _) => n
  | _ => 0
theorem leftN_of {w : World} {g : Nat} {t : TypeId} {A : Option Addr} {n c : Nat} (h : Blk w g t #[.slice A n c]) : leftN w g = n := by
  unfold leftN
  rw [show w.cell? ⟨g, 0, none⟩ = some (.slice A n c) from h.cell 0]

/-- what is yielded: a box, and whether it is one -/
abbrev bxE (x : Bx.Cel × Bool) : Array Value := #[boxV x.1.t x.1.A x.1.n x.1.c, .bool x.2]
def zcel : Bx.Cel := ⟨⟨#[]⟩, none, 0, 0, []⟩
theorem zcel_own (w : World) (e : TypeId) : zcel.own w e := Own8.nil w e

set_option maxRecDepth 100000 in
set_option maxHeartbeats 2000000 in
theorem iter_in (w : World) (m : List UInt8) (hm : m.length ≤ 1099511627776) (n : Nat) (l : Nat) (B Bx' : World → Prop) (hB : ∀ W W', B W → KeepsOthers W W' → B W')
    (hY : ∀ s x W, PSt w s W → (x.1.own W 5 ∧ s.1.length ≤ 1099511627776) → B W → YieldAt Fence.wide (n - 1) Try.prog l (bxE x) W fun e W' => (e = .returned (.bool true) ∧ x.2 = true ∧ PSt w (s.1 ++ [x.1], s.2) W' ∧ B W') ∨ (e = .returned (.bool false) ∧ x.2 = false ∧ PEnd w W' ∧ Bx' W'))
    (W : World) (h0 : PSt w ([], m) W) (hb0 : B W) :
    CallsIn Fence.wide n Try.prog 81 #[.func (.yield l) #[] #[], .pointer (some ⟨w.heap.size + 3, 0, none⟩)] W fun e W' => (∃ v, e = .returned v) ∧ ((∃ s : List Bx.Cel × List UInt8, (Bx.even m = true ∧ Bx.boxs s.1 = Bx.boxes m) ∧ PSt w s W' ∧ B W') ∨ (Bx.even m = false ∧ PEnd w W' ∧ Bx' W')) := by
  refine callsIn_of_wp Try.func81 rfl trivial ?_ rfl
  simp only [Try.ntmps81, List.size_toArray, List.length_cons, List.length_nil, Nat.reduceAdd, Nat.reduceSub, Array.replicate_succ, Array.replicate_zero, List.push_toArray, List.append_toArray, List.nil_append, List.cons_append]
  have HM := hide hm
  clear hm
  gi_wp2
  gi_loopw [] (fun wr => ∃ (pre : List Bx.Cel) (rest : List UInt8), PSt w (pre, rest) wr ∧ B wr ∧ Hid (Bx.boxes m = Bx.boxs pre ++ Bx.boxes rest) ∧ Hid (Bx.even m = Bx.even rest) ∧ rest.length ≤ 1099511627776) (fun wr => leftN wr (w.heap.size + 3))
  case atStart => exact ⟨[], m, h0, hb0, rfl, rfl, HM⟩
  case round =>
    obtain ⟨pre, rest, hP, hBw, hbx, hev, hrl⟩ := hrel
    have hP' := hP
    have HPL : Hid (pre.length ≤ 1099511627776) := by
      have h1 := congrArg List.length hbx.out
      rw [List.length_append, Bx.length_boxs] at h1
      have h2 := Bx.length_boxes m
      have h3 := HM.out
      show _ ≤ _
      omega
    obtain ⟨r0, r1, ⟨A, n1, c, v1, v2, v3⟩, ⟨A2, n2, c2, b1, b2, b3, b4⟩, bel⟩ := hP'
    have HL := hide b2
    dsimp only at HL b4
    have k0 : wr.cell? ⟨w.heap.size + 3, 0, none⟩ = some (.slice A2 n2 c2) := b1.cell 0
    have hn2 : n2 ≤ 1099511627776 := by have := HL.out; omega
    have HLN := hide (leftN_of b1)
    clear b2 r0 r1 v1 v2 v3
    by_cases hz : n2 = 0
    · have hr0 : rest = [] := List.eq_nil_of_length_eq_zero (by rw [← HL.out]; exact hz)
      subst hz
      have HE : Hid (Bx.even m = true) := hev.out.trans (by rw [hr0]; rfl)
      have HX : Hid (Bx.boxs pre = Bx.boxes m) := by rw [hbx.out, hr0]; simp [Bx.boxes_no, Bx.firstN_small, Hid]
      gi_wp2
      go_end0
      exact ⟨⟨_, rfl⟩, .inl ⟨(pre, rest), ⟨HE.out, HX.out⟩, hP, hBw⟩⟩
    · have hpos : (0 : Int) < (n2 : Int) := by omega
      have hfi := first_calls A2 n2 c2 rest wr HL.out b3 hn2 (b4.more bel.size)
      gi_wp2
      refine ⟨trivial, fun h => by simp [Fence.wide] at h, (callsIn_wide.2 hfi).mono ?_⟩
      rintro e w2 (⟨hf, rfl, e2⟩ | ⟨hf, A3, n3, c3, rfl, o3, g3, e2⟩)
      · -- no box
        have P2 := (hP.below e2).below ((Below.refl w2.heap.size w2).alloc (Nat.le_refl _) (.cells #[.string ⟨#[]⟩, .slice none 0 0] 53))
        have B2 := hB _ _ (hB _ _ hBw (keepsO e2)) (KeepsOthers.alloc w2 (.cells #[.string ⟨#[]⟩, .slice none 0 0] 53))
        obtain ⟨fn, tmps, assign, body, hy, hR⟩ := hY (pre, rest) (zcel, false) _ P2 ⟨zcel_own _ _, HPL.out⟩ B2
        dsimp only [bxE, zcel] at hy
        have HEV : Hid (Bx.even m = false) := hev.out.trans (Bx.even_no (by rw [← HL.out]; omega) hf)
        clear hf k0 hfi
        gi_wp2
        refine ⟨fun h => by simp [Fence.wide] at h, hR.mono ?_⟩
        rintro e W3 (⟨rfl, hc, _⟩ | ⟨rfl, _, hE, hBx3⟩)
        · cases hc
        · gi_wp2
          refine bodyPost_ret (results_none rfl _ _ _) rfl ?_
          exact ⟨⟨_, rfl⟩, .inr ⟨HEV.out, hE, hBx3⟩⟩
      · have P2 := (hP.below e2).below ((Below.refl w2.heap.size w2).alloc (Nat.le_refl _) (.cells #[.string (Bx.firstT rest), .slice A3 n3 c3] 53))
        have B2 := hB _ _ (hB _ _ hBw (keepsO e2)) (KeepsOthers.alloc w2 (.cells #[.string (Bx.firstT rest), .slice A3 n3 c3] 53))
        have O2 := o3.alloc (.cells #[.string (Bx.firstT rest), .slice A3 n3 c3] 53)
        obtain ⟨fn, tmps, assign, body, hy, hR⟩ := hY (pre, rest) (⟨Bx.firstT rest, A3, n3, c3, Bx.firstD rest⟩, true) _ P2 ⟨O2, HPL.out⟩ B2
        dsimp only [bxE] at hy
        obtain ⟨f1, f2, f3, f4, _⟩ := Bx.firstN_ge hf
        have HBX : Hid (Bx.boxes m = Bx.boxs (pre ++ [⟨Bx.firstT rest, A3, n3, c3, Bx.firstD rest⟩]) ++ Bx.boxes (rest.drop (Bx.firstN rest))) := by
          show _ = _
          rw [hbx.out, Bx.boxes_yes hf, Bx.boxs_append]
          simp [Bx.boxs, Bx.Cel.box]
        have HEV : Hid (Bx.even m = Bx.even (rest.drop (Bx.firstN rest))) := hev.out.trans (Bx.even_yes hf)
        have hk1 : Bx.firstN rest ≤ n2 := by have := HL.out; omega
        have hk2 : 8 ≤ Bx.firstN rest := by omega
        have hk0 : ¬ (Bx.firstN rest : Int) = 0 := by omega
        have HLr : Hid ((rest.drop (Bx.firstN rest)).length = n2 - Bx.firstN rest) := by show _ = _; rw [List.length_drop, ← HL.out]
        have q0 := (Blk.new w2 53 #[.string (Bx.firstT rest), .slice A3 n3 c3])
        have q1 : (w2.alloc (.cells #[.string (Bx.firstT rest), .slice A3 n3 c3] 53)).cell? ⟨w2.heap.size, 0, none⟩ = some (.string (Bx.firstT rest)) := q0.cell 0
        clear k0 hfi f1 f2 f3 f4 hf
        generalize Bx.firstN rest = kk at *
        generalize Bx.firstT rest = T at *
        generalize Bx.firstD rest = Dd at *
        gi_wp2
        refine ⟨fun h => by simp [Fence.wide] at h, hR.mono ?_⟩
        rintro e W3 (⟨rfl, _, P3, B3⟩ | ⟨rfl, hc, _⟩)
        · have P3' := P3
          obtain ⟨_, _, _, ⟨A4, n4, c4, d1, d2, d3, d4⟩, bel3⟩ := P3'
          dsimp only at d2 d4
          have hn4 : n4 = n2 := by rw [d2, HL.out]
          subst hn4
          clear d2
          have k3 : W3.cell? ⟨w.heap.size + 3, 0, none⟩ = some (.slice A4 n4 c4) := d1.cell 0
          have kf := d1.frozen 0
          have hs1 : ∀ w', Sem.run Try.prog (Instr.sliceAt 31 (.slice A4 n4 c4) (some (.int .i64 (kk : Int))) none none) w' = .ok (.slice (cutA A4 c4 kk) (n4 - kk) (c4 - kk)) w' := fun w' => run_cut8l bytesT A4 n4 c4 .i64 kk _ rfl (by omega) w'
          have d5 := d4.cut kk (c := c4) (by rw [← HL.out]; exact d3)
          have P5 := P3.setB (cutA A4 c4 kk) (n4 - kk) (c4 - kk) (rest.drop kk) HLr.out.symm (by omega) d5
          have B5 := hB _ _ B3 (KeepsOthers.setCell W3 ⟨w.heap.size + 3, 0, none⟩ (.slice (cutA A4 c4 kk) (n4 - kk) (c4 - kk)))
          have HM5 := hide (leftN_of (d1.set_ 0 (.slice (cutA A4 c4 kk) (n4 - kk) (c4 - kk))))
          gi_wp2
          go_roundw
          case rel => exact ⟨_, _, P5, B5, HBX, HEV, by rw [HLr.out]; omega⟩
          case measure => rw [HM5.out, HLN.out]; omega
        · cases hc
end Go.Proofs.Ytakglalebjkpeaa.C16
namespace Go.Proofs.Ytakglalebjkpeaa.C16
open Go.RowKit Kin Go.Shelf
attribute [local go_sem] Oper.semAt_some

/-- boxes of the call's own, or an error -/
def RetParse (w : World) (m : List UInt8) (e : Ending) (w' : World) : Prop :=
  (Bx.even m = true ∧ ∃ A n c xs, e = .returned (.tuple #[.slice A n c, .int .i64 0]) ∧ Bx.OwnB w' 53 5 A n c xs ∧ Bx.boxs xs = Bx.boxes m ∧ (∀ g, blkOf A = some g → w.heap.size ≤ g) ∧ Below w.heap.size w w') ∨
  (Bx.even m = false ∧ e = .returned (.tuple #[.slice none 0 0, .int .i64 161]) ∧ Below w.heap.size w w')

/-- a round's frame and its box -/
def PRd (w : World) (A : Option Addr) (n c : Nat) (s : List Bx.Cel × List UInt8) (x : Bx.Cel × Bool) (a : Act) (W : World) : Prop :=
  ∃ gx, PSt w s W ∧ (x.1.own W 5 ∧ s.1.length ≤ 1099511627776) ∧ Blk W gx 53 #[.string x.1.t, .slice x.1.A x.1.n x.1.c] ∧
    a = { tmps := #[.slice A n c, undef, .pointer (some ⟨w.heap.size, 0, none⟩), .pointer (some ⟨w.heap.size + 1, 0, none⟩), .pointer (some ⟨w.heap.size + 1 + 1, 0, none⟩), .pointer (some ⟨gx, 0, none⟩), .bool x.2, .slice A n c, .func (.func 81) #[] #[.pointer (some ⟨w.heap.size + 1 + 1 + 1, 0, none⟩)], boxV x.1.t x.1.A x.1.n x.1.c, .bool x.2, undef, undef, undef, undef, undef, undef, undef], defers := [] }
theorem PRd.turn (w : World) (A : Option Addr) (n c : Nat) (s : List Bx.Cel × List UInt8) (x : Bx.Cel × Bool) (a : Act) {B : Nat} (hB : w.heap.size ≤ B) : Bides B (PRd w A n c s x a) := by
  rintro W l o o' ⟨gx, h1, h2, h3, h4⟩ hl hh ho
  exact ⟨gx, PSt.turn w s hB W l o o' h1 hl hh ho, ⟨Bx.own8_turn h2.1 hh ho, h2.2⟩, h3.turn hh ho, h4⟩

theorem ownR_cells {w : World} {e : TypeId} {k : Nat} {A : Option Addr} {n c : Nat} {rows : List (List Value)} (h : OwnR w e k A n c rows) (j : Nat) (o : Obj) (hj : blkOf A = some j) (ho : w.heap[j]? = some o) : o.isCells = true := by
  rcases h.2.2.2 with ⟨hv, _⟩ | ⟨g, cap, cur, hv, _, hh, _⟩
  · injection hv with hA; subst hA; cases hj
  · injection hv with hA
    subst hA
    have : g = j := by simpa [blkOf] using hj
    subst this
    rw [hh] at ho
    injection ho with ho
    subst ho
    rfl
/-- a box more -/
theorem PSt.app {w W w2 : World} {s : List Bx.Cel × List UInt8} {x : Bx.Cel} {A1 A2 : Option Addr} {n1 c1 c2 : Nat} {O : Obj} (h : PSt w s W) (v1 : Blk W (w.heap.size + 2) 54 #[.slice A1 n1 c1]) (v2 : Bx.OwnB W 53 5 A1 n1 c1 s.1) (v3 : ∀ k, blkOf A1 = some k → w.heap.size ≤ k) (hok : x.own W 5)
    (own2 : OwnR w2 53 2 A2 (n1 + 1) c2 (s.1.map Bx.Cel.row ++ [x.row])) (grow2 : (W.alloc O).grownBy w2 (blkOf A1)) (at2 : blkOf A2 = blkOf A1 ∨ blkOf A2 = some (W.alloc O).heap.size) :
    KeepsOthers W (w2.setCell ⟨w.heap.size + 2, 0, none⟩ (.slice A2 (n1 + 1) c2)) ∧ PSt w (s.1 ++ [x], s.2) (w2.setCell ⟨w.heap.size + 2, 0, none⟩ (.slice A2 (n1 + 1) c2)) := by
  obtain ⟨r0, r1, _, ⟨A3, n3, c3, b1, b2, b3, b4⟩, bel⟩ := h
  have hb1 : Below W.heap.size W (W.alloc O) := (Below.refl _ _).alloc (Nat.le_refl _) _
  have ow1 := v2.1.alloc O
  have nr : ∀ {g : Nat} {t : TypeId} {cs : Array Value}, Blk (W.alloc O) g t cs → 53 ≠ t → some g ≠ blkOf A1 := fun hg hne => Ne.symm (ow1.ne_blk hg hne)
  have s0 := (r0.alloc O).grown grow2 (nr (r0.alloc O) (by decide))
  have s1 := (r1.alloc O).grown grow2 (nr (r1.alloc O) (by decide))
  have s2 := (v1.alloc O).grown grow2 (nr (v1.alloc O) (by decide))
  have s3 := (b1.alloc O).grown grow2 (nr (b1.alloc O) (by decide))
  have belA := bel.alloc bel.size O
  have bel2 : Below w.heap.size w w2 := belA.grown grow2 belA.size v3
  have ok8 : ∀ y : Bx.Cel, y.own W 5 → y.own w2 5 := fun y hy => by
    have hy1 : Own8 (W.alloc O) 5 y.A y.n y.c y.d := Own8.alloc hy O
    refine hy1.kept grow2 ?_
    rcases e : blkOf y.A with _ | g
    · exact .inl rfl
    · refine .inr fun e2 => ?_
      exact ow1.ne_own hy1 (by decide) g e2.symm e
  have b5 : Byt w2 w.heap.size A3 s.2 := b4.below (((Below.refl w.heap.size W).alloc bel.size O).grown grow2 (Nat.le_trans bel.size hb1.size) v3)
  have hall : ∀ y ∈ s.1 ++ [x], y.own w2 5 := fun y hy => by
    rcases List.mem_append.1 hy with h | h
    · exact ok8 y (v2.2 y h)
    · rw [List.mem_singleton.1 h]; exact ok8 x hok
  have own3 : OwnR w2 53 2 A2 (n1 + 1) c2 ((s.1 ++ [x]).map Bx.Cel.row) := by rw [List.map_append]; exact own2
  refine ⟨(KeepsOthers.alloc W O).trans ((KeepsOthers.of_grownBy grow2 (ownR_cells ow1)).trans (KeepsOthers.setCell _ _ _)), ?_⟩
  refine ⟨s0.far (p := ⟨w.heap.size + 2, 0, none⟩) (show w.heap.size ≠ w.heap.size + 2 by omega) _, s1.far (p := ⟨w.heap.size + 2, 0, none⟩) (show w.heap.size + 1 ≠ w.heap.size + 2 by omega) _,
    ⟨A2, n1 + 1, c2, s2.set_ 0 _, ⟨ownR_set own3 s2 (by decide) _, fun y hy => own8_set (hall y hy) s2 (by decide) _⟩, ?_⟩,
    ⟨A3, n3, c3, s3.far (p := ⟨w.heap.size + 2, 0, none⟩) (show w.heap.size + 3 ≠ w.heap.size + 2 by omega) _, b2, b3, byt_set b5 s2 (by simp)⟩, bel2.setCell (p := ⟨w.heap.size + 2, 0, none⟩) (show w.heap.size ≤ w.heap.size + 2 by omega) _⟩
  intro k hk
  rcases at2 with e | e
  · exact v3 k (by rw [← e]; exact hk)
  · rw [hk] at e; injection e with e; rw [e]; exact Nat.le_trans bel.size hb1.size

set_option maxRecDepth 100000 in
set_option maxHeartbeats 2000000 in
theorem parse_calls (A : Option Addr) (n c : Nat) (m : List UInt8) (w : World) (hn : n = m.length) (hc : n ≤ c) (hm : n ≤ 1099511627776) (hA : Byt w w.heap.size A m) :
    Calls Try.prog 44 #[.slice A n c] w (RetParse w m) := by
  have HN := hide hn
  clear hn
  refine (callsIn_wide (n := 6)).1 ?_
  refine callsIn_of_wp_marks Try.func44 rfl trivial ?_ rfl
  simp only [Try.ntmps44, List.size_toArray, List.length_cons, List.length_nil, Nat.reduceAdd, Nat.reduceSub, Array.replicate_succ, Array.replicate_zero, List.push_toArray, List.append_toArray, List.nil_append, List.cons_append]
  gi_wp2
  refine ⟨trivial, (callsIn_wide.2 (boxes_calls A n c _)).mono ?_⟩
  rintro e w4 ⟨rfl, rfl⟩
  have q0 := (((Blk.new w 54 #[.slice none 0 0]).alloc (.cells #[.int .i64 0] 32)).alloc (.cells #[.slice none 0 0] 54)).alloc (.cells #[.slice A n c] 31)
  have q1 := ((Blk.new (w.alloc (.cells #[.slice none 0 0] 54)) 32 #[.int .i64 0]).alloc (.cells #[.slice none 0 0] 54)).alloc (.cells #[.slice A n c] 31)
  have q2 := (Blk.new ((w.alloc (.cells #[.slice none 0 0] 54)).alloc (.cells #[.int .i64 0] 32)) 54 #[.slice none 0 0]).alloc (.cells #[.slice A n c] 31)
  have q3 := Blk.new (((w.alloc (.cells #[.slice none 0 0] 54)).alloc (.cells #[.int .i64 0] 32)).alloc (.cells #[.slice none 0 0] 54)) 31 #[.slice A n c]
  have qb : Below w.heap.size w ((((w.alloc (.cells #[.slice none 0 0] 54)).alloc (.cells #[.int .i64 0] 32)).alloc (.cells #[.slice none 0 0] 54)).alloc (.cells #[.slice A n c] 31)) := ((((Below.refl _ w).alloc (Nat.le_refl _) _).alloc (by simp) _).alloc (by simp; omega) _).alloc (by simp; omega) _
  simp only [World.size_alloc] at q1 q2 q3
  have P0 : PSt w ([], m) ((((w.alloc (.cells #[.slice none 0 0] 54)).alloc (.cells #[.int .i64 0] 32)).alloc (.cells #[.slice none 0 0] 54)).alloc (.cells #[.slice A n c] 31)) :=
    ⟨q0, q1, ⟨none, 0, 0, q2, Bx.OwnB.nil _ _ _, by simp [blkOf]⟩, ⟨A, n, c, q3, HN.out, hc, hA.below qb⟩, qb⟩
  have hsz : w.heap.size ≤ ((((w.alloc (.cells #[.slice none 0 0] 54)).alloc (.cells #[.int .i64 0] 32)).alloc (.cells #[.slice none 0 0] 54)).alloc (.cells #[.slice A n c] 31)).heap.size := qb.size
  clear q0 q1 q2 q3 qb hA
  gi_wp2
  generalize (((w.alloc (.cells #[.slice none 0 0] 54)).alloc (.cells #[.int .i64 0] 32)).alloc (.cells #[.slice none 0 0] 54)).alloc (.cells #[.slice A n c] 31) = W0 at *
  refine range_law (n := 6) rfl (by omega) (gf := 81) (lb := #[.pointer (some ⟨w.heap.size + 1 + 1 + 1, 0, none⟩)]) rfl trivial (enters_of Try.func81 (by kernel_rfl) rfl) bxE (fun _ => rfl)
    (PSt w) (PEnd w) (fun s x => (s.1 ++ [x.1], s.2)) (fun s x W => x.1.own W 5 ∧ s.1.length ≤ 1099511627776) (PRd w A n c) (fun s => Bx.even m = true ∧ Bx.boxs s.1 = Bx.boxes m) (fun _ x => x.2 = true) (fun _ x => x.2 = false) (Bx.even m = false) ([], m)
    (fun s => PSt.turn w s hsz) (PEnd.turn w hsz) (fun s x a' => PRd.turn w A n c s x a' hsz)
    (fun r => (P0.below ((Below.refl _ _).alloc (Nat.le_refl _) _)).below ((Below.refl _ _).alloc (Nat.le_refl _) _)) ?assign ?body
    (fun l B Bx hB _ hY W hI hBW => iter_in w m (by have := HN.out; omega) 5 l B Bx hB hY W hI hBW) ?done ?stop
  case assign =>
    rintro l s ⟨x, b⟩ W K hI hok hK
    gi_wp2
    have hb : Below W.heap.size W (W.alloc (.cells #[.string x.t, .slice x.A x.n x.c] 53)) := (Below.refl _ _).alloc (Nat.le_refl _) _
    exact hK _ _ (KeepsOthers.alloc _ _) ⟨W.heap.size, hI.below hb, ⟨Own8.below hok.1 hb (Own8.lt hok.1), hok.2⟩, Blk.new _ _ _, rfl⟩
  case body =>
    rintro l s ⟨x, b⟩ a' W ⟨gx, hP, ⟨hok, hsl⟩, hbk, rfl⟩
    obtain ⟨r0, r1, ⟨A1, n1, c1, v1, v2, v3⟩, hb, bel⟩ := hP
    dsimp only at hok hbk
    cases b
    · have k0 : W.cell? ⟨w.heap.size, 0, none⟩ = some (.slice none 0 0) := r0.cell 0
      have k1 : W.cell? ⟨w.heap.size + 1, 0, none⟩ = some (.int .i64 0) := r1.cell 0
      have f0 := r0.frozen 0
      have f1 := r1.frozen 0
      gi_wp2
      have e0 := (r0.set_ 0 (.slice none 0 0)).far (p := ⟨w.heap.size + 1, 0, none⟩) (show w.heap.size ≠ w.heap.size + 1 by omega) (.int .i64 161)
      have e1 := (r1.far (p := ⟨w.heap.size, 0, none⟩) (show w.heap.size + 1 ≠ w.heap.size by omega) (.slice none 0 0)).set_ 0 (.int .i64 161)
      have eb := (bel.setCell (p := ⟨w.heap.size, 0, none⟩) (Nat.le_refl _) (.slice none 0 0)).setCell (p := ⟨w.heap.size + 1, 0, none⟩) (Nat.le_succ _) (.int .i64 161)
      exact ⟨(KeepsOthers.setCell _ _ _).trans (KeepsOthers.setCell _ _ _), e0, e1, eb⟩
    · have k0 : W.cell? ⟨w.heap.size + 1 + 1, 0, none⟩ = some (.slice A1 n1 c1) := v1.cell 0
      have k1 : W.cell? ⟨gx, 0, none⟩ = some (.string x.t) := hbk.cell 0
      have k2 : W.cell? ⟨gx, 1, none⟩ = some (.slice x.A x.n x.c) := hbk.cell 1
      have f0 := v1.frozen 0
      have hn1 : n1 ≤ 1099511627776 := by rw [v2.len]; exact hsl
      have hb1 : Below W.heap.size W (W.alloc (.cells #[.string x.t, .slice x.A x.n x.c] 53)) := (Below.refl _ _).alloc (Nat.le_refl _) _
      have vV := v1.below hb1 v1.lt
      gi_wp2_with (gi_at_builtin; refine wpListIn_appendR (by rfl) (.tmp 13) (.tmp 15) 54 53 2 40 (by rfl) boxesT _ _ _ _ (by rfl) (v2.1.alloc _) _ _ _ _ [x.row] (by rfl) (Recs.new _ _ _ _ _ _ rfl rfl) (by rfl) (by simp [Bx.Cel.row]) (by simp [Bx.Cel.row, Value.oneCell']) (by omega) (by unfold maxLen; omega) ?_; intro A2 c2 w2 own2 grow2 at2; have v12 := vV.grown grow2 (Ne.symm ((v2.1.alloc _).ne_blk vV (by decide))); have k3 : w2.cell? ⟨w.heap.size + 1 + 1, 0, none⟩ = some (.slice A1 n1 c1) := v12.cell 0; have f2 : w2.frozen? ⟨w.heap.size + 1 + 1, 0, none⟩ = false := v12.frozen 0)
      exact PSt.app ⟨r0, r1, ⟨A1, n1, c1, v1, v2, v3⟩, hb, bel⟩ v1 v2 v3 hok own2 grow2 at2
  case done =>
    rintro D s W hD ⟨h1, h2⟩ hP hK
    have hP' := hP
    obtain ⟨r0, r1, ⟨A1, n1, c1, v1, v2, v3⟩, hb, bel⟩ := hP'
    have k0 : W.cell? ⟨w.heap.size, 0, none⟩ = some (.slice none 0 0) := r0.cell 0
    have k1 : W.cell? ⟨w.heap.size + 1, 0, none⟩ = some (.int .i64 0) := r1.cell 0
    have k2 : W.cell? ⟨w.heap.size + 1 + 1, 0, none⟩ = some (.slice A1 n1 c1) := v1.cell 0
    have f0 := r0.frozen 0
    have f1 := r1.frozen 0
    gi_wp2
    have e0 := (r0.set_ 0 (.slice A1 n1 c1)).far (p := ⟨w.heap.size + 1, 0, none⟩) (show w.heap.size ≠ w.heap.size + 1 by omega) (.int .i64 0)
    have e1 := (r1.far (p := ⟨w.heap.size, 0, none⟩) (show w.heap.size + 1 ≠ w.heap.size by omega) (.slice A1 n1 c1)).set_ 0 (.int .i64 0)
    have eb := (bel.setCell (p := ⟨w.heap.size, 0, none⟩) (Nat.le_refl _) (.slice A1 n1 c1)).setCell (p := ⟨w.heap.size + 1, 0, none⟩) (Nat.le_succ _) (.int .i64 0)
    have eo := ownB_set (u := .int .i64 0) (ownB_set (u := .slice A1 n1 c1) v2 r0 (by decide) (by decide)) (r1.far (p := ⟨w.heap.size, 0, none⟩) (show w.heap.size + 1 ≠ w.heap.size by omega) (.slice A1 n1 c1)) (by decide) (by decide)
    have hK' := ((KeepsOthers.setCell W ⟨w.heap.size, 0, none⟩ (.slice A1 n1 c1)).trans (KeepsOthers.setCell _ ⟨w.heap.size + 1, 0, none⟩ (.int .i64 0))).same D _ hK rfl
    refine ⟨by simp, .inl ⟨_, _, rfl, run_takeDeferred hK', ?_⟩⟩
    have z0 := (e0.turn (o' := .deferred none) hK' rfl).cell 0
    have z1 := (e1.turn (o' := .deferred none) hK' rfl).cell 0
    refine ⟨.tuple #[.slice A1 n1 c1, .int .i64 0], ?_, .inl ⟨h1, A1, n1, c1, s.1, rfl, eo.turn hK' rfl, h2, v3, below_turn eb (Nat.le_trans hsz hD) hK'⟩⟩
    generalize (((W.setCell ⟨w.heap.size, 0, none⟩ (.slice A1 n1 c1)).setCell ⟨w.heap.size + 1, 0, none⟩ (.int .i64 0)).putObj D (.deferred none)) = V at *
    have z2 : V.cell? ⟨w.heap.size, 0, none⟩ = some (.slice A1 n1 c1) := z0
    have z3 : V.cell? ⟨w.heap.size + 1, 0, none⟩ = some (.int .i64 0) := z1
    simp [results, Try.f44, go_sem, z2, z3]
  case stop =>
    rintro D W hD h1 hP hK
    gi_wp2
    refine ⟨by simp, .inl ⟨_, _, rfl, run_takeDeferred hK, ?_⟩⟩
    have k0 : (W.putObj D (.deferred none)).cell? ⟨w.heap.size, 0, none⟩ = some (.slice none 0 0) := (hP.r0.turn hK rfl).cell 0
    have k1 : (W.putObj D (.deferred none)).cell? ⟨w.heap.size + 1, 0, none⟩ = some (.int .i64 161) := (hP.r1.turn hK rfl).cell 0
    refine ⟨.tuple #[.slice none 0 0, .int .i64 161], ?_, .inr ⟨h1, rfl, below_turn hP.bel (Nat.le_trans hsz hD) hK⟩⟩
    simp [results, Try.f44, go_sem, k0, k1]
end Go.Proofs.Ytakglalebjkpeaa.C16
