/- Texts of this claim in one: HNet. What each proves, and on what conditions, its own words say. -/
import Derived.Test.YtbfhpgpceakeiaaGreatDoorOwnR
import Derived.Test.YtbfhpgpceakeiaaGreatDoorObj
import Derived.Test.YtbfhpgpceakeiaaGreatDoorCut
import Derived.Deep.RegionLaw
import Derived.Deep.RegionHeld3
import Derived.Handy
import Derived.Test.YtbfhpgpceakeiaaGreatDoorHBits
import Derived.Test.YtbfhpgpceakeiaaGreatDoorHPlain
import Derived.Test.YtbfhpgpceakeiaaGreatDoorAppS
import Derived.Test.YtbfhpgpceakeiaaGreatDoorHParse
namespace Kin
open Go Go.RowKit
theorem step_appendR' {P : Program} {w : World} {ops : Array Oper} {o : Oper} {a : Act} {K : Act → World → Prop} {Q : Exit → Act → World → Prop} (hw : Region.wanted o (yielded ops a.tmps) = true) (s x : Operand) (t e : TypeId) (k by_ : Nat)
    (ho : o.op = .call { callee := .builtin .append, args := #[s, x], argTypes := #[t, t] }) (ht : IsRows P t e k by_)
    (A : Option Addr) (n c : Nat) (rows : List (List Value)) (hs : a.eval s = .slice A n c) (hown : OwnR w e k A n c rows) (B : Nat) (A2 : Option Addr) (n2 c2 : Nat) (news : List (List Value)) (hx : a.eval x = .slice A2 n2 c2) (hr : Recs w B k A2 news) (hn2 : n2 = news.length)
    (hk : ∀ r ∈ news, r.length = k) (h1 : ∀ r ∈ news, ∀ u ∈ r, u.oneCell' = true) (hb : (n + n2) * by_ ≤ 140737488355328) (h63 : n + n2 ≤ maxLen)
    (h : ∀ A' c' w', OwnR w' e k A' (n + n2) c' (rows ++ news) → w.grownBy w' (blkOf A) → (blkOf A' = blkOf A ∨ blkOf A' = some w.heap.size) → K (a.put o.dst (.slice A' (n + n2) c')) w') :
    if Region.wanted o (yielded ops a.tmps) = true then Oper.wp P o a w K Q else K (a.put o.dst undef) w := by
  obtain ⟨A', c', w', hr, h2, h3, h4⟩ := run_appendR (P := P) w t o.type e k by_ ht A n c rows hown A2 n2 c2 news hr hn2 hk h1 hb h63
  rw [if_pos hw]
  unfold Oper.wp execOp
  simp only [ho, resolve, invoke, builtin, Sem.run_bind, Sem.run_pure, Result.andThen_ok, List.map_toArray, List.map_cons, List.map_nil, hs, hx, hr]
  exact h A' c' w' h2 h3 h4
end Kin
namespace Go.Proofs.YtbfhpgpceakeiaaGreatDoor.Tw
open Go.RowKit Kin Go.Proofs.YtbfhpgpceakeiaaGreatDoor

theorem pktsT : IsRows Tryz.prog 77 88 3 40 := isRows_of (z := .agg #[.int .i64 0, .int .i64 0, .slice none 0 0]) Tryz.underlying77 (by omega) (by kernel_rfl) rfl
/-- a packet's cells -/
abbrev pkR (d k : Int) (A : Option Addr) (n c : Nat) : List Value := [.int .i64 d, .int .i64 k, .slice A n c]
/-- one packet more in a queue -/
def RetPush (g f : Nat) (T : TypeId) (cs : Array Value) (Aq : Option Addr) (nq : Nat) (rows : List (List Value)) (w : World) (e : Ending) (w' : World) : Prop :=
  e = .returned (.tuple #[]) ∧ ∃ A' c', Blk w' g T (cs.setIfInBounds f (.slice A' (nq + 1) c')) ∧ OwnR w' 88 3 A' (nq + 1) c' rows ∧ (blkOf A' = blkOf Aq ∨ ∃ k, blkOf A' = some k ∧ w.heap.size ≤ k) ∧ Chg (fun k => k = g ∨ blkOf Aq = some k) w w'
set_option maxRecDepth 100000 in
set_option maxHeartbeats 2000000 in
theorem qPush_calls (g f : Nat) (T : TypeId) (cs : Array Value) (Aq : Option Addr) (nq cq : Nat) (rows : List (List Value)) (d k : Int) (A : Option Addr) (n c : Nat) (w : World) (hb : Blk w g T cs) (hf : cs[f]? = some (.slice Aq nq cq)) (hT : 88 ≠ T) (hown : OwnR w 88 3 Aq nq cq rows) (hq : nq ≤ 1000) :
    Calls Tryz.prog 344 #[.pointer (some ⟨g, f, none⟩), .iface 88 (.agg #[.int .i64 d, .int .i64 k, .slice A n c])] w (RetPush g f T cs Aq nq (rows ++ [pkR d k A n c]) w) := by
  have hne : blkOf Aq ≠ some g := hown.ne_blk hb hT
  have c0 : w.cell? ⟨g, f, none⟩ = some (.slice Aq nq cq) := (hb.cell f).trans hf
  have hta : ∀ w', Sem.run Tryz.prog (Instr.typeAssert (.iface 88 (.agg #[.int .i64 d, .int .i64 k, .slice A n c])) 20 88 true) w' = .ok (.tuple #[.agg #[.int .i64 d, .int .i64 k, .slice A n c], .bool true]) w' := fun _ => rfl
  have bp := Blk.new w 88 #[.int .i64 d, .int .i64 k, .slice A n c]
  have b1 := hb.alloc (.cells #[.int .i64 d, .int .i64 k, .slice A n c] 88)
  have o1 := hown.alloc (.cells #[.int .i64 d, .int .i64 k, .slice A n c] 88)
  have h1 := (Chg.refl (fun k => k = g ∨ blkOf Aq = some k) w).alloc (.cells #[.int .i64 d, .int .i64 k, .slice A n c] 88)
  obtain ⟨g1, hg1⟩ : ∃ x, w.heap.size = x := ⟨_, rfl⟩
  have hz1 : (w.alloc (.cells #[.int .i64 d, .int .i64 k, .slice A n c] 88)).heap.size = g1 + 1 := by rw [World.size_alloc, hg1]
  rw [hg1] at bp
  have HG1 := hide hg1
  have HZ1 := hide hz1
  have HNE := hide hne
  have HF := hide hf
  have HT := hide hT
  clear hb hf hT hown hne hg1 hz1 c0
  go_enter Tryz.func344, Tryz.ntmps344
  go_wp2_with fail
  rw [HG1.out]
  generalize w.alloc (.cells #[.int .i64 d, .int .i64 k, .slice A n c] 88) = W1 at *
  have b2 := b1.alloc (.cells #[.int .i64 d, .int .i64 k, .slice A n c] 88)
  have p2 := bp.alloc (.cells #[.int .i64 d, .int .i64 k, .slice A n c] 88)
  have o2 := (o1.alloc (.cells #[.int .i64 d, .int .i64 k, .slice A n c] 88)).drew
  have h2 := (h1.alloc (.cells #[.int .i64 d, .int .i64 k, .slice A n c] 88)).drew
  have rec2 := (Recs.new W1 #[.int .i64 d, .int .i64 k, .slice A n c] 88 (0, 0) 3 (pkR d k A n c) rfl rfl).drew
  have s2 : w.heap.size ≤ (W1.alloc (.cells #[.int .i64 d, .int .i64 k, .slice A n c] 88)).drew.heap.size := by
    show w.heap.size ≤ (W1.alloc (.cells #[.int .i64 d, .int .i64 k, .slice A n c] 88)).heap.size
    rw [World.size_alloc, HZ1.out, HG1.out]
    omega
  have HS2 := hide s2
  have c1 : W1.cell? ⟨g, f, none⟩ = some (.slice Aq nq cq) := (b1.cell f).trans HF.out
  have m0 : W1.cell? ⟨g1, 0, none⟩ = some (.int .i64 d) := bp.cell 0
  have m1 : W1.cell? ⟨g1, 1, none⟩ = some (.int .i64 k) := bp.cell 1
  have m2 : W1.cell? ⟨g1, 2, none⟩ = some (.slice A n c) := bp.cell 2
  have c2 : (W1.alloc (.cells #[.int .i64 d, .int .i64 k, .slice A n c] 88)).cell? ⟨g, f, none⟩ = some (.slice Aq nq cq) := (b2.cell f).trans HF.out
  clear s2
  go_region_law
    ((refine step_appendR' (by rfl) (.tmp 15) (.tmp 17) 77 88 3 40 (by rfl) pktsT Aq nq cq rows (by rfl) o2 _ _ 1 1 [pkR d k A n c] (by rfl) rec2 (by rfl) (by simp) (by simp [Value.oneCell']) (by omega) (by unfold maxLen; omega) ?_; intro A7 c7 w7 own7 grow7 at7; have b7 := b2.drew.grown grow7 (Ne.symm HNE.out); have c7f : w7.cell? ⟨g, f, none⟩ = some (.slice Aq nq cq) := (b7.cell f).trans HF.out; have f7 := b7.frozen f))
  all_goals
    have bs := b7.set_ f (.slice A7 (nq + 1) c7)
    have hg : Chg (fun k => k = g ∨ blkOf Aq = some k) w (w7.setCell ⟨g, f, none⟩ (.slice A7 (nq + 1) c7)) := (h2.grown grow7 (fun r hr => .inl (.inr hr))).setCell (p := ⟨g, f, none⟩) (.inl (.inl rfl)) _
    have os : OwnR (w7.setCell ⟨g, f, none⟩ (.slice A7 (nq + 1) c7)) 88 3 A7 (nq + 1) c7 (rows ++ [pkR d k A n c]) := Chg.ownR (S := fun k => k = g) ((Chg.refl (fun k => k = g) w7).setCell (p := ⟨g, f, none⟩) (.inl rfl) _) own7 (fun r hr e => own7.ne_blk b7 HT.out (by rw [hr, e]))
    have hl : blkOf A7 = blkOf Aq ∨ ∃ k, blkOf A7 = some k ∧ w.heap.size ≤ k := at7.imp id (fun h => ⟨_, h, HS2.out⟩)
    have BS := hide bs
    have HC := hide hg
    have OS := hide os
    have HL := hide hl
    clear bs hg os hl b7 c7f f7 own7 grow7 at7 b2 p2 o2 h2 rec2 c1 m0 m1 m2 c2 b1 bp o1 h1
    generalize w7.setCell ⟨g, f, none⟩ (.slice A7 (nq + 1) c7) = V at *
    go_wp2
    go_end0
    exact ⟨rfl, A7, c7, BS.out, OS.out, HL.out, HC.out⟩
theorem set_arr (l : List Value) (i : Nat) (v : Value) : l.toArray.setIfInBounds i v = (l.set i v).toArray := by simp
set_option maxRecDepth 100000 in
set_option maxHeartbeats 4000000 in
/-- one packet, changed about with itself -/
theorem swap1_calls (gq c : Nat) (d k : Int) (A : Option Addr) (m cm : Nat) (rest : List Value) (w : World) (h : Blk w gq 88 (pkR d k A m cm ++ rest).toArray) :
    Calls Tryz.prog 342 #[.slice (some ⟨gq, 0, none⟩) 1 c, .int .i64 0, .int .i64 0] w fun e w' => e = .returned (.tuple #[]) ∧ Blk w' gq 88 (pkR d k A m cm ++ rest).toArray ∧ Chg (fun k => k = gq) w w' := by
  have c0 : w.cell? ⟨gq, 0, none⟩ = some (.int .i64 d) := h.cell 0
  have f0 := h.frozen 0
  have c1 : w.cell? ⟨gq, 1, none⟩ = some (.int .i64 k) := h.cell 1
  have f1 := h.frozen 1
  have c2 : w.cell? ⟨gq, 2, none⟩ = some (.slice A m cm) := h.cell 2
  have f2 := h.frozen 2
  have b9 : Blk ((((((w.setCell ⟨gq, 0, none⟩ (.int .i64 d)).setCell ⟨gq, 1, none⟩ (.int .i64 k)).setCell ⟨gq, 2, none⟩ (.slice A m cm)).setCell ⟨gq, 0, none⟩ (.int .i64 d)).setCell ⟨gq, 1, none⟩ (.int .i64 k)).setCell ⟨gq, 2, none⟩ (.slice A m cm)) gq 88 (pkR d k A m cm ++ rest).toArray := by simpa using ((((((h.set_ 0 (.int .i64 d)).set_ 1 (.int .i64 k)).set_ 2 (.slice A m cm)).set_ 0 (.int .i64 d)).set_ 1 (.int .i64 k)).set_ 2 (.slice A m cm))
  have B9 := hide b9.drew
  have C9 := hide (((((((Chg.refl (fun k => k = gq) w).setCell (p := ⟨gq, 0, none⟩) (.inl rfl) (.int .i64 d)).setCell (p := ⟨gq, 1, none⟩) (.inl rfl) (.int .i64 k)).setCell (p := ⟨gq, 2, none⟩) (.inl rfl) (.slice A m cm)).setCell (p := ⟨gq, 0, none⟩) (.inl rfl) (.int .i64 d)).setCell (p := ⟨gq, 1, none⟩) (.inl rfl) (.int .i64 k)).setCell (p := ⟨gq, 2, none⟩) (.inl rfl) (.slice A m cm)).drew
  clear h b9
  go_enter Tryz.func342, Tryz.ntmps342
  go_wp2_with fail
  go_region_law (fail)
  all_goals
    generalize ((((((w.setCell ⟨gq, 0, none⟩ (.int .i64 d)).setCell ⟨gq, 1, none⟩ (.int .i64 k)).setCell ⟨gq, 2, none⟩ (.slice A m cm)).setCell ⟨gq, 0, none⟩ (.int .i64 d)).setCell ⟨gq, 1, none⟩ (.int .i64 k)).setCell ⟨gq, 2, none⟩ (.slice A m cm)).drew = V at *
    clear c0 f0 c1 f1 c2 f2
    go_wp2
    go_end0
    exact ⟨rfl, B9.out, C9.out⟩
set_option maxRecDepth 100000 in
set_option maxHeartbeats 4000000 in
/-- two packets changed about -/
theorem swap2_calls (gq c : Nat) (d k : Int) (A : Option Addr) (m cm : Nat) (d2 k2 : Int) (A2 : Option Addr) (m2 cm2 : Nat) (rest : List Value) (w : World) (h : Blk w gq 88 (pkR d k A m cm ++ pkR d2 k2 A2 m2 cm2 ++ rest).toArray) :
    Calls Tryz.prog 342 #[.slice (some ⟨gq, 0, none⟩) 2 c, .int .i64 0, .int .i64 1] w fun e w' => e = .returned (.tuple #[]) ∧ Blk w' gq 88 (pkR d2 k2 A2 m2 cm2 ++ pkR d k A m cm ++ rest).toArray ∧ Chg (fun k => k = gq) w w' := by
  have c0 : w.cell? ⟨gq, 0, none⟩ = some (.int .i64 d) := h.cell 0
  have f0 := h.frozen 0
  have c1 : w.cell? ⟨gq, 1, none⟩ = some (.int .i64 k) := h.cell 1
  have f1 := h.frozen 1
  have c2 : w.cell? ⟨gq, 2, none⟩ = some (.slice A m cm) := h.cell 2
  have f2 := h.frozen 2
  have c3 : w.cell? ⟨gq, 3, none⟩ = some (.int .i64 d2) := h.cell 3
  have f3 := h.frozen 3
  have c4 : w.cell? ⟨gq, 4, none⟩ = some (.int .i64 k2) := h.cell 4
  have f4 := h.frozen 4
  have c5 : w.cell? ⟨gq, 5, none⟩ = some (.slice A2 m2 cm2) := h.cell 5
  have f5 := h.frozen 5
  have b9 : Blk ((((((w.setCell ⟨gq, 0, none⟩ (.int .i64 d2)).setCell ⟨gq, 1, none⟩ (.int .i64 k2)).setCell ⟨gq, 2, none⟩ (.slice A2 m2 cm2)).setCell ⟨gq, 3, none⟩ (.int .i64 d)).setCell ⟨gq, 4, none⟩ (.int .i64 k)).setCell ⟨gq, 5, none⟩ (.slice A m cm)) gq 88 (pkR d2 k2 A2 m2 cm2 ++ pkR d k A m cm ++ rest).toArray := by simpa using ((((((h.set_ 0 (.int .i64 d2)).set_ 1 (.int .i64 k2)).set_ 2 (.slice A2 m2 cm2)).set_ 3 (.int .i64 d)).set_ 4 (.int .i64 k)).set_ 5 (.slice A m cm))
  have B9 := hide b9.drew
  have C9 := hide (((((((Chg.refl (fun k => k = gq) w).setCell (p := ⟨gq, 0, none⟩) (.inl rfl) (.int .i64 d2)).setCell (p := ⟨gq, 1, none⟩) (.inl rfl) (.int .i64 k2)).setCell (p := ⟨gq, 2, none⟩) (.inl rfl) (.slice A2 m2 cm2)).setCell (p := ⟨gq, 3, none⟩) (.inl rfl) (.int .i64 d)).setCell (p := ⟨gq, 4, none⟩) (.inl rfl) (.int .i64 k)).setCell (p := ⟨gq, 5, none⟩) (.inl rfl) (.slice A m cm)).drew
  clear h b9
  go_enter Tryz.func342, Tryz.ntmps342
  go_wp2_with fail
  go_region_law (fail)
  all_goals
    generalize ((((((w.setCell ⟨gq, 0, none⟩ (.int .i64 d2)).setCell ⟨gq, 1, none⟩ (.int .i64 k2)).setCell ⟨gq, 2, none⟩ (.slice A2 m2 cm2)).setCell ⟨gq, 3, none⟩ (.int .i64 d)).setCell ⟨gq, 4, none⟩ (.int .i64 k)).setCell ⟨gq, 5, none⟩ (.slice A m cm)).drew = V at *
    clear c0 f0 c1 f1 c2 f2 c3 f3 c4 f4 c5 f5
    go_wp2
    go_end0
    exact ⟨rfl, B9.out, C9.out⟩
theorem run_cutRh {P : Program} {t e : TypeId} {k by_ : Nat} (ht : IsRows P t e k by_) (A : Option Addr) (n c : Nat) (kh : IntKind) (h : Nat) (hi : Int) (hh : hi = h) (h2 : h ≤ c) (w : World) :
    (Instr.sliceAt t (.slice A n c) none (some (.int kh hi)) none).run P w = .ok (.slice A h c) w := by
  subst hh
  obtain ⟨ht, _, i, z, hi, _, hs, _⟩ := ht
  have he : P.elem t = e := by simp [Program.elem, ht]
  have ht' : P.underlying t = some (.slice (P.elem t)) := by rw [he]; exact ht
  rw [run_sliceAt_slice w t _ _ _ _ ht', run_slice_h w t A n c ht' kh h (by omega) (by omega)]
  have : A.map (·.add 0) = A := by cases A <;> simp [Addr.add]
  simp [he, Go.sizeOf, typeInfo, hi, hs, sliced, Result.andThen, this]
/-- the last packet taken off -/
def RetPop (g f gq n c : Nat) (T : TypeId) (cs : Array Value) (d k : Int) (A : Option Addr) (m cm : Nat) (xs : List Value) (w : World) (e : Ending) (w' : World) : Prop :=
  e = .returned (.iface 88 (.agg #[.int .i64 d, .int .i64 k, .slice A m cm])) ∧ Blk w' g T (cs.setIfInBounds f (.slice (some ⟨gq, 0, none⟩) n c)) ∧ Blk w' gq 88 xs.toArray ∧ Chg (fun k => k = g ∨ k = gq) w w'
set_option maxRecDepth 100000 in
set_option maxHeartbeats 4000000 in
theorem qPop1_calls (g f gq c : Nat) (T : TypeId) (cs : Array Value) (d k : Int) (A : Option Addr) (m cm : Nat) (rest : List Value) (w : World) (hb : Blk w g T cs) (hf : cs[f]? = some (.slice (some ⟨gq, 0, none⟩) 1 c)) (hT : T ≠ 88) (hc : 1 ≤ c) (h : Blk w gq 88 (pkR d k A m cm ++ rest).toArray) :
    Calls Tryz.prog 343 #[.pointer (some ⟨g, f, none⟩)] w (RetPop g f gq 0 c T cs d k A m cm (pkR 0 0 none 0 0 ++ rest) w) := by
  have hne : g ≠ gq := hb.ne_ h hT
  have hsl : ∀ w', Sem.run Tryz.prog (Instr.sliceAt 77 (.slice (some ⟨gq, 0, none⟩) 1 c) none (some (.int .i64 0)) none) w' = .ok (.slice (some ⟨gq, 0, none⟩) 0 c) w' := fun w' => run_cutRh pktsT _ _ _ .i64 0 _ rfl (by omega) w'
  have p0 := Blk.new w 88 #[.int .i64 d, .int .i64 k, .slice A m cm]
  have hlt := h.lt
  obtain ⟨gp, hgp⟩ : ∃ x, w.heap.size = x := ⟨_, rfl⟩
  rw [hgp] at p0 hlt
  have HGP := hide hgp
  have b1 := hb.alloc (.cells #[.int .i64 d, .int .i64 k, .slice A m cm] 88)
  have q1 := h.alloc (.cells #[.int .i64 d, .int .i64 k, .slice A m cm] 88)
  have c0 : w.cell? ⟨g, f, none⟩ = some (.slice (some ⟨gq, 0, none⟩) 1 c) := (hb.cell f).trans hf
  have c1 : w.cell? ⟨gq, 0, none⟩ = some (.int .i64 d) := h.cell 0
  have c2 : w.cell? ⟨gq, 1, none⟩ = some (.int .i64 k) := h.cell 1
  have c3 : w.cell? ⟨gq, 2, none⟩ = some (.slice A m cm) := h.cell 2
  have q2 : Blk ((((w.alloc (.cells #[.int .i64 d, .int .i64 k, .slice A m cm] 88)).setCell ⟨gq, 0, none⟩ (.int .i64 0)).setCell ⟨gq, 1, none⟩ (.int .i64 0)).setCell ⟨gq, 2, none⟩ (.slice none 0 0)) gq 88 (pkR 0 0 none 0 0 ++ rest).toArray := by simpa using ((q1.set_ 0 (.int .i64 0)).set_ 1 (.int .i64 0)).set_ 2 (.slice none 0 0)
  have b2 := ((b1.far (p := ⟨gq, 0, none⟩) hne (.int .i64 0)).far (p := ⟨gq, 1, none⟩) hne (.int .i64 0)).far (p := ⟨gq, 2, none⟩) hne (.slice none 0 0)
  have p2 := ((p0.far (p := ⟨gq, 0, none⟩) (by show gp ≠ gq; omega) (.int .i64 0)).far (p := ⟨gq, 1, none⟩) (by show gp ≠ gq; omega) (.int .i64 0)).far (p := ⟨gq, 2, none⟩) (by show gp ≠ gq; omega) (.slice none 0 0)
  have h2 := ((((Chg.refl (fun k => k = g ∨ k = gq) w).alloc (.cells #[.int .i64 d, .int .i64 k, .slice A m cm] 88)).setCell (p := ⟨gq, 0, none⟩) (.inl (.inr rfl)) (.int .i64 0)).setCell (p := ⟨gq, 1, none⟩) (.inl (.inr rfl)) (.int .i64 0)).setCell (p := ⟨gq, 2, none⟩) (.inl (.inr rfl)) (.slice none 0 0)
  have HQ := hide q2
  have HB2 := hide b2
  have HP2 := hide p2
  have HC2 := hide h2
  have HNE := hide hne
  have HF := hide hf
  have HPL : Hid (gp ≠ g ∧ gp ≠ gq) := ⟨by have := hb.lt; omega, by omega⟩
  have e0 : (w.alloc (.cells #[.int .i64 d, .int .i64 k, .slice A m cm] 88)).cell? ⟨g, f, none⟩ = some (.slice (some ⟨gq, 0, none⟩) 1 c) := (b1.cell f).trans hf
  have e1 := q1.frozen 0
  have e2 := q1.frozen 1
  have e3 := q1.frozen 2
  have e4 : (w.alloc (.cells #[.int .i64 d, .int .i64 k, .slice A m cm] 88)).cell? ⟨gq, 0, none⟩ = some (.int .i64 d) := q1.cell 0
  have e5 : (w.alloc (.cells #[.int .i64 d, .int .i64 k, .slice A m cm] 88)).cell? ⟨gq, 1, none⟩ = some (.int .i64 k) := q1.cell 1
  have e6 : (w.alloc (.cells #[.int .i64 d, .int .i64 k, .slice A m cm] 88)).cell? ⟨gq, 2, none⟩ = some (.slice A m cm) := q1.cell 2
  obtain ⟨V, hV⟩ : ∃ V, ((((w.alloc (.cells #[.int .i64 d, .int .i64 k, .slice A m cm] 88)).setCell ⟨gq, 0, none⟩ (.int .i64 0)).setCell ⟨gq, 1, none⟩ (.int .i64 0)).setCell ⟨gq, 2, none⟩ (.slice none 0 0)) = V := ⟨_, rfl⟩
  rw [hV] at q2 b2 p2 h2
  have v0 : V.cell? ⟨g, f, none⟩ = some (.slice (some ⟨gq, 0, none⟩) 1 c) := (b2.cell f).trans HF.out
  have v1 := b2.frozen f
  have b3 := b2.set_ f (.slice (some ⟨gq, 0, none⟩) 0 c)
  have q3 := q2.far (p := ⟨g, f, none⟩) (Ne.symm HNE.out) (.slice (some ⟨gq, 0, none⟩) 0 c)
  have h3 := h2.setCell (p := ⟨g, f, none⟩) (.inl (.inl rfl)) (.slice (some ⟨gq, 0, none⟩) 0 c)
  have p3 := p2.far (p := ⟨g, f, none⟩) HPL.out.1 (.slice (some ⟨gq, 0, none⟩) 0 c)
  have m0 : (V.setCell ⟨g, f, none⟩ (.slice (some ⟨gq, 0, none⟩) 0 c)).cell? ⟨gp, 0, none⟩ = some (.int .i64 d) := p3.cell 0
  have m1 : (V.setCell ⟨g, f, none⟩ (.slice (some ⟨gq, 0, none⟩) 0 c)).cell? ⟨gp, 1, none⟩ = some (.int .i64 k) := p3.cell 1
  have m2 : (V.setCell ⟨g, f, none⟩ (.slice (some ⟨gq, 0, none⟩) 0 c)).cell? ⟨gp, 2, none⟩ = some (.slice A m cm) := p3.cell 2
  have B3 := hide b3
  have Q3 := hide q3
  have H3 := hide h3
  clear hb hf hT hc h hne p0 hlt b1 q1 q2 b2 p2 h2 b3 q3 h3 p3 HQ HB2 HP2 HC2
  go_enter Tryz.func343, Tryz.ntmps343
  go_wp2
  go_ret
  exact ⟨rfl, B3.out, Q3.out, H3.out⟩
set_option maxRecDepth 100000 in
set_option maxHeartbeats 4000000 in
theorem qPop2_calls (g f gq c : Nat) (T : TypeId) (cs : Array Value) (d k : Int) (A : Option Addr) (m cm : Nat) (d2 k2 : Int) (A2 : Option Addr) (m2 cm2 : Nat) (rest : List Value) (w : World) (hb : Blk w g T cs) (hf : cs[f]? = some (.slice (some ⟨gq, 0, none⟩) 2 c)) (hT : T ≠ 88) (hc : 2 ≤ c) (h : Blk w gq 88 (pkR d2 k2 A2 m2 cm2 ++ pkR d k A m cm ++ rest).toArray) :
    Calls Tryz.prog 343 #[.pointer (some ⟨g, f, none⟩)] w (RetPop g f gq 1 c T cs d k A m cm (pkR d2 k2 A2 m2 cm2 ++ pkR 0 0 none 0 0 ++ rest) w) := by
  have hne : g ≠ gq := hb.ne_ h hT
  have hsl : ∀ w', Sem.run Tryz.prog (Instr.sliceAt 77 (.slice (some ⟨gq, 0, none⟩) 2 c) none (some (.int .i64 1)) none) w' = .ok (.slice (some ⟨gq, 0, none⟩) 1 c) w' := fun w' => run_cutRh pktsT _ _ _ .i64 1 _ rfl (by omega) w'
  have p0 := Blk.new w 88 #[.int .i64 d, .int .i64 k, .slice A m cm]
  have hlt := h.lt
  obtain ⟨gp, hgp⟩ : ∃ x, w.heap.size = x := ⟨_, rfl⟩
  rw [hgp] at p0 hlt
  have HGP := hide hgp
  have b1 := hb.alloc (.cells #[.int .i64 d, .int .i64 k, .slice A m cm] 88)
  have q1 := h.alloc (.cells #[.int .i64 d, .int .i64 k, .slice A m cm] 88)
  have c0 : w.cell? ⟨g, f, none⟩ = some (.slice (some ⟨gq, 0, none⟩) 2 c) := (hb.cell f).trans hf
  have c1 : w.cell? ⟨gq, 3, none⟩ = some (.int .i64 d) := h.cell 3
  have c2 : w.cell? ⟨gq, 4, none⟩ = some (.int .i64 k) := h.cell 4
  have c3 : w.cell? ⟨gq, 5, none⟩ = some (.slice A m cm) := h.cell 5
  have q2 : Blk ((((w.alloc (.cells #[.int .i64 d, .int .i64 k, .slice A m cm] 88)).setCell ⟨gq, 3, none⟩ (.int .i64 0)).setCell ⟨gq, 4, none⟩ (.int .i64 0)).setCell ⟨gq, 5, none⟩ (.slice none 0 0)) gq 88 (pkR d2 k2 A2 m2 cm2 ++ pkR 0 0 none 0 0 ++ rest).toArray := by simpa using ((q1.set_ 3 (.int .i64 0)).set_ 4 (.int .i64 0)).set_ 5 (.slice none 0 0)
  have b2 := ((b1.far (p := ⟨gq, 3, none⟩) hne (.int .i64 0)).far (p := ⟨gq, 4, none⟩) hne (.int .i64 0)).far (p := ⟨gq, 5, none⟩) hne (.slice none 0 0)
  have p2 := ((p0.far (p := ⟨gq, 3, none⟩) (by show gp ≠ gq; omega) (.int .i64 0)).far (p := ⟨gq, 4, none⟩) (by show gp ≠ gq; omega) (.int .i64 0)).far (p := ⟨gq, 5, none⟩) (by show gp ≠ gq; omega) (.slice none 0 0)
  have h2 := ((((Chg.refl (fun k => k = g ∨ k = gq) w).alloc (.cells #[.int .i64 d, .int .i64 k, .slice A m cm] 88)).setCell (p := ⟨gq, 3, none⟩) (.inl (.inr rfl)) (.int .i64 0)).setCell (p := ⟨gq, 4, none⟩) (.inl (.inr rfl)) (.int .i64 0)).setCell (p := ⟨gq, 5, none⟩) (.inl (.inr rfl)) (.slice none 0 0)
  have HQ := hide q2
  have HB2 := hide b2
  have HP2 := hide p2
  have HC2 := hide h2
  have HNE := hide hne
  have HF := hide hf
  have HPL : Hid (gp ≠ g ∧ gp ≠ gq) := ⟨by have := hb.lt; omega, by omega⟩
  have e0 : (w.alloc (.cells #[.int .i64 d, .int .i64 k, .slice A m cm] 88)).cell? ⟨g, f, none⟩ = some (.slice (some ⟨gq, 0, none⟩) 2 c) := (b1.cell f).trans hf
  have e1 := q1.frozen 3
  have e2 := q1.frozen 4
  have e3 := q1.frozen 5
  have e4 : (w.alloc (.cells #[.int .i64 d, .int .i64 k, .slice A m cm] 88)).cell? ⟨gq, 3, none⟩ = some (.int .i64 d) := q1.cell 3
  have e5 : (w.alloc (.cells #[.int .i64 d, .int .i64 k, .slice A m cm] 88)).cell? ⟨gq, 4, none⟩ = some (.int .i64 k) := q1.cell 4
  have e6 : (w.alloc (.cells #[.int .i64 d, .int .i64 k, .slice A m cm] 88)).cell? ⟨gq, 5, none⟩ = some (.slice A m cm) := q1.cell 5
  obtain ⟨V, hV⟩ : ∃ V, ((((w.alloc (.cells #[.int .i64 d, .int .i64 k, .slice A m cm] 88)).setCell ⟨gq, 3, none⟩ (.int .i64 0)).setCell ⟨gq, 4, none⟩ (.int .i64 0)).setCell ⟨gq, 5, none⟩ (.slice none 0 0)) = V := ⟨_, rfl⟩
  rw [hV] at q2 b2 p2 h2
  have v0 : V.cell? ⟨g, f, none⟩ = some (.slice (some ⟨gq, 0, none⟩) 2 c) := (b2.cell f).trans HF.out
  have v1 := b2.frozen f
  have b3 := b2.set_ f (.slice (some ⟨gq, 0, none⟩) 1 c)
  have q3 := q2.far (p := ⟨g, f, none⟩) (Ne.symm HNE.out) (.slice (some ⟨gq, 0, none⟩) 1 c)
  have h3 := h2.setCell (p := ⟨g, f, none⟩) (.inl (.inl rfl)) (.slice (some ⟨gq, 0, none⟩) 1 c)
  have p3 := p2.far (p := ⟨g, f, none⟩) HPL.out.1 (.slice (some ⟨gq, 0, none⟩) 1 c)
  have m0 : (V.setCell ⟨g, f, none⟩ (.slice (some ⟨gq, 0, none⟩) 1 c)).cell? ⟨gp, 0, none⟩ = some (.int .i64 d) := p3.cell 0
  have m1 : (V.setCell ⟨g, f, none⟩ (.slice (some ⟨gq, 0, none⟩) 1 c)).cell? ⟨gp, 1, none⟩ = some (.int .i64 k) := p3.cell 1
  have m2 : (V.setCell ⟨g, f, none⟩ (.slice (some ⟨gq, 0, none⟩) 1 c)).cell? ⟨gp, 2, none⟩ = some (.slice A m cm) := p3.cell 2
  have B3 := hide b3
  have Q3 := hide q3
  have H3 := hide h3
  clear hb hf hT hc h hne p0 hlt b1 q1 q2 b2 p2 h2 b3 q3 h3 p3 HQ HB2 HP2 HC2
  go_enter Tryz.func343, Tryz.ntmps343
  go_wp2
  go_ret
  exact ⟨rfl, B3.out, Q3.out, H3.out⟩
end Go.Proofs.YtbfhpgpceakeiaaGreatDoor.Tw
namespace Go.Proofs.YtbfhpgpceakeiaaGreatDoor.Tw
open Go.RowKit Kin Go.Proofs.YtbfhpgpceakeiaaGreatDoor

abbrev qIf (g f : Nat) : Value := .iface 85 (.pointer (some ⟨g, f, none⟩))
theorem bdN (w : World) (n : Nat) : Below w.heap.size w (w.drewN n) := ⟨rfl, rfl, rfl, Nat.le_refl _, fun _ _ => rfl⟩
set_option maxHeartbeats 1000000 in
theorem less_calls (gq c : Nat) (d k d2 k2 : Int) (A A2 : Option Addr) (m cm m2 cm2 : Nat) (rest : List Value) (w : World) (h : Blk w gq 88 (pkR d k A m cm ++ pkR d2 k2 A2 m2 cm2 ++ rest).toArray) (hd : d ≤ d2) (hk : k ≤ k2) :
    Calls Tryz.prog 341 #[.slice (some ⟨gq, 0, none⟩) 2 c, .int .i64 1, .int .i64 0] w fun e w' => e = .returned (.bool false) ∧ Below w.heap.size w w' := by
  have c0 : w.cell? ⟨gq, 0, none⟩ = some (.int .i64 d) := h.cell 0
  have c1 : w.cell? ⟨gq, 1, none⟩ = some (.int .i64 k) := h.cell 1
  have c3 : w.cell? ⟨gq, 3, none⟩ = some (.int .i64 d2) := h.cell 3
  have c4 : w.cell? ⟨gq, 4, none⟩ = some (.int .i64 k2) := h.cell 4
  have i1 : decide (d2 < d) = false := by simpa using hd
  have i2 : decide (k2 < k) = false := by simpa using hk
  clear h hd hk
  by_cases hq : d2 = d
  · have i3 : (d2 != d) = false := by simp [hq]
    have HQ := hide hq
    clear hq
    go_enter Tryz.func341, Tryz.ntmps341
    go_wp2_with fail
    go_quiet (fail)
    have e1 : (w.drewN nq).cell? ⟨gq, 1, none⟩ = some (.int .i64 k) := c1
    have e4 : (w.drewN nq).cell? ⟨gq, 4, none⟩ = some (.int .i64 k2) := c4
    have HB := hide (bdN w nq)
    clear c0 c1 c3 c4
    generalize w.drewN nq = W at *
    go_wp2_with fail
    go_quiet (fail)
    go_wp2
    go_ret
    exact ⟨rfl, HB.out.trans ((bdN W nq).mono HB.out.size)⟩
  · have i3 : (d2 != d) = true := by simp [hq]
    clear hq
    go_enter Tryz.func341, Tryz.ntmps341
    go_wp2_with fail
    go_quiet (fail)
    have e0 : (w.drewN nq).cell? ⟨gq, 0, none⟩ = some (.int .i64 d) := c0
    have e3 : (w.drewN nq).cell? ⟨gq, 3, none⟩ = some (.int .i64 d2) := c3
    have HB := hide (bdN w nq)
    clear c0 c1 c3 c4
    generalize w.drewN nq = W at *
    go_wp2_with fail
    go_quiet (fail)
    go_wp2
    go_ret
    exact ⟨rfl, HB.out.trans ((bdN W nq).mono HB.out.size)⟩
theorem set_at {cs : Array Value} {f : Nat} {v : Value} (u : Value) (h : cs[f]? = some v) : (cs.setIfInBounds f u)[f]? = some u := by
  obtain ⟨h1, _⟩ := Array.getElem?_eq_some_iff.1 h
  simp [h1]
theorem len_calls (A : Option Addr) (n c : Nat) (w : World) : Calls Tryz.prog 25 #[.slice A n c] w fun e w' => e = .returned (.int .i64 (n : Int)) ∧ w = w' := by
  go_enter Tryz.func25, Tryz.ntmps25
  go_wp2
  go_ret
  exact ⟨rfl, rfl⟩
theorem m_len : (Tryz.prog.info? 85).bind (fun i => (i.methods.find? (·.name == "Len")).map fun m => (m.path, m.func)) = some (#[], some (25, false)) := by kernel_rfl
theorem m_less : (Tryz.prog.info? 85).bind (fun i => (i.methods.find? (·.name == "Less")).map fun m => (m.path, m.func)) = some (#[], some (341, false)) := by kernel_rfl
theorem m_swap : (Tryz.prog.info? 85).bind (fun i => (i.methods.find? (·.name == "Swap")).map fun m => (m.path, m.func)) = some (#[], some (342, false)) := by kernel_rfl
theorem run_meth {name : String} {fn : Nat} (hm : (Tryz.prog.info? 85).bind (fun i => (i.methods.find? (·.name == name)).map fun m => (m.path, m.func)) = some (#[], some (fn, false))) {w : World} {g f n c : Nat} {A : Option Addr} (h : w.cell? ⟨g, f, none⟩ = some (.slice A n c)) : Sem.run Tryz.prog (method 614 85 (.pointer (some ⟨g, f, none⟩)) name) w = .ok (fn, .slice A n c) w := by
  have hu := Tryz.underlying85
  cases hi : Tryz.prog.info? 85 with
  | none => rw [hi] at hm; cases hm
  | some i =>
    rw [hi] at hm
    cases hf : i.methods.find? (·.name == name) with
    | none => simp [hf] at hm
    | some m =>
      simp [hf] at hm
      obtain ⟨hp, hfn⟩ := hm
      have hr : ∀ nm : String, Sem.run Tryz.prog (receiverAt 85 (.val (.pointer (some ⟨g, f, none⟩))) false (some nm)) w = .ok (.slice A n c) w := fun nm => by
        have hn : Builtin.ssaWrapNilChk_ #[85] 85 #[.pointer (some ⟨g, f, none⟩), strVal "", strVal nm] = pure (.pointer (some ⟨g, f, none⟩)) := rfl
        unfold receiverAt
        simp [underlying, hu, Place.get, hn, go_sem, h]
      unfold method
      simp only [Sem.run_bind, typeInfo]
      simp [hi, hf, hp, hfn, follow, go_sem, hr]
theorem up0_calls (g f : Nat) (w : World) : Calls Tryz.prog 44 #[qIf g f, .int .i64 0] w fun e w' => e = .returned (.tuple #[]) ∧ w = w' := by
  go_enter Tryz.func44, Tryz.ntmps44
  go_wp2_with fail
  refine wp_loop_rounds 1 ?_
  rw [rounds_succ]
  go_wp2_with fail
  go_end0
  exact ⟨rfl, rfl⟩
set_option maxHeartbeats 1000000 in
theorem up1_calls (g f gq c : Nat) (d k d2 k2 : Int) (A A2 : Option Addr) (m cm m2 cm2 : Nat) (rest : List Value) (w : World) (hc : w.cell? ⟨g, f, none⟩ = some (.slice (some ⟨gq, 0, none⟩) 2 c)) (h : Blk w gq 88 (pkR d k A m cm ++ pkR d2 k2 A2 m2 cm2 ++ rest).toArray) (hd : d ≤ d2) (hk : k ≤ k2) :
    Calls Tryz.prog 44 #[qIf g f, .int .i64 1] w fun e w' => e = .returned (.tuple #[]) ∧ Below w.heap.size w w' := by
  have r0 := run_meth m_less hc
  have HL := hide (less_calls gq c d k d2 k2 A A2 m cm m2 cm2 rest w h hd hk)
  clear hc h hd hk
  go_enter Tryz.func44, Tryz.ntmps44
  go_wp2_with fail
  refine wp_loop_rounds 1 ?_
  rw [rounds_succ]
  go_wp2_with fail
  refine HL.out.mono ?_
  rintro en w1 ⟨rfl, bel⟩
  have HB := hide bel
  clear bel r0
  go_wp2_with fail
  go_end0
  exact ⟨rfl, HB.out⟩
set_option maxRecDepth 100000 in
set_option maxHeartbeats 2000000 in
theorem hPush0_calls (g f c : Nat) (T : TypeId) (cs : Array Value) (Aq : Option Addr) (d k : Int) (A : Option Addr) (m cm : Nat) (w : World) (hb : Blk w g T cs) (hf : cs[f]? = some (.slice Aq 0 c)) (hT : 88 ≠ T) (hown : OwnR w 88 3 Aq 0 c []) :
    Calls Tryz.prog 23 #[qIf g f, .iface 88 (.agg #[.int .i64 d, .int .i64 k, .slice A m cm])] w (RetPush g f T cs Aq 0 [pkR d k A m cm] w) := by
  have HP := hide (qPush_calls g f T cs Aq 0 c [] d k A m cm w hb hf hT hown (by omega))
  clear hb hT hown
  have HF := hide hf
  clear hf
  go_enter Tryz.func23, Tryz.ntmps23
  go_wp2_with fail
  refine HP.out.mono ?_
  rintro en w1 ⟨rfl, A', c', b1, o1, hl, hc⟩
  have r0 := run_meth m_len ((b1.cell f).trans (set_at _ HF.out))
  have B1 := hide b1
  have O1 := hide o1
  have HL := hide hl
  have HC := hide hc
  clear b1 o1 hl hc
  go_wp2_with fail
  refine (len_calls A' 1 c' _).mono ?_
  rintro en w2 ⟨rfl, rfl⟩
  clear r0
  go_wp2_with fail
  refine (up0_calls g f _).mono ?_
  rintro en w2 ⟨rfl, rfl⟩
  go_wp2
  go_end0
  exact ⟨rfl, A', c', B1.out, O1.out, HL.out, HC.out⟩
theorem ownR_open1 {w : World} {e : TypeId} {A : Option Addr} {n c : Nat} {r : List Value} {rows : List (List Value)} (h : OwnR w e 3 A n c (r :: rows)) : ∃ g rest, A = some ⟨g, 0, none⟩ ∧ Blk w g e (r ++ rows.flatten ++ rest).toArray ∧ n ≤ c := by
  obtain ⟨h1, h2, h3, h4⟩ := h
  rcases h4 with ⟨_, hn⟩ | ⟨g, cap, cur, hv, _, hh, hle, _, _, ht⟩
  · rw [hn] at h1; cases h1
  · injection hv with hA hn hc
    subst hA hc
    refine ⟨g, cur.toList.drop (n * 3), rfl, ?_, hle⟩
    have e1 : r ++ rows.flatten ++ cur.toList.drop (n * 3) = cur.toList := by
      rw [List.flatten_cons] at ht
      rw [← ht, List.take_append_drop]
    rw [e1]
    exact hh
set_option maxRecDepth 100000 in
set_option maxHeartbeats 2000000 in
theorem hPush1_calls (g f c : Nat) (T : TypeId) (cs : Array Value) (Aq : Option Addr) (d k d2 k2 : Int) (A A2 : Option Addr) (m cm m2 cm2 : Nat) (w : World) (hb : Blk w g T cs) (hf : cs[f]? = some (.slice Aq 1 c)) (hT : 88 ≠ T) (hown : OwnR w 88 3 Aq 1 c [pkR d k A m cm]) (hd : d ≤ d2) (hk : k ≤ k2) :
    Calls Tryz.prog 23 #[qIf g f, .iface 88 (.agg #[.int .i64 d2, .int .i64 k2, .slice A2 m2 cm2])] w (RetPush g f T cs Aq 1 [pkR d k A m cm, pkR d2 k2 A2 m2 cm2] w) := by
  have HP := hide (qPush_calls g f T cs Aq 1 c [pkR d k A m cm] d2 k2 A2 m2 cm2 w hb hf hT hown (by omega))
  clear hb hT hown
  have HF := hide hf
  have HDK := hide (And.intro hd hk)
  clear hf hd hk
  go_enter Tryz.func23, Tryz.ntmps23
  go_wp2_with fail
  refine HP.out.mono ?_
  rintro en w1 ⟨rfl, A', c', b1, o1, hl, hc⟩
  obtain ⟨gq, rest, rfl, q1, _⟩ := ownR_open1 o1
  have r0 := run_meth m_len ((b1.cell f).trans (set_at _ HF.out))
  have B1 := hide b1
  have O1 := hide o1
  have HL := hide hl
  have HC := hide hc
  have HU := hide (up1_calls g f gq c' d k d2 k2 A A2 m cm m2 cm2 rest w1 ((b1.cell f).trans (set_at _ HF.out)) (by simpa using q1) HDK.out.1 HDK.out.2)
  clear b1 o1 hl hc q1
  go_wp2_with fail
  refine (len_calls _ 2 c' _).mono ?_
  rintro en w2 ⟨rfl, rfl⟩
  clear r0
  go_wp2_with fail
  refine HU.out.mono ?_
  rintro en w2 ⟨rfl, bel⟩
  have B2 := hide (B1.out.below bel B1.out.lt)
  have O2 := hide (O1.out.next bel)
  have C2 := hide (HC.out.trans (Chg.of_below (S := fun _ => False) bel) (fun _ _ e => e) (fun _ _ e => e.elim))
  clear bel
  go_wp2
  go_end0
  exact ⟨rfl, _, c', B2.out, O2.out, HL.out, C2.out⟩
end Go.Proofs.YtbfhpgpceakeiaaGreatDoor.Tw
namespace Go.Proofs.YtbfhpgpceakeiaaGreatDoor.Tw
open Go.RowKit Kin Go.Proofs.YtbfhpgpceakeiaaGreatDoor

theorem down_calls (g f n : Nat) (hn : n ≤ 1) (w : World) : Calls Tryz.prog 47 #[qIf g f, .int .i64 0, .int .i64 (n : Int)] w fun e w' => e = .returned (.bool false) ∧ w = w' := by
  have i1 : (n : Int) ≤ 1 := by omega
  clear hn
  go_enter Tryz.func47, Tryz.ntmps47
  go_wp2_with fail
  refine wp_loop_rounds 1 ?_
  rw [rounds_succ]
  go_wp2_with fail
  go_ret
  exact ⟨rfl, rfl⟩
set_option maxRecDepth 100000 in
set_option maxHeartbeats 2000000 in
theorem hPop1_calls (g f gq c : Nat) (T : TypeId) (cs : Array Value) (d k : Int) (A : Option Addr) (m cm : Nat) (rest : List Value) (w : World) (hb : Blk w g T cs) (hf : cs[f]? = some (.slice (some ⟨gq, 0, none⟩) 1 c)) (hT : T ≠ 88) (hc : 1 ≤ c) (h : Blk w gq 88 (pkR d k A m cm ++ rest).toArray) :
    Calls Tryz.prog 26 #[qIf g f] w (RetPop g f gq 0 c T cs d k A m cm (pkR 0 0 none 0 0 ++ rest) w) := by
  have HS := hide (swap1_calls gq c d k A m cm rest w h)
  have HP := hide (fun (w : World) (hb : Blk w g T cs) (h : Blk w gq 88 (pkR d k A m cm ++ rest).toArray) => qPop1_calls g f gq c T cs d k A m cm rest w hb hf hT hc h)
  have r0 := run_meth m_len ((hb.cell f).trans hf)
  have r1 := run_meth m_swap ((hb.cell f).trans hf)
  have HB := hide hb
  have HNE : Hid (g ≠ gq) := hb.ne_ h hT
  clear hb hf hT hc h
  go_enter Tryz.func26, Tryz.ntmps26
  go_wp2_with fail
  refine (len_calls _ 1 c _).mono ?_
  rintro en w2 ⟨rfl, rfl⟩
  go_wp2_with fail
  refine HS.out.mono ?_
  rintro en w2 ⟨rfl, q2, ch⟩
  have B2 := hide (ch.blk HB.out HNE.out)
  have Q2 := hide q2
  have HC := hide ch
  clear r0 r1 q2 ch
  go_wp2_with fail
  refine (down_calls g f 0 (by omega) _).mono ?_
  rintro en w3 ⟨rfl, rfl⟩
  go_wp2_with fail
  refine (HP.out _ B2.out Q2.out).mono ?_
  rintro en w3 ⟨rfl, b3, q3, c3⟩
  have B3 := hide b3
  have Q3 := hide q3
  have C3 := hide (HC.out.trans c3 (fun _ _ e => Or.inr e) (fun _ _ e => e))
  clear b3 q3 c3
  go_wp2
  go_ret
  exact ⟨rfl, B3.out, Q3.out, C3.out⟩
set_option maxRecDepth 100000 in
set_option maxHeartbeats 2000000 in
theorem hPop2_calls (g f gq c : Nat) (T : TypeId) (cs : Array Value) (d k : Int) (A : Option Addr) (m cm : Nat) (d2 k2 : Int) (A2 : Option Addr) (m2 cm2 : Nat) (rest : List Value) (w : World) (hb : Blk w g T cs) (hf : cs[f]? = some (.slice (some ⟨gq, 0, none⟩) 2 c)) (hT : T ≠ 88) (hc : 2 ≤ c) (h : Blk w gq 88 (pkR d k A m cm ++ pkR d2 k2 A2 m2 cm2 ++ rest).toArray) :
    Calls Tryz.prog 26 #[qIf g f] w (RetPop g f gq 1 c T cs d k A m cm (pkR d2 k2 A2 m2 cm2 ++ pkR 0 0 none 0 0 ++ rest) w) := by
  have HS := hide (swap2_calls gq c d k A m cm d2 k2 A2 m2 cm2 rest w h)
  have HP := hide (fun (w : World) (hb : Blk w g T cs) (h : Blk w gq 88 (pkR d2 k2 A2 m2 cm2 ++ pkR d k A m cm ++ rest).toArray) => qPop2_calls g f gq c T cs d k A m cm d2 k2 A2 m2 cm2 rest w hb hf hT hc h)
  have r0 := run_meth m_len ((hb.cell f).trans hf)
  have r1 := run_meth m_swap ((hb.cell f).trans hf)
  have HB := hide hb
  have HNE : Hid (g ≠ gq) := hb.ne_ h hT
  clear hb hf hT hc h
  go_enter Tryz.func26, Tryz.ntmps26
  go_wp2_with fail
  refine (len_calls _ 2 c _).mono ?_
  rintro en w2 ⟨rfl, rfl⟩
  go_wp2_with fail
  refine HS.out.mono ?_
  rintro en w2 ⟨rfl, q2, ch⟩
  have B2 := hide (ch.blk HB.out HNE.out)
  have Q2 := hide q2
  have HC := hide ch
  clear r0 r1 q2 ch
  go_wp2_with fail
  refine (down_calls g f 1 (by omega) _).mono ?_
  rintro en w3 ⟨rfl, rfl⟩
  go_wp2_with fail
  refine (HP.out _ B2.out Q2.out).mono ?_
  rintro en w3 ⟨rfl, b3, q3, c3⟩
  have B3 := hide b3
  have Q3 := hide q3
  have C3 := hide (HC.out.trans c3 (fun _ _ e => Or.inr e) (fun _ _ e => e))
  clear b3 q3 c3
  go_wp2
  go_ret
  exact ⟨rfl, B3.out, Q3.out, C3.out⟩
end Go.Proofs.YtbfhpgpceakeiaaGreatDoor.Tw
namespace Kin
open Go Go.RowKit
theorem Own8.take {w : World} {e : TypeId} {A : Option Addr} {n c : Nat} {l : List UInt8} (h : Own8 w e A n c l) {m : Nat} (hm : m ≤ n) : Own8 w e A m c (l.take m) := by
  obtain ⟨h1, h2, h3⟩ := h
  refine ⟨by rw [List.length_take]; omega, by rw [length_B8, List.length_take]; omega, ?_⟩
  rcases h3 with ⟨hv, hn⟩ | ⟨g, cap, cur, hv, hg, hh, hle, h5, h6, ht⟩
  · injection hv with hA hn2 hc
    subst hA hc
    exact .inl ⟨by rw [show m = 0 by omega], by omega⟩
  · injection hv with hA hn2 hc
    subst hA hc
    refine .inr ⟨g, c, cur, rfl, hg, hh, by omega, h5, h6, ?_⟩
    have : (cur.toList.take (n * 1)).take (m * 1) = B8 (l.take m) := by
      rw [ht]
      simp [B8, List.map_take]
    rw [List.take_take] at this
    rwa [show min (m * 1) (n * 1) = m * 1 by omega] at this
end Kin
namespace Ne
/-- the remainder of any number -/
def rem (N : Int) (m : Nat) : Nat := ((if N < 0 then -(N + 1) else N) % (m : Int)).toNat
theorem rem_lt (N : Int) {m : Nat} (h : 0 < m) : rem N m < m := by
  unfold rem
  have h1 := Int.emod_nonneg (if N < 0 then -(N + 1) else N) (show (m : Int) ≠ 0 by omega)
  have h2 := Int.emod_lt_of_pos (if N < 0 then -(N + 1) else N) (show (0 : Int) < (m : Int) by omega)
  omega
theorem rem_eq (N : Int) {m : Nat} (h : 0 < m) : (if N < 0 then -(N + 1) else N) % (m : Int) = (rem N m : Int) := by
  unfold rem
  have h1 := Int.emod_nonneg (if N < 0 then -(N + 1) else N) (show (m : Int) ≠ 0 by omega)
  omega
/-- bytes as a fate leaves them -/
def bend (k N : Int) (l : List UInt8) : List UInt8 := if l = [] then [] else if k = 3 then l.take (rem N l.length) else if k = 4 then Kin.Crc.flip l (rem N (8 * l.length)) else l
end Ne
namespace Go.Proofs.YtbfhpgpceakeiaaGreatDoor.Tw
open Go.RowKit Kin Go.Proofs.YtbfhpgpceakeiaaGreatDoor

set_option maxHeartbeats 1000000 in
theorem rem_calls (N : Int) (m : Nat) (w : World) (h0 : -9223372036854775808 ≤ N) (h1 : N ≤ 9223372036854775807) (hm : 0 < m) (hm2 : m ≤ 9000000000000000000) :
    Calls Tryz.prog 46 #[.int .i64 N, .int .i64 (m : Int)] w fun e w' => e = .returned (.int .i64 (Ne.rem N m : Int)) ∧ w = w' := by
  have HR := hide (Ne.rem_eq N hm)
  have i1 : (0 : Int) < (m : Int) := by omega
  have i2 : ((m : Int) == 0) = false := by simp; omega
  by_cases hn : N < 0
  · rw [if_pos hn] at HR
    have w1 : IntKind.i64.wrap (N + 1) = N + 1 := by rw [IntKind.wrap_i64]; omega
    have w2 : IntKind.i64.wrap (-(N + 1)) = -(N + 1) := by rw [IntKind.wrap_i64]; omega
    have i3 : 0 ≤ -(N + 1) := by omega
    have HT : Hid ((-(N + 1)).tmod (m : Int) = (-(N + 1)) % (m : Int)) := Int.tmod_eq_emod_of_nonneg i3
    go_enter Tryz.func46, Tryz.ntmps46
    go_wp2
    go_ret
    refine ⟨ret_int ?_, rfl⟩
    rw [← Int.neg_tmod, HT.out]
    exact HR.out
  · rw [if_neg hn] at HR
    have i3 : 0 ≤ N := by omega
    go_enter Tryz.func46, Tryz.ntmps46
    go_wp2
    go_ret
    exact ⟨ret_int HR.out, rfl⟩
theorem u8_flip (b : UInt8) (i : Nat) : bits BinOp.xor IntKind.u8 (b.toNat : Int) ((2 : Int) ^ (i % 8) % 256) = ((b ^^^ UInt8.ofNat (2 ^ (i % 8))).toNat : Int) := by
  have hp : i % 8 < 8 := Nat.mod_lt _ (by omega)
  have h8 : 2 ^ (i % 8) < 2 ^ 8 := Nat.pow_lt_pow_right (by omega) hp
  have h2 : (UInt8.ofNat (2 ^ (i % 8))).toNat = 2 ^ (i % 8) := by rw [UInt8.toNat_ofNat_of_lt']; exact h8
  have e := u8_xor_nat b.toNat (2 ^ (i % 8)) b.toNat_lt h8
  rw [UInt8.toNat_xor, h2, ← e]
  congr 1
  have : ((2 ^ (i % 8) : Nat) : Int) = (2 : Int) ^ (i % 8) := by simp
  rw [← this]
  omega
theorem u8_flip' (b : UInt8) (i : Nat) : ∃ x : UInt8, bits BinOp.xor IntKind.u8 (b.toNat : Int) ((2 : Int) ^ (i % 8) % 256) = (x.toNat : Int) ∧ Hid (x = b ^^^ UInt8.ofNat (2 ^ (i % 8))) := ⟨_, u8_flip b i, rfl⟩
theorem flip_eq {l : List UInt8} {i : Nat} {b x : UInt8} (hb : l[i / 8]? = some b) (hx : x = b ^^^ UInt8.ofNat (2 ^ (i % 8))) : l.set (i / 8) x = Crc.flip l i := by
  unfold Crc.flip
  rw [hx, List.getD, hb]; rfl
set_option maxRecDepth 100000 in
set_option maxHeartbeats 4000000 in
theorem bend_calls (A : Option Addr) (n c : Nat) (l : List UInt8) (K D N : Int) (w : World) (hn : n = l.length) (hm : n ≤ 2000000) (hA : Byt w w.heap.size A l) (h0 : -9223372036854775808 ≤ N) (h1 : N ≤ 9223372036854775807) :
    Calls Tryz.prog 24 #[.slice A n c, .agg #[.int .i64 K, .int .i64 D, .int .i64 N]] w (RetBytes w (Ne.bend K N l)) := by
  have e1 := (Below.refl w.heap.size w).alloc (Nat.le_refl _) (.cells #[.int .i64 K, .int .i64 D, .int .i64 N] 29)
  have HCL := hide (C20.clone_calls A n c l (w.alloc (.cells #[.int .i64 K, .int .i64 D, .int .i64 N] 29)) hn (by omega) (hA.below e1))
  have HR := hide (fun (m : Nat) (w : World) (h2 : 0 < m) (h3 : m ≤ 9000000000000000000) => rem_calls N m w h0 h1 h2 h3)
  have b1 := Blk.new w 29 #[.int .i64 K, .int .i64 D, .int .i64 N]
  obtain ⟨gf, hgf⟩ : ∃ x, w.heap.size = x := ⟨_, rfl⟩
  have HGF := hide hgf
  rw [hgf] at b1
  have B1 := hide b1
  have E1 := hide e1
  have HN := hide hn
  clear hn hA h0 h1 hgf b1 e1
  go_enter Tryz.func24, Tryz.ntmps24
  go_wp2_with fail
  rw [HGF.out]
  refine HCL.out.mono ?_
  rintro en w1 ⟨A2, n2, c2, rfl, o2, g2, bel⟩
  have b2 := B1.out.below bel B1.out.lt
  have E2 := hide (E1.out.trans (bel.mono E1.out.size))
  have O2 := hide o2
  have G2 : Hid (∀ g, blkOf A2 = some g → w.heap.size ≤ g) := fun g hg => Nat.le_trans E1.out.size (g2 g hg)
  have hl2 := o2.len
  clear B1 E1 bel o2 g2 HCL
  by_cases hl : l = []
  · have hz : n2 = 0 := by rw [hl2, hl]; rfl
    subst hz
    have HL := hide hl
    clear hl hl2 b2
    go_wp2
    go_ret
    exact ⟨A2, 0, c2, rfl, by rw [show Ne.bend K N l = l by unfold Ne.bend; rw [if_pos HL.out, HL.out]]; exact O2.out, G2.out, E2.out⟩
  · have hp : 0 < n2 := by rw [hl2]; exact List.length_pos_iff.2 hl
    have hn2 : n2 ≤ 2000000 := by rw [hl2, ← HN.out]; exact hm
    have i1 : ((n2 : Int) == 0) = false := by simp; omega
    have HL := hide hl
    have HL2 := hide hl2
    have d0 : w1.cell? ⟨gf, 0, none⟩ = some (.int .i64 K) := b2.cell 0
    have d2 : w1.cell? ⟨gf, 2, none⟩ = some (.int .i64 N) := b2.cell 2
    clear hl hl2 b2
    by_cases hk : K = 3
    · subst hk
      have hr := Ne.rem_lt N hp
      have hsl : ∀ w', Sem.run Tryz.prog (Instr.sliceAt 23 (.slice A2 n2 c2) none (some (.int .i64 (Ne.rem N n2 : Int))) none) w' = .ok (.slice A2 (Ne.rem N n2) c2) w' := fun w' => run_cut8h bytesT _ _ _ .i64 _ _ rfl (by have := own8_cap O2.out; omega) w'
      go_wp2_with fail
      refine (HR.out n2 _ hp (by omega)).mono ?_
      rintro en w2 ⟨rfl, rfl⟩
      have O3 := hide (O2.out.take (m := Ne.rem N n2) (by omega))
      have HB : Hid (Ne.bend 3 N l = l.take (Ne.rem N n2)) := by show Ne.bend 3 N l = _; unfold Ne.bend; rw [if_neg HL.out, if_pos rfl, ← HL2.out]
      clear hr
      go_wp2
      go_ret
      exact ⟨A2, _, c2, rfl, by rw [HB.out]; exact O3.out, G2.out, E2.out⟩
    · have i2 : (K == 3) = false := by simp [hk]
      have HK := hide hk
      clear hk
      by_cases hk4 : K = 4
      · subst hk4
        have w8 : IntKind.i64.wrap (8 * (n2 : Int)) = 8 * (n2 : Int) := by rw [IntKind.wrap_i64]; omega
        have HR8 := hide (HR.out (8 * n2) w1 (by omega) (by omega))
        have hr := Ne.rem_lt N (m := 8 * n2) (by omega)
        go_wp2_with fail
        refine HR8.out.mono ?_
        rintro en w2 ⟨rfl, rfl⟩
        have HB : Hid (Ne.bend 4 N l = Crc.flip l (Ne.rem N (8 * n2))) := by show Ne.bend 4 N l = _; unfold Ne.bend; rw [if_neg HL.out, if_neg (by omega), if_pos rfl, ← HL2.out]
        generalize Ne.rem N (8 * n2) = i at *
        obtain ⟨gx, b, rfl, hb, hc, hf⟩ := O2.out.at_ (k := i / 8) (by omega)
        have hc' : w1.cell? ⟨gx, i / 8, none⟩ = some (.int .u8 (b.toNat : Int)) := hc
        obtain ⟨x, hx, HX⟩ := u8_flip' b i
        have hx9 : bits BinOp.xor IntKind.u8 (b.toNat : Int) (IntKind.u8.wrap ((2 : Int) ^ ((i : Int) % 8).toNat)) = (x.toNat : Int) := by
          rw [show ((i : Int) % 8).toNat = i % 8 by omega]
          exact hx
        clear hx
        have j1 : (0 : Int) ≤ (i : Int) / 8 := by omega
        have j2 : (i : Int) / 8 < (n2 : Int) := by omega
        have j3 : ((i : Int) / 8).toNat = i / 8 := by omega
        have j4 : IntKind.i64.wrap ((i : Int) / 8) = (i : Int) / 8 := by rw [IntKind.wrap_i64]; omega
        have j5 : (i : Int).tmod 8 = ((i % 8 : Nat) : Int) := by rw [Int.tmod_eq_emod_of_nonneg (by omega)]; rfl
        have O3 := hide (O2.out.set (k := i / 8) rfl x)
        have E3 := hide (E2.out.setCell (p := ⟨gx, i / 8, none⟩) (G2.out gx rfl) (.int .u8 (x.toNat : Int)))
        have HBX := hide hb
        clear hb hc
        go_wp2_with fail
        go_region_law (fail)
        all_goals
          have O4 := hide O3.out.drew
          have E4 := hide E3.out.drew
          have HF : Hid (Crc.flip l i = l.set (i / 8) x) := (flip_eq HBX.out HX.out).symm
          generalize (w1.setCell ⟨gx, i / 8, none⟩ (.int .u8 (x.toNat : Int))).drew = V at *
          clear hx9 hf hc' d0 d2
          go_wp2
          go_ret
          exact ⟨some ⟨gx, 0, none⟩, n2, c2, rfl, by rw [HB.out, HF.out]; exact O4.out, G2.out, E4.out⟩
      · have i3 : (K == 4) = false := by simp [hk4]
        have HB : Hid (Ne.bend K N l = l) := by show Ne.bend K N l = _; unfold Ne.bend; rw [if_neg HL.out, if_neg HK.out, if_neg hk4]
        clear hk4
        go_wp2
        go_ret
        exact ⟨A2, n2, c2, rfl, by rw [HB.out]; exact O2.out, G2.out, E2.out⟩
end Go.Proofs.YtbfhpgpceakeiaaGreatDoor.Tw
namespace Go.Proofs.YtbfhpgpceakeiaaGreatDoor.Tw
open Go.RowKit Kin Go.Proofs.YtbfhpgpceakeiaaGreatDoor

abbrev netC (t s : Int) (q0 q1 : Value) : Array Value := #[.int .i64 t, .int .i64 s, q0, q1]
theorem netNew_calls (w : World) : Calls Tryz.prog 5 #[] w fun e w' => e = .returned (.pointer (some ⟨w.heap.size, 0, none⟩)) ∧ Blk w' w.heap.size 80 (netC 0 0 (.slice none 0 0) (.slice none 0 0)) ∧ Below w.heap.size w w' := by
  have h := Blk.new w 80 (netC 0 0 (.slice none 0 0) (.slice none 0 0))
  have e := (Below.refl w.heap.size w).alloc (Nat.le_refl _) (.cells (netC 0 0 (.slice none 0 0) (.slice none 0 0)) 80)
  have H := hide h
  have E := hide e
  clear h e
  go_enter Tryz.func5, Tryz.ntmps5
  go_wp2
  go_ret
  exact ⟨rfl, H.out, E.out⟩
theorem netTick_calls (g : Nat) (t s : Int) (q0 q1 : Value) (w : World) (h : Blk w g 80 (netC t s q0 q1)) (h0 : 0 ≤ t) (h1 : t ≤ 1000000) :
    Calls Tryz.prog 9 #[.pointer (some ⟨g, 0, none⟩)] w fun e w' => e = .returned (.int .i64 0) ∧ Blk w' g 80 (netC (t + 1) s q0 q1) ∧ Chg (fun k => k = g) w w' := by
  have c0 : w.cell? ⟨g, 0, none⟩ = some (.int .i64 t) := h.cell 0
  have f0 := h.frozen 0
  have H := hide (h.set_ 0 (.int .i64 (t + 1)))
  have C := hide ((Chg.refl (fun k => k = g) w).setCell (p := ⟨g, 0, none⟩) (.inl rfl) (.int .i64 (t + 1)))
  clear h
  go_enter Tryz.func9, Tryz.ntmps9
  go_wp2
  go_ret
  exact ⟨rfl, by have := H.out; simpa using this, C.out⟩
set_option maxHeartbeats 1000000 in
theorem netLen_calls (g : Nat) (t s : Int) (A0 A1 : Option Addr) (n0 c0 n1 c1 : Nat) (w : World) (h : Blk w g 80 (netC t s (.slice A0 n0 c0) (.slice A1 n1 c1))) (h0 : n0 ≤ 1000) (h1 : n1 ≤ 1000) :
    Calls Tryz.prog 13 #[.pointer (some ⟨g, 0, none⟩)] w fun e w' => e = .returned (.int .i64 ((n0 : Int) + (n1 : Int))) ∧ w = w' := by
  have k0 : w.cell? ⟨g, 2, none⟩ = some (.slice A0 n0 c0) := h.cell 2
  have k1 : w.cell? ⟨g, 3, none⟩ = some (.slice A1 n1 c1) := h.cell 3
  clear h
  go_enter Tryz.func13, Tryz.ntmps13
  go_wp2_with fail
  refine wp_loop_rounds 3 ?_
  rw [rounds_succ]
  go_wp2_with fail
  refine (len_calls A0 n0 c0 _).mono ?_
  rintro en w1 ⟨rfl, rfl⟩
  go_wp2_with fail
  rw [rounds_succ]
  go_wp2_with fail
  refine (len_calls A1 n1 c1 _).mono ?_
  rintro en w1 ⟨rfl, rfl⟩
  go_wp2_with fail
  rw [rounds_succ]
  go_wp2
  go_ret
  exact ⟨rfl, rfl⟩
/-- one packet was sent -/
def RetSend (g : Nat) (mk : Value → Array Value) (Aq : Option Addr) (due s : Int) (l : List UInt8) (w : World) (e : Ending) (w' : World) : Prop :=
  e = .returned (.int .i64 0) ∧ ∃ A' c' Ad nd cd, Blk w' g 80 (mk (.slice A' 1 c')) ∧ OwnR w' 88 3 A' 1 c' [pkR due s Ad nd cd] ∧ Own8 w' 5 Ad nd cd l ∧ (∀ k, blkOf Ad = some k → w.heap.size ≤ k) ∧ (blkOf A' = blkOf Aq ∨ ∃ k, blkOf A' = some k ∧ w.heap.size ≤ k) ∧ Chg (fun k => k = g ∨ blkOf Aq = some k) w w'
set_option maxRecDepth 100000 in
set_option maxHeartbeats 8000000 in
theorem send0_calls (g : Nat) (t s : Int) (Aq A1 : Option Addr) (cq n1 c1 : Nat) (A : Option Addr) (n c : Nat) (l : List UInt8) (K D N : Int) (w : World)
    (h : Blk w g 80 (netC t s (.slice Aq 0 cq) (.slice A1 n1 c1))) (hown : OwnR w 88 3 Aq 0 cq []) (hn1 : n1 ≤ 100) (ht : 0 ≤ t ∧ t ≤ 1000000) (hs : 0 ≤ s ∧ s ≤ 1000000) (hK : K = 0 ∨ K = 3 ∨ K = 4) (hD : 0 ≤ D ∧ D ≤ 1000) (h0 : -9223372036854775808 ≤ N) (h1 : N ≤ 9223372036854775807)
    (hn : n = l.length) (hm : n ≤ 2000000) (hA : Byt w w.heap.size A l) :
    Calls Tryz.prog 8 #[.pointer (some ⟨g, 0, none⟩), .int .i64 0, .slice A n c, .agg #[.int .i64 K, .int .i64 D, .int .i64 N]] w (RetSend g (fun q => netC t (s + 1) q (.slice A1 n1 c1)) Aq (t + D) s (Ne.bend K N l) w) := by
  have e1 := (Below.refl w.heap.size w).alloc (Nat.le_refl _) (.cells #[.int .i64 K, .int .i64 D, .int .i64 N] 29)
  have b1 := Blk.new w 29 #[.int .i64 K, .int .i64 D, .int .i64 N]
  have n1' := h.alloc (.cells #[.int .i64 K, .int .i64 D, .int .i64 N] 29)
  have o1 := hown.alloc (.cells #[.int .i64 K, .int .i64 D, .int .i64 N] 29)
  have y1 : Byt (w.alloc (.cells #[.int .i64 K, .int .i64 D, .int .i64 N] 29)) (w.alloc (.cells #[.int .i64 K, .int .i64 D, .int .i64 N] 29)).heap.size A l := (hA.below e1).more e1.size
  have HLN := hide (fun (w : World) (h : Blk w g 80 (netC t s (.slice Aq 0 cq) (.slice A1 n1 c1))) => netLen_calls g t s Aq A1 0 cq n1 c1 w h (by omega) (by omega))
  have HBE := hide (fun (w : World) (h : Byt w w.heap.size A l) => bend_calls A n c l K D N w hn hm h h0 h1)
  have HPU := hide (fun (Ad : Option Addr) (nd cd : Nat) (w : World) (h : Blk w g 80 (netC t s (.slice Aq 0 cq) (.slice A1 n1 c1))) (ho : OwnR w 88 3 Aq 0 cq []) => hPush0_calls g 2 cq 80 (netC t s (.slice Aq 0 cq) (.slice A1 n1 c1)) Aq (t + D) s Ad nd cd w h rfl (by decide) ho)
  obtain ⟨gf, hgf⟩ : ∃ x, w.heap.size = x := ⟨_, rfl⟩
  have HGF := hide hgf
  rw [hgf] at b1
  have HGN : Hid (g < gf) := by rw [← hgf]; exact h.lt
  have HAQ : Hid (∀ k, blkOf Aq = some k → k < gf) := fun k hk => by rw [← hgf]; exact hown.lt k hk
  have HGX : Hid (¬ (gf = g ∨ blkOf Aq = some gf)) := fun h => by
    rcases h with h | h
    · have := HGN.out; omega
    · have := HAQ.out gf h; omega
  obtain ⟨ht0, ht1⟩ := ht
  obtain ⟨hs0, hs1⟩ := hs
  obtain ⟨hD0, hD1⟩ := hD
  have k0 : decide (K < 0) = false := by simp; omega
  have k5 : decide (5 ≤ K) = false := by simp; omega
  have k2 : (K == 2) = false := by simp; omega
  have k1 : (K == 1) = false := by simp; omega
  have d0 : decide (D < 0) = false := by simp; omega
  have d1 : decide (1000 < D) = false := by simp; omega
  have B1 := hide b1
  have E1 := hide e1
  have N1 := hide n1'
  have O1 := hide o1
  have Y1 := hide y1
  have f0 : (w.alloc (.cells #[.int .i64 K, .int .i64 D, .int .i64 N] 29)).cell? ⟨gf, 0, none⟩ = some (.int .i64 K) := b1.cell 0
  have f1 : (w.alloc (.cells #[.int .i64 K, .int .i64 D, .int .i64 N] 29)).cell? ⟨gf, 1, none⟩ = some (.int .i64 D) := b1.cell 1
  clear h hown hn hm hA h0 h1 b1 e1 n1' o1 y1 hK
  go_enter Tryz.func8, Tryz.ntmps8
  go_wp2_with fail
  generalize w.alloc (.cells #[.int .i64 K, .int .i64 D, .int .i64 N] 29) = W1 at *
  refine (HLN.out _ N1.out).mono ?_
  rintro en w2 ⟨rfl, rfl⟩
  have Y2 : Hid (Byt W1.drew W1.drew.heap.size A l) := Y1.out.drew
  have j1 : ¬ (200 : Int) < ((0 : Int) + (n1 : Int)) + 1 := by omega
  have x0 : IntKind.i64.wrap 1 = 1 := rfl
  have x3 : IntKind.i64.wrap D = D := by rw [IntKind.wrap_i64]; omega
  have x1 : IntKind.i64.wrap (t + D) = t + D := by rw [IntKind.wrap_i64]; omega
  have G0 : Hid (W1.drew.cell? ⟨g, 0, none⟩ = some (.int .i64 t) ∧ W1.drew.cell? ⟨g, 1, none⟩ = some (.int .i64 s) ∧ W1.drew.cell? ⟨gf, 0, none⟩ = some (.int .i64 K) ∧ W1.drew.cell? ⟨gf, 1, none⟩ = some (.int .i64 D) ∧ W1.drew.cell? ⟨gf, 2, none⟩ = some (.int .i64 N)) := ⟨N1.out.cell 0, N1.out.cell 1, B1.out.cell 0, B1.out.cell 1, B1.out.cell 2⟩
  go_wp2_with fail
  refine wp_loop_rounds 2 ?_
  rw [rounds_succ]
  go_wp2_with fail
  go_region_held3 (fun w' => w'.cell? ⟨g, 0, none⟩ = some (.int .i64 t) ∧ w'.cell? ⟨g, 1, none⟩ = some (.int .i64 s) ∧ w'.cell? ⟨gf, 0, none⟩ = some (.int .i64 K) ∧ w'.cell? ⟨gf, 1, none⟩ = some (.int .i64 D) ∧ w'.cell? ⟨gf, 2, none⟩ = some (.int .i64 N)) (first | with_reducible exact G0.out | with_reducible exact G1.out | with_reducible exact G2.out)
    ((first | (go_at_call 24; (with_reducible refine (HBE.out _ Y2.out).mono ?_); rintro e w3 ⟨Ad, nd, cd, rfl, od, gd, bel⟩; have N3 := hide (N1.out.drew.below bel N1.out.drew.lt); have O3 := hide (O1.out.drew.next bel); have D3 := hide od; have L3 := hide gd; have B3 := hide (B1.out.drew.below bel B1.out.drew.lt); have E3 := hide (E1.out.drew.trans (bel.mono E1.out.size)); have G1 : Hid (w3.cell? ⟨g, 0, none⟩ = some (.int .i64 t) ∧ w3.cell? ⟨g, 1, none⟩ = some (.int .i64 s) ∧ w3.cell? ⟨gf, 0, none⟩ = some (.int .i64 K) ∧ w3.cell? ⟨gf, 1, none⟩ = some (.int .i64 D) ∧ w3.cell? ⟨gf, 2, none⟩ = some (.int .i64 N)) := ⟨N3.out.cell 0, N3.out.cell 1, B3.out.cell 0, B3.out.cell 1, B3.out.cell 2⟩; clear bel od gd) | (go_at_call 23; (with_reducible refine (HPU.out Ad nd cd _ N3.out O3.out).mono ?_); rintro e w4 ⟨rfl, A', c', b4, o4, hl4, hc4⟩; have B4 := hide (hc4.blk B3.out HGX.out); have G2 : Hid (w4.cell? ⟨g, 0, none⟩ = some (.int .i64 t) ∧ w4.cell? ⟨g, 1, none⟩ = some (.int .i64 s) ∧ w4.cell? ⟨gf, 0, none⟩ = some (.int .i64 K) ∧ w4.cell? ⟨gf, 1, none⟩ = some (.int .i64 D) ∧ w4.cell? ⟨gf, 2, none⟩ = some (.int .i64 N)) := ⟨b4.cell 0, b4.cell 1, B4.out.cell 0, B4.out.cell 1, B4.out.cell 2⟩)))
  have q4 : Blk w4 g 80 (netC t s (.slice A' 1 c') (.slice A1 n1 c1)) := b4
  have k1 : w4.cell? ⟨g, 1, none⟩ = some (.int .i64 s) := q4.cell 1
  have k2 := q4.frozen 1
  have Q5 := hide (q4.set_ 1 (.int .i64 (s + 1)))
  have C5 := hide (hc4.setCell (p := ⟨g, 1, none⟩) (.inl (.inl rfl)) (.int .i64 (s + 1)))
  have D4 := hide (hc4.own D3.out (fun k hk => by
    rintro (e | e)
    · have h1 := L3.out k hk; have h2 := HGN.out; have h3 := HGF.out; have h4 := E1.out.size; have h5 : W1.heap.size ≤ k := h1; omega
    · have h1 := L3.out k hk; have h2 := HAQ.out k e; have h3 := HGF.out; have h4 := E1.out.size; have h5 : W1.heap.size ≤ k := h1; omega))
  have O4 := hide o4
  have HL4 := hide hl4
  have x2 : IntKind.i64.wrap (s + 1) = s + 1 := by rw [IntKind.wrap_i64]; omega
  have O5 := hide (Chg.ownR (S := fun k => k = g) ((Chg.refl (fun k => k = g) w4).setCell (p := ⟨g, 1, none⟩) (.inl rfl) (.int .i64 (s + 1))) o4 (fun r hr e => o4.ne_blk q4 (by decide) (by rw [hr, e])))
  have D5 := hide (D4.out.setFar (p := ⟨g, 1, none⟩) (fun e => by have h1 := L3.out g e; have h2 := HGN.out; have h3 := HGF.out; have h4 := E1.out.size; have h5 : W1.heap.size ≤ g := h1; omega) (.int .i64 (s + 1)))
  have HL5 : Hid (blkOf A' = blkOf Aq ∨ ∃ k, blkOf A' = some k ∧ w.heap.size ≤ k) := hl4.imp id (fun ⟨k, h1, h2⟩ => ⟨k, h1, Nat.le_trans E3.out.size h2⟩)
  have C6 := hide ((Chg.of_below (S := fun k => k = g ∨ blkOf Aq = some k) E3.out).same C5.out)
  have L5 : Hid (∀ k, blkOf Ad = some k → w.heap.size ≤ k) := fun k hk => Nat.le_trans E1.out.size (L3.out k hk)
  clear b4 o4 hl4 hc4 q4 G0 G1 G2
  go_wp2_with fail
  rw [rounds_succ]
  go_wp2
  go_ret
  exact ⟨rfl, A', c', Ad, nd, cd, Q5.out, O5.out, D5.out, L5.out, HL5.out, C6.out⟩
set_option maxRecDepth 100000 in
set_option maxHeartbeats 8000000 in
theorem send1_calls (g : Nat) (t s : Int) (Aq A1 : Option Addr) (cq n1 c1 : Nat) (A : Option Addr) (n c : Nat) (l : List UInt8) (K D N : Int) (w : World)
    (h : Blk w g 80 (netC t s (.slice A1 n1 c1) (.slice Aq 0 cq))) (hown : OwnR w 88 3 Aq 0 cq []) (hn1 : n1 ≤ 100) (ht : 0 ≤ t ∧ t ≤ 1000000) (hs : 0 ≤ s ∧ s ≤ 1000000) (hK : K = 0 ∨ K = 3 ∨ K = 4) (hD : 0 ≤ D ∧ D ≤ 1000) (h0 : -9223372036854775808 ≤ N) (h1 : N ≤ 9223372036854775807)
    (hn : n = l.length) (hm : n ≤ 2000000) (hA : Byt w w.heap.size A l) :
    Calls Tryz.prog 8 #[.pointer (some ⟨g, 0, none⟩), .int .i64 1, .slice A n c, .agg #[.int .i64 K, .int .i64 D, .int .i64 N]] w (RetSend g (fun q => netC t (s + 1) (.slice A1 n1 c1) q) Aq (t + D) s (Ne.bend K N l) w) := by
  have e1 := (Below.refl w.heap.size w).alloc (Nat.le_refl _) (.cells #[.int .i64 K, .int .i64 D, .int .i64 N] 29)
  have b1 := Blk.new w 29 #[.int .i64 K, .int .i64 D, .int .i64 N]
  have n1' := h.alloc (.cells #[.int .i64 K, .int .i64 D, .int .i64 N] 29)
  have o1 := hown.alloc (.cells #[.int .i64 K, .int .i64 D, .int .i64 N] 29)
  have y1 : Byt (w.alloc (.cells #[.int .i64 K, .int .i64 D, .int .i64 N] 29)) (w.alloc (.cells #[.int .i64 K, .int .i64 D, .int .i64 N] 29)).heap.size A l := (hA.below e1).more e1.size
  have HLN := hide (fun (w : World) (h : Blk w g 80 (netC t s (.slice A1 n1 c1) (.slice Aq 0 cq))) => netLen_calls g t s A1 Aq n1 c1 0 cq w h (by omega) (by omega))
  have HBE := hide (fun (w : World) (h : Byt w w.heap.size A l) => bend_calls A n c l K D N w hn hm h h0 h1)
  have HPU := hide (fun (Ad : Option Addr) (nd cd : Nat) (w : World) (h : Blk w g 80 (netC t s (.slice A1 n1 c1) (.slice Aq 0 cq))) (ho : OwnR w 88 3 Aq 0 cq []) => hPush0_calls g 3 cq 80 (netC t s (.slice A1 n1 c1) (.slice Aq 0 cq)) Aq (t + D) s Ad nd cd w h rfl (by decide) ho)
  obtain ⟨gf, hgf⟩ : ∃ x, w.heap.size = x := ⟨_, rfl⟩
  have HGF := hide hgf
  rw [hgf] at b1
  have HGN : Hid (g < gf) := by rw [← hgf]; exact h.lt
  have HAQ : Hid (∀ k, blkOf Aq = some k → k < gf) := fun k hk => by rw [← hgf]; exact hown.lt k hk
  have HGX : Hid (¬ (gf = g ∨ blkOf Aq = some gf)) := fun h => by
    rcases h with h | h
    · have := HGN.out; omega
    · have := HAQ.out gf h; omega
  obtain ⟨ht0, ht1⟩ := ht
  obtain ⟨hs0, hs1⟩ := hs
  obtain ⟨hD0, hD1⟩ := hD
  have k0 : decide (K < 0) = false := by simp; omega
  have k5 : decide (5 ≤ K) = false := by simp; omega
  have k2 : (K == 2) = false := by simp; omega
  have k1 : (K == 1) = false := by simp; omega
  have d0 : decide (D < 0) = false := by simp; omega
  have d1 : decide (1000 < D) = false := by simp; omega
  have B1 := hide b1
  have E1 := hide e1
  have N1 := hide n1'
  have O1 := hide o1
  have Y1 := hide y1
  have f0 : (w.alloc (.cells #[.int .i64 K, .int .i64 D, .int .i64 N] 29)).cell? ⟨gf, 0, none⟩ = some (.int .i64 K) := b1.cell 0
  have f1 : (w.alloc (.cells #[.int .i64 K, .int .i64 D, .int .i64 N] 29)).cell? ⟨gf, 1, none⟩ = some (.int .i64 D) := b1.cell 1
  clear h hown hn hm hA h0 h1 b1 e1 n1' o1 y1 hK
  go_enter Tryz.func8, Tryz.ntmps8
  go_wp2_with fail
  generalize w.alloc (.cells #[.int .i64 K, .int .i64 D, .int .i64 N] 29) = W1 at *
  refine (HLN.out _ N1.out).mono ?_
  rintro en w2 ⟨rfl, rfl⟩
  have Y2 : Hid (Byt W1.drew W1.drew.heap.size A l) := Y1.out.drew
  have j1 : ¬ (200 : Int) < ((n1 : Int) + 0) + 1 := by omega
  have x0 : IntKind.i64.wrap 1 = 1 := rfl
  have x3 : IntKind.i64.wrap D = D := by rw [IntKind.wrap_i64]; omega
  have x1 : IntKind.i64.wrap (t + D) = t + D := by rw [IntKind.wrap_i64]; omega
  have G0 : Hid (W1.drew.cell? ⟨g, 0, none⟩ = some (.int .i64 t) ∧ W1.drew.cell? ⟨g, 1, none⟩ = some (.int .i64 s) ∧ W1.drew.cell? ⟨gf, 0, none⟩ = some (.int .i64 K) ∧ W1.drew.cell? ⟨gf, 1, none⟩ = some (.int .i64 D) ∧ W1.drew.cell? ⟨gf, 2, none⟩ = some (.int .i64 N)) := ⟨N1.out.cell 0, N1.out.cell 1, B1.out.cell 0, B1.out.cell 1, B1.out.cell 2⟩
  go_wp2_with fail
  refine wp_loop_rounds 2 ?_
  rw [rounds_succ]
  go_wp2_with fail
  go_region_held3 (fun w' => w'.cell? ⟨g, 0, none⟩ = some (.int .i64 t) ∧ w'.cell? ⟨g, 1, none⟩ = some (.int .i64 s) ∧ w'.cell? ⟨gf, 0, none⟩ = some (.int .i64 K) ∧ w'.cell? ⟨gf, 1, none⟩ = some (.int .i64 D) ∧ w'.cell? ⟨gf, 2, none⟩ = some (.int .i64 N)) (first | with_reducible exact G0.out | with_reducible exact G1.out | with_reducible exact G2.out)
    ((first | (go_at_call 24; (with_reducible refine (HBE.out _ Y2.out).mono ?_); rintro e w3 ⟨Ad, nd, cd, rfl, od, gd, bel⟩; have N3 := hide (N1.out.drew.below bel N1.out.drew.lt); have O3 := hide (O1.out.drew.next bel); have D3 := hide od; have L3 := hide gd; have B3 := hide (B1.out.drew.below bel B1.out.drew.lt); have E3 := hide (E1.out.drew.trans (bel.mono E1.out.size)); have G1 : Hid (w3.cell? ⟨g, 0, none⟩ = some (.int .i64 t) ∧ w3.cell? ⟨g, 1, none⟩ = some (.int .i64 s) ∧ w3.cell? ⟨gf, 0, none⟩ = some (.int .i64 K) ∧ w3.cell? ⟨gf, 1, none⟩ = some (.int .i64 D) ∧ w3.cell? ⟨gf, 2, none⟩ = some (.int .i64 N)) := ⟨N3.out.cell 0, N3.out.cell 1, B3.out.cell 0, B3.out.cell 1, B3.out.cell 2⟩; clear bel od gd) | (go_at_call 23; (with_reducible refine (HPU.out Ad nd cd _ N3.out O3.out).mono ?_); rintro e w4 ⟨rfl, A', c', b4, o4, hl4, hc4⟩; have B4 := hide (hc4.blk B3.out HGX.out); have G2 : Hid (w4.cell? ⟨g, 0, none⟩ = some (.int .i64 t) ∧ w4.cell? ⟨g, 1, none⟩ = some (.int .i64 s) ∧ w4.cell? ⟨gf, 0, none⟩ = some (.int .i64 K) ∧ w4.cell? ⟨gf, 1, none⟩ = some (.int .i64 D) ∧ w4.cell? ⟨gf, 2, none⟩ = some (.int .i64 N)) := ⟨b4.cell 0, b4.cell 1, B4.out.cell 0, B4.out.cell 1, B4.out.cell 2⟩)))
  have q4 : Blk w4 g 80 (netC t s (.slice A1 n1 c1) (.slice A' 1 c')) := b4
  have k1 : w4.cell? ⟨g, 1, none⟩ = some (.int .i64 s) := q4.cell 1
  have k2 := q4.frozen 1
  have Q5 := hide (q4.set_ 1 (.int .i64 (s + 1)))
  have C5 := hide (hc4.setCell (p := ⟨g, 1, none⟩) (.inl (.inl rfl)) (.int .i64 (s + 1)))
  have D4 := hide (hc4.own D3.out (fun k hk => by
    rintro (e | e)
    · have h1 := L3.out k hk; have h2 := HGN.out; have h3 := HGF.out; have h4 := E1.out.size; have h5 : W1.heap.size ≤ k := h1; omega
    · have h1 := L3.out k hk; have h2 := HAQ.out k e; have h3 := HGF.out; have h4 := E1.out.size; have h5 : W1.heap.size ≤ k := h1; omega))
  have O4 := hide o4
  have HL4 := hide hl4
  have x2 : IntKind.i64.wrap (s + 1) = s + 1 := by rw [IntKind.wrap_i64]; omega
  have O5 := hide (Chg.ownR (S := fun k => k = g) ((Chg.refl (fun k => k = g) w4).setCell (p := ⟨g, 1, none⟩) (.inl rfl) (.int .i64 (s + 1))) o4 (fun r hr e => o4.ne_blk q4 (by decide) (by rw [hr, e])))
  have D5 := hide (D4.out.setFar (p := ⟨g, 1, none⟩) (fun e => by have h1 := L3.out g e; have h2 := HGN.out; have h3 := HGF.out; have h4 := E1.out.size; have h5 : W1.heap.size ≤ g := h1; omega) (.int .i64 (s + 1)))
  have HL5 : Hid (blkOf A' = blkOf Aq ∨ ∃ k, blkOf A' = some k ∧ w.heap.size ≤ k) := hl4.imp id (fun ⟨k, h1, h2⟩ => ⟨k, h1, Nat.le_trans E3.out.size h2⟩)
  have C6 := hide ((Chg.of_below (S := fun k => k = g ∨ blkOf Aq = some k) E3.out).same C5.out)
  have L5 : Hid (∀ k, blkOf Ad = some k → w.heap.size ≤ k) := fun k hk => Nat.le_trans E1.out.size (L3.out k hk)
  clear b4 o4 hl4 hc4 q4 G0 G1 G2
  go_wp2_with fail
  rw [rounds_succ]
  go_wp2
  go_ret
  exact ⟨rfl, A', c', Ad, nd, cd, Q5.out, O5.out, D5.out, L5.out, HL5.out, C6.out⟩
end Go.Proofs.YtbfhpgpceakeiaaGreatDoor.Tw
namespace Go.Proofs.YtbfhpgpceakeiaaGreatDoor.Tw
open Go.RowKit Kin Go.Proofs.YtbfhpgpceakeiaaGreatDoor

/-- a packet came off -/
def RetNext (g gq : Nat) (cs : Array Value) (xs : List Value) (A : Option Addr) (m cm : Nat) (w : World) (e : Ending) (w' : World) : Prop :=
  e = .returned (.tuple #[.slice A m cm, .bool true]) ∧ Blk w' g 80 cs ∧ Blk w' gq 88 xs.toArray ∧ Chg (fun k => k = g ∨ k = gq) w w'
set_option maxRecDepth 100000 in
set_option maxHeartbeats 2000000 in
theorem next0_none (g : Nat) (t s : Int) (Aq : Option Addr) (cq : Nat) (q1 : Value) (w : World) (h : Blk w g 80 (netC t s (.slice Aq 0 cq) (q1))) :
    Calls Tryz.prog 10 #[.pointer (some ⟨g, 0, none⟩), .int .i64 0] w fun e w' => e = .returned (.tuple #[.slice none 0 0, .bool false]) ∧ Below w.heap.size w w' := by
  have c0 : w.cell? ⟨g, 2, none⟩ = some (.slice Aq 0 cq) := h.cell 2
  clear h
  go_enter Tryz.func10, Tryz.ntmps10
  go_wp2_with fail
  go_quiet ((go_at_call 25; exact Calls.quiet_of_same ((len_calls Aq 0 cq _).mono (fun _ _ h => ⟨h.1, h.2.symm⟩))))
  go_wp2
  go_ret2
  exact ⟨rfl, bdN w nq⟩
set_option maxRecDepth 100000 in
set_option maxHeartbeats 2000000 in
theorem next1_none (g : Nat) (t s : Int) (Aq : Option Addr) (cq : Nat) (q1 : Value) (w : World) (h : Blk w g 80 (netC t s (q1) (.slice Aq 0 cq))) :
    Calls Tryz.prog 10 #[.pointer (some ⟨g, 0, none⟩), .int .i64 1] w fun e w' => e = .returned (.tuple #[.slice none 0 0, .bool false]) ∧ Below w.heap.size w w' := by
  have c0 : w.cell? ⟨g, 3, none⟩ = some (.slice Aq 0 cq) := h.cell 3
  clear h
  go_enter Tryz.func10, Tryz.ntmps10
  go_wp2_with fail
  go_quiet ((go_at_call 25; exact Calls.quiet_of_same ((len_calls Aq 0 cq _).mono (fun _ _ h => ⟨h.1, h.2.symm⟩))))
  go_wp2
  go_ret2
  exact ⟨rfl, bdN w nq⟩
set_option maxRecDepth 100000 in
set_option maxHeartbeats 4000000 in
theorem next0_1 (g gq c : Nat) (t s : Int) (d k : Int) (A : Option Addr) (m cm : Nat) (rest : List Value) (q1 : Value) (w : World) (h : Blk w g 80 (netC t s (.slice (some ⟨gq, 0, none⟩) 1 c) (q1))) (hq : Blk w gq 88 (pkR d k A m cm ++ rest).toArray) (hc : 1 ≤ c) (hd : d ≤ t) :
    Calls Tryz.prog 10 #[.pointer (some ⟨g, 0, none⟩), .int .i64 0] w (RetNext g gq (netC t s (.slice (some ⟨gq, 0, none⟩) 0 c) (q1)) (pkR 0 0 none 0 0 ++ rest) A m cm w) := by
  have HPO := hide (fun (w : World) (h : Blk w g 80 (netC t s (.slice (some ⟨gq, 0, none⟩) 1 c) (q1))) (hq : Blk w gq 88 (pkR d k A m cm ++ rest).toArray) => hPop1_calls g 2 gq c 80 (netC t s (.slice (some ⟨gq, 0, none⟩) 1 c) (q1)) d k A m cm rest w h rfl (by decide) hc hq)
  have hta : ∀ w', Sem.run Tryz.prog (Instr.typeAssert (.iface 88 (.agg #[.int .i64 d, .int .i64 k, .slice A m cm])) 20 88 true) w' = .ok (.tuple #[.agg #[.int .i64 d, .int .i64 k, .slice A m cm], .bool true]) w' := fun _ => rfl
  have i0 : decide (t < d) = false := by simpa using hd
  have c0 : w.cell? ⟨g, 2, none⟩ = some (.slice (some ⟨gq, 0, none⟩) 1 c) := h.cell 2
  have c1 : w.cell? ⟨g, 0, none⟩ = some (.int .i64 t) := h.cell 0
  have c2 : w.cell? ⟨gq, 0, none⟩ = some (.int .i64 d) := hq.cell 0
  have H := hide h
  have HQ := hide hq
  clear h hq hc hd
  go_enter Tryz.func10, Tryz.ntmps10
  go_wp2_with fail
  go_quiet ((go_at_call 25; exact Calls.quiet_of_same ((len_calls _ 1 c _).mono (fun _ _ h => ⟨h.1, h.2.symm⟩))))
  have H1 := hide (H.out.drewN nq)
  have HQ1 := hide (HQ.out.drewN nq)
  have HB := hide (bdN w nq)
  clear c0 c1 c2 H HQ
  generalize w.drewN nq = W at *
  go_wp2_with fail
  refine (HPO.out _ H1.out HQ1.out).mono ?_
  rintro en w2 ⟨rfl, b2, q2, ch⟩
  have B2 := hide ((b2 : Blk w2 g 80 (netC t s (.slice (some ⟨gq, 0, none⟩) 0 c) (q1))).alloc (.cells #[.int .i64 d, .int .i64 k, .slice A m cm] 88))
  have Q2 := hide (q2.alloc (.cells #[.int .i64 d, .int .i64 k, .slice A m cm] 88))
  have C2 := hide (((Chg.of_below (S := fun k => k = g ∨ k = gq) HB.out).same ch).alloc (.cells #[.int .i64 d, .int .i64 k, .slice A m cm] 88))
  clear b2 q2 ch
  go_wp2
  go_ret2
  exact ⟨rfl, B2.out, Q2.out, C2.out⟩
set_option maxRecDepth 100000 in
set_option maxHeartbeats 4000000 in
theorem next1_1 (g gq c : Nat) (t s : Int) (d k : Int) (A : Option Addr) (m cm : Nat) (rest : List Value) (q1 : Value) (w : World) (h : Blk w g 80 (netC t s (q1) (.slice (some ⟨gq, 0, none⟩) 1 c))) (hq : Blk w gq 88 (pkR d k A m cm ++ rest).toArray) (hc : 1 ≤ c) (hd : d ≤ t) :
    Calls Tryz.prog 10 #[.pointer (some ⟨g, 0, none⟩), .int .i64 1] w (RetNext g gq (netC t s (q1) (.slice (some ⟨gq, 0, none⟩) 0 c)) (pkR 0 0 none 0 0 ++ rest) A m cm w) := by
  have HPO := hide (fun (w : World) (h : Blk w g 80 (netC t s (q1) (.slice (some ⟨gq, 0, none⟩) 1 c))) (hq : Blk w gq 88 (pkR d k A m cm ++ rest).toArray) => hPop1_calls g 3 gq c 80 (netC t s (q1) (.slice (some ⟨gq, 0, none⟩) 1 c)) d k A m cm rest w h rfl (by decide) hc hq)
  have hta : ∀ w', Sem.run Tryz.prog (Instr.typeAssert (.iface 88 (.agg #[.int .i64 d, .int .i64 k, .slice A m cm])) 20 88 true) w' = .ok (.tuple #[.agg #[.int .i64 d, .int .i64 k, .slice A m cm], .bool true]) w' := fun _ => rfl
  have i0 : decide (t < d) = false := by simpa using hd
  have c0 : w.cell? ⟨g, 3, none⟩ = some (.slice (some ⟨gq, 0, none⟩) 1 c) := h.cell 3
  have c1 : w.cell? ⟨g, 0, none⟩ = some (.int .i64 t) := h.cell 0
  have c2 : w.cell? ⟨gq, 0, none⟩ = some (.int .i64 d) := hq.cell 0
  have H := hide h
  have HQ := hide hq
  clear h hq hc hd
  go_enter Tryz.func10, Tryz.ntmps10
  go_wp2_with fail
  go_quiet ((go_at_call 25; exact Calls.quiet_of_same ((len_calls _ 1 c _).mono (fun _ _ h => ⟨h.1, h.2.symm⟩))))
  have H1 := hide (H.out.drewN nq)
  have HQ1 := hide (HQ.out.drewN nq)
  have HB := hide (bdN w nq)
  clear c0 c1 c2 H HQ
  generalize w.drewN nq = W at *
  go_wp2_with fail
  refine (HPO.out _ H1.out HQ1.out).mono ?_
  rintro en w2 ⟨rfl, b2, q2, ch⟩
  have B2 := hide ((b2 : Blk w2 g 80 (netC t s (q1) (.slice (some ⟨gq, 0, none⟩) 0 c))).alloc (.cells #[.int .i64 d, .int .i64 k, .slice A m cm] 88))
  have Q2 := hide (q2.alloc (.cells #[.int .i64 d, .int .i64 k, .slice A m cm] 88))
  have C2 := hide (((Chg.of_below (S := fun k => k = g ∨ k = gq) HB.out).same ch).alloc (.cells #[.int .i64 d, .int .i64 k, .slice A m cm] 88))
  clear b2 q2 ch
  go_wp2
  go_ret2
  exact ⟨rfl, B2.out, Q2.out, C2.out⟩
set_option maxRecDepth 100000 in
set_option maxHeartbeats 4000000 in
theorem next0_2 (g gq c : Nat) (t s : Int) (d k : Int) (A : Option Addr) (m cm : Nat) (d2 k2 : Int) (A2 : Option Addr) (m2 cm2 : Nat) (rest : List Value) (q1 : Value) (w : World) (h : Blk w g 80 (netC t s (.slice (some ⟨gq, 0, none⟩) 2 c) (q1))) (hq : Blk w gq 88 (pkR d k A m cm ++ pkR d2 k2 A2 m2 cm2 ++ rest).toArray) (hc : 2 ≤ c) (hd : d ≤ t) :
    Calls Tryz.prog 10 #[.pointer (some ⟨g, 0, none⟩), .int .i64 0] w (RetNext g gq (netC t s (.slice (some ⟨gq, 0, none⟩) 1 c) (q1)) (pkR d2 k2 A2 m2 cm2 ++ pkR 0 0 none 0 0 ++ rest) A m cm w) := by
  have HPO := hide (fun (w : World) (h : Blk w g 80 (netC t s (.slice (some ⟨gq, 0, none⟩) 2 c) (q1))) (hq : Blk w gq 88 (pkR d k A m cm ++ pkR d2 k2 A2 m2 cm2 ++ rest).toArray) => hPop2_calls g 2 gq c 80 (netC t s (.slice (some ⟨gq, 0, none⟩) 2 c) (q1)) d k A m cm d2 k2 A2 m2 cm2 rest w h rfl (by decide) hc hq)
  have hta : ∀ w', Sem.run Tryz.prog (Instr.typeAssert (.iface 88 (.agg #[.int .i64 d, .int .i64 k, .slice A m cm])) 20 88 true) w' = .ok (.tuple #[.agg #[.int .i64 d, .int .i64 k, .slice A m cm], .bool true]) w' := fun _ => rfl
  have i0 : decide (t < d) = false := by simpa using hd
  have c0 : w.cell? ⟨g, 2, none⟩ = some (.slice (some ⟨gq, 0, none⟩) 2 c) := h.cell 2
  have c1 : w.cell? ⟨g, 0, none⟩ = some (.int .i64 t) := h.cell 0
  have c2 : w.cell? ⟨gq, 0, none⟩ = some (.int .i64 d) := hq.cell 0
  have H := hide h
  have HQ := hide hq
  clear h hq hc hd
  go_enter Tryz.func10, Tryz.ntmps10
  go_wp2_with fail
  go_quiet ((go_at_call 25; exact Calls.quiet_of_same ((len_calls _ 2 c _).mono (fun _ _ h => ⟨h.1, h.2.symm⟩))))
  have H1 := hide (H.out.drewN nq)
  have HQ1 := hide (HQ.out.drewN nq)
  have HB := hide (bdN w nq)
  clear c0 c1 c2 H HQ
  generalize w.drewN nq = W at *
  go_wp2_with fail
  refine (HPO.out _ H1.out HQ1.out).mono ?_
  rintro en w2 ⟨rfl, b2, q2, ch⟩
  have B2 := hide ((b2 : Blk w2 g 80 (netC t s (.slice (some ⟨gq, 0, none⟩) 1 c) (q1))).alloc (.cells #[.int .i64 d, .int .i64 k, .slice A m cm] 88))
  have Q2 := hide (q2.alloc (.cells #[.int .i64 d, .int .i64 k, .slice A m cm] 88))
  have C2 := hide (((Chg.of_below (S := fun k => k = g ∨ k = gq) HB.out).same ch).alloc (.cells #[.int .i64 d, .int .i64 k, .slice A m cm] 88))
  clear b2 q2 ch
  go_wp2
  go_ret2
  exact ⟨rfl, B2.out, Q2.out, C2.out⟩
set_option maxRecDepth 100000 in
set_option maxHeartbeats 4000000 in
theorem next1_2 (g gq c : Nat) (t s : Int) (d k : Int) (A : Option Addr) (m cm : Nat) (d2 k2 : Int) (A2 : Option Addr) (m2 cm2 : Nat) (rest : List Value) (q1 : Value) (w : World) (h : Blk w g 80 (netC t s (q1) (.slice (some ⟨gq, 0, none⟩) 2 c))) (hq : Blk w gq 88 (pkR d k A m cm ++ pkR d2 k2 A2 m2 cm2 ++ rest).toArray) (hc : 2 ≤ c) (hd : d ≤ t) :
    Calls Tryz.prog 10 #[.pointer (some ⟨g, 0, none⟩), .int .i64 1] w (RetNext g gq (netC t s (q1) (.slice (some ⟨gq, 0, none⟩) 1 c)) (pkR d2 k2 A2 m2 cm2 ++ pkR 0 0 none 0 0 ++ rest) A m cm w) := by
  have HPO := hide (fun (w : World) (h : Blk w g 80 (netC t s (q1) (.slice (some ⟨gq, 0, none⟩) 2 c))) (hq : Blk w gq 88 (pkR d k A m cm ++ pkR d2 k2 A2 m2 cm2 ++ rest).toArray) => hPop2_calls g 3 gq c 80 (netC t s (q1) (.slice (some ⟨gq, 0, none⟩) 2 c)) d k A m cm d2 k2 A2 m2 cm2 rest w h rfl (by decide) hc hq)
  have hta : ∀ w', Sem.run Tryz.prog (Instr.typeAssert (.iface 88 (.agg #[.int .i64 d, .int .i64 k, .slice A m cm])) 20 88 true) w' = .ok (.tuple #[.agg #[.int .i64 d, .int .i64 k, .slice A m cm], .bool true]) w' := fun _ => rfl
  have i0 : decide (t < d) = false := by simpa using hd
  have c0 : w.cell? ⟨g, 3, none⟩ = some (.slice (some ⟨gq, 0, none⟩) 2 c) := h.cell 3
  have c1 : w.cell? ⟨g, 0, none⟩ = some (.int .i64 t) := h.cell 0
  have c2 : w.cell? ⟨gq, 0, none⟩ = some (.int .i64 d) := hq.cell 0
  have H := hide h
  have HQ := hide hq
  clear h hq hc hd
  go_enter Tryz.func10, Tryz.ntmps10
  go_wp2_with fail
  go_quiet ((go_at_call 25; exact Calls.quiet_of_same ((len_calls _ 2 c _).mono (fun _ _ h => ⟨h.1, h.2.symm⟩))))
  have H1 := hide (H.out.drewN nq)
  have HQ1 := hide (HQ.out.drewN nq)
  have HB := hide (bdN w nq)
  clear c0 c1 c2 H HQ
  generalize w.drewN nq = W at *
  go_wp2_with fail
  refine (HPO.out _ H1.out HQ1.out).mono ?_
  rintro en w2 ⟨rfl, b2, q2, ch⟩
  have B2 := hide ((b2 : Blk w2 g 80 (netC t s (q1) (.slice (some ⟨gq, 0, none⟩) 1 c))).alloc (.cells #[.int .i64 d, .int .i64 k, .slice A m cm] 88))
  have Q2 := hide (q2.alloc (.cells #[.int .i64 d, .int .i64 k, .slice A m cm] 88))
  have C2 := hide (((Chg.of_below (S := fun k => k = g ∨ k = gq) HB.out).same ch).alloc (.cells #[.int .i64 d, .int .i64 k, .slice A m cm] 88))
  clear b2 q2 ch
  go_wp2
  go_ret2
  exact ⟨rfl, B2.out, Q2.out, C2.out⟩
end Go.Proofs.YtbfhpgpceakeiaaGreatDoor.Tw
