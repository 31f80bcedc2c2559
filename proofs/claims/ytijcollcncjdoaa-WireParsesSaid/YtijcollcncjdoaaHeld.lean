/- In a region that draws its order: what a callee's answer holds from its call on is added to what is held (S) in the midst of the walk. No conditions. -/
import Derived.Deep.RegionHeld3
import Derived.Test.YtijcollcncjdoaaApp
namespace Kin
open Go

/-- a region's way on, where R is held besides -/
def Strong (_R : World → Prop) (p : Prop) : Prop := p
theorem shut_strong (R : World → Prop) (p : Prop) : Shut p = Strong R p := rfl
theorem strong_strong (R R' : World → Prop) (p : Prop) : Strong R p = Strong R' p := rfl

theorem wpAnyH_imp {P : Program} {md : Region.Mode} {ops : Array Oper} {Q : Exit → Act → World → Prop} {S S' : World → Prop} (imp : ∀ w, S' w → S w) :
    ∀ (fuel : Nat) (listed : Array Bool) (a : Act) (w : World), wpAnyH P md ops Q S' fuel listed a w → wpAnyH P md ops Q S fuel listed a w
  | 0, _, _, _, h => h
  | fuel + 1, _, _, _, h => ⟨h.1, fun i hi => wpOp_mono (fun a' w' h' => ⟨imp _ h'.1, wpAnyH_imp imp fuel _ a' w' h'.2⟩) (h.2 i hi)⟩

theorem Strong.out {R : World → Prop} {P : Program} {md : Region.Mode} {ops : Array Oper} {Q : Exit → Act → World → Prop} {S : World → Prop} {fuel : Nat} {listed : Array Bool} {K : Act → World → Prop}
    (h : Strong R (∀ a w, S w → (S w → wpAnyH P md ops Q S fuel listed a w) → K a w)) :
    ∀ a w, S w ∧ R w → (S w ∧ R w → wpAnyH P md ops Q (fun w => S w ∧ R w) fuel listed a w) → K a w :=
  fun a w hs hw => h a w hs.1 (fun _ => wpAnyH_imp (fun _ k => k.1) fuel listed a w (hw hs))

/-- append of bytes at a step of a region that draws its order -/
theorem step_append8 {P : Program} {w : World} {ops : Array Oper} {o : Oper} {a : Act} {K : Act → World → Prop} {Q : Exit → Act → World → Prop} (hw : Region.wanted o (yielded ops a.tmps) = true) (s x : Operand) (t e : TypeId)
    (ho : o.op = .call { callee := .builtin .append, args := #[s, x], argTypes := #[t, t] }) (ht : IsBytes P t e)
    (A : Option Addr) (n c : Nat) (l : List UInt8) (hs : a.eval s = .slice A n c) (hown : Own8 w e A n c l) (B : Nat) (A2 : Option Addr) (n2 c2 : Nat) (m : List UInt8) (hx : a.eval x = .slice A2 n2 c2) (hr : Byt w B A2 m) (hn2 : n2 = m.length) (hb : n + n2 ≤ 140737488355328)
    (h : ∀ A' c' w', Own8 w' e A' (n + n2) c' (l ++ m) → w.grownBy w' (blkOf A) → (blkOf A' = blkOf A ∨ blkOf A' = some w.heap.size) → K (a.put o.dst (.slice A' (n + n2) c')) w') :
    if Region.wanted o (yielded ops a.tmps) = true then Oper.wp P o a w K Q else K (a.put o.dst undef) w := by
  obtain ⟨ht, _, i, hi, hz, hsize, hby⟩ := ht
  obtain ⟨A', c', w', hr, h2, h3, h4⟩ := run_append8 (P := P) w t o.type e i ht hi hz hsize hby A n c l hown B A2 n2 c2 m hr hn2 hb
  rw [if_pos hw]
  unfold Oper.wp execOp
  simp only [ho, resolve, invoke, builtin, Sem.run_bind, Sem.run_pure, Result.andThen_ok, List.map_toArray, List.map_cons, List.map_nil, hs, hx, hr]
  exact h A' c' w' h2 h3 h4
end Kin
