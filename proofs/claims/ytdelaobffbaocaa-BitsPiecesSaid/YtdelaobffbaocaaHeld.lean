/- In a region that draws its order: what a callee's answer holds from its call on is added to what is held (S) in the midst of the walk. No conditions. -/
import Derived.Deep.RegionHeld3
namespace Kin
open Go

/-- a region's way on, where R is held besides -/
def Strong (_R : World → Prop) (p : Prop) : Prop := p
theorem shut_strong (R : World → Prop) (p : Prop) : Shut p = Strong R p := rfl
theorem strong_strong (R R' : World → Prop) (p : Prop) : Strong R p = Strong R' p := rfl

theorem wpAnyH_imp {P : Program} {md : Region.Mode} {ops : Array Oper} {Q : Exit → Act → World → Prop} {S S' : World → Prop} (imp : ∀ w, S' w → S w) :
    ∀ (fuel : Nat) (listed : Array Bool) (a : Act) (w : World), wpAnyH P md ops Q S' fuel listed a w → wpAnyH P md ops Q S fuel listed a w
  | 0, _, _, _, h => h
  | fuel + 1, _, _, _, h => ⟨h.1, fun i hi => wpOp_mono (fun a' w' h' => ⟨imp _ h'.1, wpAnyH_imp imp fuel _ a' w' h'.2⟩) (h.2 i hi)⟩

theorem Strong.out {R : World → Prop} {P : Program} {md : Region.Mode} {ops : Array Oper} {Q : Exit → Act → World → Prop} {S : World → Prop} {fuel : Nat} {listed : Array Bool} {K : Act → World → Prop}
    (h : Strong R (∀ a w, S w → (S w → wpAnyH P md ops Q S fuel listed a w) → K a w)) :
    ∀ a w, S w ∧ R w → (S w ∧ R w → wpAnyH P md ops Q (fun w => S w ∧ R w) fuel listed a w) → K a w :=
  fun a w hs hw => h a w hs.1 (fun _ => wpAnyH_imp (fun _ k => k.1) fuel listed a w (hw hs))
end Kin
