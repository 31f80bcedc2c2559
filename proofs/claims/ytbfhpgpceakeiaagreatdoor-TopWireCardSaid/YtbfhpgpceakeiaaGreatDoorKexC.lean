/- A region that draws its order: what is read may be taken first as long as the orders left keep it; the rest is branched over. Over any program; no conditions. -/
import Derived.Test.YtbfhpgpceakeiaaGreatDoorTopOrd
import Derived.Test.YtbfhpgpceakeiaaGreatDoorKexB
namespace Kex
open Go Kin

section
variable {P : Program} {ops : Array Oper} {Q : Exit → Act → World → Prop} {md : Region.Mode} {D D' : Array Bool → World → Prop}
/-- whatever order is picked; D is kept behind each operation -/
def wpAnyD (P : Program) (md : Region.Mode) (ops : Array Oper) (Q : Exit → Act → World → Prop) (D : Array Bool → World → Prop) : Nat → Array Bool → Act → World → Prop
  | 0, listed, a, w => Region.ready md ops listed = [] ∧ Q .normal a w
  | fuel + 1, listed, a, w =>
    (Region.ready md ops listed = [] → Q .normal a w) ∧
    ∀ i ∈ Region.ready md ops listed, wpOp P ops Q i (fun a' w' => D (listed.setIfInBounds i true) w' ∧ wpAnyD P md ops Q D fuel (listed.setIfInBounds i true) a' w') a w
theorem wpAny_of_D : ∀ (fuel : Nat) (listed : Array Bool) (a : Act) (w : World), wpAnyD P md ops Q D fuel listed a w → wpAny P md ops Q fuel listed a w
  | 0, _, _, _, h => h
  | fuel + 1, _, _, _, h => ⟨h.1, fun i hi => wpOp_mono (fun a' w' h' => wpAny_of_D fuel _ a' w' h'.2) (h.2 i hi)⟩
theorem wpAnyD_mono (h0 : ∀ l w, D' l w → D l w) : ∀ (fuel : Nat) (listed : Array Bool) (a : Act) (w : World), wpAnyD P md ops Q D' fuel listed a w → wpAnyD P md ops Q D fuel listed a w
  | 0, _, _, _, h => h
  | fuel + 1, _, _, _, h => ⟨h.1, fun i hi => wpOp_mono (fun a' w' h' => ⟨h0 _ _ h'.1, wpAnyD_mono h0 fuel _ a' w' h'.2⟩) (h.2 i hi)⟩
/-- number i may be taken first where it yields its value in every world that meets S, and S is kept as long as none of those that wait for it came up -/
theorem wpAnyD_first {i : Nat} {oi : Oper} {v : Value} {S : World → Prop} {T : List Nat} (hi : ops[i]? = some oi) (hsel : ∀ (j : Nat) (o : Oper) cs b, ops[j]? = some o → o.op ≠ .select cs b)
    (hT : ∀ t ∈ T, ∃ ot, ops[t]? = some ot ∧ ∃ e ∈ ot.after, Region.binds md e = true ∧ (e.on = i ∨ e.on ∈ T))
    (hQ : ∀ c a w, Q (.panic c) (a.put oi.dst v) w → Q (.panic c) a w)
    (h0 : ∀ l w, D' l w → D l w) (h1 : ∀ l w, D' (l.setIfInBounds i true) w → D l w) (h2 : ∀ (l : Array Bool) w, (∀ t ∈ T, l.getD t true = false) → D' (l.setIfInBounds i true) w → S w) :
    ∀ (fuel : Nat) (listed : Array Bool) (a : Act) (w : World),
      (∀ j oj, ops[j]? = some oj → j ≠ i → listed.getD j true = false → (∀ e ∈ oj.after, Region.binds md e = true → e.on ≠ i) → oi.apart ops oj = true) →
      i ∈ Region.ready md ops listed → (∀ t ∈ T, listed.getD t true = false) → YieldsIf P ops S oi v a → D' (listed.setIfInBounds i true) w →
      wpAnyD P md ops Q D' fuel (listed.setIfInBounds i true) (a.put oi.dst v) w → wpAnyD P md ops Q D (fuel + 1) listed a w := by
  intro fuel
  induction fuel with
  | zero =>
    intro listed a w _ hr hTu hy hD H
    refine ⟨fun h => (by rw [h] at hr; cases hr), fun j hj => ?_⟩
    by_cases hji : j = i
    · subst hji; exact hy.wpOp hi (h2 _ _ hTu hD) ⟨h0 _ _ hD, wpAnyD_mono h0 _ _ _ _ H⟩
    · have := ready_mono hj hji
      rw [H.1] at this
      cases this
  | succ fuel ih =>
    intro listed a w hfree hr hTu hy hD H
    refine ⟨fun h => (by rw [h] at hr; cases hr), fun j hj => ?_⟩
    by_cases hji : j = i
    · subst hji; exact hy.wpOp hi (h2 _ _ hTu hD) ⟨h0 _ _ hD, wpAnyD_mono h0 _ _ _ _ H⟩
    · have h3 := H.2 j (ready_mono hj hji)
      obtain ⟨hjun, oj, hoj, hall⟩ := mem_ready.1 hj
      have hnot : ∀ e ∈ oj.after, Region.binds md e = true → e.on ≠ i := fun e he hb heq => by
        have h1 := hall e he hb
        rw [heq, getD_both (mem_ready.1 hr).1] at h1
        cases h1
      have hjT : j ∉ T := fun hm => by
        obtain ⟨ot, h4, e, he, hb, h5⟩ := hT j hm
        have : ot = oj := Option.some.inj (h4.symm.trans hoj)
        subst this
        rcases h5 with h5 | h5
        · exact hnot e he hb h5
        · have h6 := hall e he hb
          rw [getD_both (hTu _ h5)] at h6
          cases h6
      have h4 := wpOp_putIf hoj (hfree j oj hoj hji hjun hnot) (fun cs b => hsel i oi cs b hi) (fun cs b => hsel j oj cs b hoj) hQ hy h3
      have hfree' : ∀ k ok, ops[k]? = some ok → k ≠ i → (listed.setIfInBounds j true).getD k true = false →
          (∀ e ∈ ok.after, Region.binds md e = true → e.on ≠ i) → oi.apart ops ok = true := fun k ok hk hki hun hno => by
        refine hfree k ok hk hki ?_ hno
        by_cases hjk : j = k
        · subst hjk; exact hjun
        · rw [getD_set_ne true hjk] at hun; exact hun
      refine wpOp_mono (fun a' w' h5 => ?_) h4
      have hTu' : ∀ t ∈ T, (listed.setIfInBounds j true).getD t true = false := fun t ht => by
        rw [getD_set_ne true (fun (e : j = t) => hjT (by rw [e]; exact ht))]
        exact hTu t ht
      have hD2 : D' ((listed.setIfInBounds j true).setIfInBounds i true) w' := by
        rw [Array.setIfInBounds_comm _ _ hji]
        exact h5.2.1
      refine ⟨h1 _ _ hD2, ih (listed.setIfInBounds j true) a' w' hfree' (ready_mono hr (Ne.symm hji)) hTu' h5.1 hD2 ?_⟩
      rw [Array.setIfInBounds_comm _ _ hji]
      exact h5.2.2
/-- whichever comes up -/
theorem wpAnyD_all {fuel : Nat} {listed : Array Bool} {a : Act} {w : World} (hn : Region.ready md ops listed ≠ [])
    (h : ∀ i ∈ Region.ready md ops listed, ∀ oi, ops[i]? = some oi → if Region.wanted oi (yielded ops a.tmps) = true then oi.wp P a w (fun a' w' => D (listed.setIfInBounds i true) w' ∧ wpAnyD P md ops Q D fuel (listed.setIfInBounds i true) a' w') Q
      else D (listed.setIfInBounds i true) w ∧ wpAnyD P md ops Q D fuel (listed.setIfInBounds i true) (a.put oi.dst undef) w) : wpAnyD P md ops Q D (fuel + 1) listed a w := by
  refine ⟨fun e => absurd e hn, fun i hi => ?_⟩
  obtain ⟨_, oi, hoi, _⟩ := mem_ready.1 hi
  have := h i hi oi hoi
  unfold wpOp
  simp only [hoi]
  split
  · rename_i hw
    rw [if_pos hw] at this
    exact .inl this
  · rename_i hw
    rw [if_neg hw] at this
    exact this
theorem wpAnyD_done {listed : Array Bool} {a : Act} {w : World} (hr : Region.ready md ops listed = []) (h : Q .normal a w) : ∀ fuel, wpAnyD P md ops Q D fuel listed a w
  | 0 => ⟨hr, h⟩
  | _ + 1 => ⟨fun _ => h, by rw [hr]; simp⟩
theorem wp_region_D {id : Nat} {a : Act} {w : World} (D : Array Bool → World → Prop) (hm : P.follows .mixedOrders = true) (h : wpAnyD P .any ops Q D ops.size (Array.replicate ops.size false) a w.drew) : (Code.region id ops true).wp P Q a w :=
  wp_region_any hm (wpAny_of_D _ _ _ _ h)
end
end Kex
