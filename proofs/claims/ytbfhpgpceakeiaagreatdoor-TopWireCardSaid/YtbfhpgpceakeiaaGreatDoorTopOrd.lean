/- A region that draws its order and ends in one operation that waits for all loads: what is loaded is as it was till that operation comes. Over any program; no conditions. -/
import Derived.OrdersHeld
import Derived.StillTail
import Derived.Deep.RegionHeld3
namespace Kin
open Go

section
variable {P : Program} {ops : Array Oper} {Q : Exit → Act → World → Prop} {md : Region.Mode} {S : World → Prop} {z : Nat}
/-- whatever order is picked; S holds as long as number z has not come up -/
def wpAnyG (P : Program) (md : Region.Mode) (ops : Array Oper) (Q : Exit → Act → World → Prop) (S : World → Prop) (z : Nat) : Nat → Array Bool → Act → World → Prop
  | 0, listed, a, w => Region.ready md ops listed = [] ∧ Q .normal a w
  | fuel + 1, listed, a, w =>
    (Region.ready md ops listed = [] → Q .normal a w) ∧
    ∀ i ∈ Region.ready md ops listed, wpOp P ops Q i (fun a' w' => ((listed.setIfInBounds i true).getD z true = false → S w') ∧ wpAnyG P md ops Q S z fuel (listed.setIfInBounds i true) a' w') a w
theorem wpAny_of_G : ∀ (fuel : Nat) (listed : Array Bool) (a : Act) (w : World), wpAnyG P md ops Q S z fuel listed a w → wpAny P md ops Q fuel listed a w
  | 0, _, _, _, h => h
  | fuel + 1, _, _, _, h => ⟨h.1, fun i hi => wpOp_mono (fun a' w' h' => wpAny_of_G fuel _ a' w' h'.2) (h.2 i hi)⟩
theorem getD_set_z {listed : Array Bool} {j z : Nat} (hj : j ≠ z) (h : listed.getD z true = false) : (listed.setIfInBounds j true).getD z true = false := by
  rw [getD_set_ne true hj]; exact h
/-- number i, which z waits for, may be taken first where it yields its value in every world that meets S -/
theorem wpAnyG_first {i : Nat} {oi : Oper} {v : Value} (hi : ops[i]? = some oi) (hsel : ∀ (j : Nat) (o : Oper) cs b, ops[j]? = some o → o.op ≠ .select cs b)
    (hz : Region.waitsFor md ops z i = true) (hzi : i ≠ z)
    (hQ : ∀ c a w, Q (.panic c) (a.put oi.dst v) w → Q (.panic c) a w) :
    ∀ (fuel : Nat) (listed : Array Bool) (a : Act) (w : World),
      (∀ j oj, ops[j]? = some oj → j ≠ i → listed.getD j true = false → (∀ e ∈ oj.after, Region.binds md e = true → e.on ≠ i) → oi.apart ops oj = true) →
      i ∈ Region.ready md ops listed → listed.getD z true = false → YieldsIf P ops S oi v a → S w →
      wpAnyG P md ops Q S z fuel (listed.setIfInBounds i true) (a.put oi.dst v) w → wpAnyG P md ops Q S z (fuel + 1) listed a w := by
  have nz : ∀ {listed : Array Bool} {j : Nat}, i ∈ Region.ready md ops listed → j ∈ Region.ready md ops listed → j ≠ i → j ≠ z := by
    intro listed j hr hj hji e
    subst e
    obtain ⟨oz, hoz, ed, hed, hb, hon⟩ := Region.waitsFor_spec hz
    obtain ⟨_, oz', hoz', hall⟩ := mem_ready.1 hj
    have : oz = oz' := Option.some.inj (hoz.symm.trans hoz')
    subst this
    have h1 := hall ed hed hb
    rw [hon, getD_both (mem_ready.1 hr).1] at h1
    cases h1
  intro fuel
  induction fuel with
  | zero =>
    intro listed a w _ hr _ hy hS H
    refine ⟨fun h => (by rw [h] at hr; cases hr), fun j hj => ?_⟩
    by_cases hji : j = i
    · subst hji; exact hy.wpOp hi hS ⟨fun _ => hS, H⟩
    · have := ready_mono hj hji
      rw [H.1] at this
      cases this
  | succ fuel ih =>
    intro listed a w hfree hr hzl hy hS H
    refine ⟨fun h => (by rw [h] at hr; cases hr), fun j hj => ?_⟩
    by_cases hji : j = i
    · subst hji; exact hy.wpOp hi hS ⟨fun _ => hS, H⟩
    · have h1 := H.2 j (ready_mono hj hji)
      have hjz := nz hr hj hji
      obtain ⟨hjun, oj, hoj, hall⟩ := mem_ready.1 hj
      have hnot : ∀ e ∈ oj.after, Region.binds md e = true → e.on ≠ i := fun e he hb heq => by
        have h1 := hall e he hb
        rw [heq, getD_both (mem_ready.1 hr).1] at h1
        cases h1
      have h2 := wpOp_putIf hoj (hfree j oj hoj hji hjun hnot) (fun cs b => hsel i oi cs b hi) (fun cs b => hsel j oj cs b hoj) hQ hy h1
      have hfree' : ∀ k ok, ops[k]? = some ok → k ≠ i → (listed.setIfInBounds j true).getD k true = false →
          (∀ e ∈ ok.after, Region.binds md e = true → e.on ≠ i) → oi.apart ops ok = true := fun k ok hk hki hun hno => by
        refine hfree k ok hk hki ?_ hno
        by_cases hjk : j = k
        · subst hjk; exact hjun
        · rw [getD_set_ne true hjk] at hun; exact hun
      refine wpOp_mono (fun a' w' h3 => ?_) h2
      have hzl' : (listed.setIfInBounds j true).getD z true = false := getD_set_z hjz hzl
      have hS' : S w' := h3.2.1 (getD_set_z hjz (getD_set_z hzi hzl))
      refine ⟨fun _ => hS', ih (listed.setIfInBounds j true) a' w' hfree' (ready_mono hr (Ne.symm hji)) hzl' h3.1 hS' ?_⟩
      rw [Array.setIfInBounds_comm _ _ hji]
      exact h3.2.2
/-- .. and what yields in whatever world -/
theorem wpAnyG_firstP {i : Nat} {oi : Oper} {v : Value} (hi : ops[i]? = some oi) (hsel : ∀ (j : Nat) (o : Oper) cs b, ops[j]? = some o → o.op ≠ .select cs b) (hzi : i ≠ z)
    (hQ : ∀ c a w, Q (.panic c) (a.put oi.dst v) w → Q (.panic c) a w) :
    ∀ (fuel : Nat) (listed : Array Bool) (a : Act) (w : World),
      (∀ j oj, ops[j]? = some oj → j ≠ i → listed.getD j true = false → (∀ e ∈ oj.after, Region.binds md e = true → e.on ≠ i) → oi.apart ops oj = true) →
      i ∈ Region.ready md ops listed → YieldsIf P ops (fun _ => True) oi v a → (listed.getD z true = false → S w) →
      wpAnyG P md ops Q S z fuel (listed.setIfInBounds i true) (a.put oi.dst v) w → wpAnyG P md ops Q S z (fuel + 1) listed a w := by
  intro fuel
  induction fuel with
  | zero =>
    intro listed a w _ hr hy hS H
    refine ⟨fun h => (by rw [h] at hr; cases hr), fun j hj => ?_⟩
    by_cases hji : j = i
    · subst hji
      exact hy.wpOp hi trivial ⟨fun h => hS (by rwa [getD_set_ne true hzi] at h), H⟩
    · have := ready_mono hj hji
      rw [H.1] at this
      cases this
  | succ fuel ih =>
    intro listed a w hfree hr hy hS H
    refine ⟨fun h => (by rw [h] at hr; cases hr), fun j hj => ?_⟩
    by_cases hji : j = i
    · subst hji
      exact hy.wpOp hi trivial ⟨fun h => hS (by rwa [getD_set_ne true hzi] at h), H⟩
    · have h1 := H.2 j (ready_mono hj hji)
      obtain ⟨hjun, oj, hoj, hall⟩ := mem_ready.1 hj
      have hnot : ∀ e ∈ oj.after, Region.binds md e = true → e.on ≠ i := fun e he hb heq => by
        have h1 := hall e he hb
        rw [heq, getD_both (mem_ready.1 hr).1] at h1
        cases h1
      have h2 := wpOp_putIf hoj (hfree j oj hoj hji hjun hnot) (fun cs b => hsel i oi cs b hi) (fun cs b => hsel j oj cs b hoj) hQ hy h1
      have hfree' : ∀ k ok, ops[k]? = some ok → k ≠ i → (listed.setIfInBounds j true).getD k true = false →
          (∀ e ∈ ok.after, Region.binds md e = true → e.on ≠ i) → oi.apart ops ok = true := fun k ok hk hki hun hno => by
        refine hfree k ok hk hki ?_ hno
        by_cases hjk : j = k
        · subst hjk; exact hjun
        · rw [getD_set_ne true hjk] at hun; exact hun
      refine wpOp_mono (fun a' w' h3 => ?_) h2
      have hS' : (listed.setIfInBounds j true).getD z true = false → S w' := fun h => h3.2.1 (getD_set_z hzi h |> fun e => by rwa [Array.setIfInBounds_comm _ _ hji] at e)
      refine ⟨hS', ih (listed.setIfInBounds j true) a' w' hfree' (ready_mono hr (Ne.symm hji)) h3.1 hS' ?_⟩
      rw [Array.setIfInBounds_comm _ _ hji]
      exact h3.2.2
/-- the moves: take a load -/
theorem wpAnyG_take (i : Nat) (v : Value) {oi : Oper} {fuel : Nat} {listed : Array Bool} {a : Act} {w : World} (hi : ops[i]? = some oi)
    (hc : (Region.noSelect ops && Region.free md ops listed i && (Region.ready md ops listed).contains i && Region.waitsFor md ops z i && !listed.getD z true && decide (i ≠ z)) = true)
    (hQ : ∀ c a w, Q (.panic c) (a.put oi.dst v) w → Q (.panic c) a w) (hw : Region.wanted oi (yielded ops a.tmps) = true) (hy : ∀ w, S w → (execOp a.eval oi).run P w = .ok (.value v) w) (hS : S w)
    (h : wpAnyG P md ops Q S z fuel (listed.setIfInBounds i true) (a.put oi.dst v) w) : wpAnyG P md ops Q S z (fuel + 1) listed a w := by
  simp only [Bool.and_eq_true, Bool.not_eq_true', decide_eq_true_eq] at hc
  obtain ⟨⟨⟨⟨⟨h1, h2⟩, h3⟩, h4⟩, h5⟩, h6⟩ := hc
  exact wpAnyG_first hi (Region.noSelect_spec h1) h4 h6 hQ fuel listed a w (Region.free_spec hi h2) (by simpa using h3) h5 (.inl ⟨hw, hy⟩) hS h
/-- take what looks at no world -/
theorem wpAnyG_takeP (i : Nat) (v : Value) {oi : Oper} {fuel : Nat} {listed : Array Bool} {a : Act} {w : World} (hi : ops[i]? = some oi)
    (hc : (Region.noSelect ops && Region.free md ops listed i && (Region.ready md ops listed).contains i && decide (i ≠ z)) = true)
    (hQ : ∀ c a w, Q (.panic c) (a.put oi.dst v) w → Q (.panic c) a w) (hw : Region.wanted oi (yielded ops a.tmps) = true) (hy : ∀ w, (execOp a.eval oi).run P w = .ok (.value v) w) (hS : S w)
    (h : wpAnyG P md ops Q S z fuel (listed.setIfInBounds i true) (a.put oi.dst v) w) : wpAnyG P md ops Q S z (fuel + 1) listed a w := by
  simp only [Bool.and_eq_true, decide_eq_true_eq] at hc
  obtain ⟨⟨⟨h1, h2⟩, h3⟩, h6⟩ := hc
  exact wpAnyG_firstP hi (Region.noSelect_spec h1) h6 hQ fuel listed a w (Region.free_spec hi h2) (by simpa using h3) (.inl ⟨hw, fun w _ => hy w⟩) (fun _ => hS) h
/-- take what is not wanted -/
theorem wpAnyG_skip (i : Nat) {oi : Oper} {fuel : Nat} {listed : Array Bool} {a : Act} {w : World} (hi : ops[i]? = some oi)
    (hc : (Region.noSelect ops && Region.free md ops listed i && (Region.ready md ops listed).contains i && decide (i ≠ z)) = true)
    (hQ : ∀ c a w, Q (.panic c) (a.put oi.dst undef) w → Q (.panic c) a w) (hw : Region.wanted oi (yielded ops a.tmps) = false) (hS : S w)
    (h : wpAnyG P md ops Q S z fuel (listed.setIfInBounds i true) (a.put oi.dst undef) w) : wpAnyG P md ops Q S z (fuel + 1) listed a w := by
  simp only [Bool.and_eq_true, decide_eq_true_eq] at hc
  obtain ⟨⟨⟨h1, h2⟩, h3⟩, h6⟩ := hc
  exact wpAnyG_firstP hi (Region.noSelect_spec h1) h6 hQ fuel listed a w (Region.free_spec hi h2) (by simpa using h3) (.inr ⟨hw, rfl⟩) (fun _ => hS) h
/-- the one operation that may come up -/
theorem wpAnyG_one (i : Nat) {oi : Oper} {fuel : Nat} {listed : Array Bool} {a : Act} {w : World} (hi : ops[i]? = some oi) (hr : Region.ready md ops listed = [i])
    (h : ∀ K' : Act → World → Prop, Shut (∀ a w, ((listed.setIfInBounds i true).getD z true = false → S w) → wpAnyG P md ops Q S z fuel (listed.setIfInBounds i true) a w → K' a w) → if Region.wanted oi (yielded ops a.tmps) = true then Oper.wp P oi a w K' Q else K' (a.put oi.dst undef) w) : wpAnyG P md ops Q S z (fuel + 1) listed a w := by
  refine ⟨fun h0 => (by rw [hr] at h0; cases h0), fun j hj => ?_⟩
  rw [hr] at hj
  obtain rfl : j = i := by simpa using hj
  exact wpOp_step hi (fun K' hK => h K' (fun a w hS hW => hK a w ⟨hS, hW⟩))
theorem wpAnyG_done {listed : Array Bool} {a : Act} {w : World} (hr : Region.ready md ops listed = []) (h : Q .normal a w) : ∀ fuel, wpAnyG P md ops Q S z fuel listed a w
  | 0 => ⟨hr, h⟩
  | _ + 1 => ⟨fun _ => h, by rw [hr]; simp⟩
theorem wp_region_G {id : Nat} {a : Act} {w : World} (S : World → Prop) (z : Nat) (hm : P.follows .mixedOrders = true) (h : wpAnyG P .any ops Q S z ops.size (Array.replicate ops.size false) a w.drew) : (Code.region id ops true).wp P Q a w :=
  wp_region_any hm (wpAny_of_G _ _ _ _ h)
end
section
variable {l r : List Oper} {oi : Oper} {i : Nat}
theorem drop_at (h : l.drop i = oi :: r) : l.toArray[i]? = some oi := by
  have : (l.drop i)[0]? = some oi := by rw [h]; rfl
  simpa [List.getElem?_drop] using this
end
section
variable {P : Program} {l r : List Oper} {oi : Oper} {Q : Exit → Act → World → Prop} {S : World → Prop} {z : Nat} {fuel : Nat} {listed : Array Bool} {a : Act} {w : World}
theorem gTake (i : Nat) (v : Value) (hi : l.drop i = oi :: r)
    (hc : (Region.noSelect l.toArray && Region.free .any l.toArray listed i && (Region.ready .any l.toArray listed).contains i && Region.waitsFor .any l.toArray z i && !listed.getD z true && decide (i ≠ z)) = true)
    (hw : Region.wanted oi (yielded l.toArray a.tmps) = true) (hS : S w) (hQ : ∀ c a w, Q (.panic c) (a.put oi.dst v) w → Q (.panic c) a w) (hy : ∀ w, S w → (execOp a.eval oi).run P w = .ok (.value v) w)
    (h : wpAnyG P .any l.toArray Q S z fuel (listed.setIfInBounds i true) (a.put oi.dst v) w) : wpAnyG P .any l.toArray Q S z (fuel + 1) listed a w := wpAnyG_take i v (drop_at hi) hc hQ hw hy hS h
theorem gTakeP (i : Nat) (v : Value) (hi : l.drop i = oi :: r)
    (hc : (Region.noSelect l.toArray && Region.free .any l.toArray listed i && (Region.ready .any l.toArray listed).contains i && decide (i ≠ z)) = true)
    (hw : Region.wanted oi (yielded l.toArray a.tmps) = true) (hS : S w) (hQ : ∀ c a w, Q (.panic c) (a.put oi.dst v) w → Q (.panic c) a w) (hy : ∀ w, (execOp a.eval oi).run P w = .ok (.value v) w)
    (h : wpAnyG P .any l.toArray Q S z fuel (listed.setIfInBounds i true) (a.put oi.dst v) w) : wpAnyG P .any l.toArray Q S z (fuel + 1) listed a w := wpAnyG_takeP i v (drop_at hi) hc hQ hw hy hS h
theorem gSkip (i : Nat) (hi : l.drop i = oi :: r)
    (hc : (Region.noSelect l.toArray && Region.free .any l.toArray listed i && (Region.ready .any l.toArray listed).contains i && decide (i ≠ z)) = true)
    (hw : Region.wanted oi (yielded l.toArray a.tmps) = false) (hS : S w) (hQ : ∀ c a w, Q (.panic c) (a.put oi.dst undef) w → Q (.panic c) a w)
    (h : wpAnyG P .any l.toArray Q S z fuel (listed.setIfInBounds i true) (a.put oi.dst undef) w) : wpAnyG P .any l.toArray Q S z (fuel + 1) listed a w := wpAnyG_skip i (drop_at hi) hc hQ hw hS h
theorem gOne (i : Nat) (hi : l.drop i = oi :: r) (hr : Region.ready .any l.toArray listed = [i])
    (h : ∀ K' : Act → World → Prop, Shut (∀ a w, ((listed.setIfInBounds i true).getD z true = false → S w) → wpAnyG P .any l.toArray Q S z fuel (listed.setIfInBounds i true) a w → K' a w) → if Region.wanted oi (yielded l.toArray a.tmps) = true then Oper.wp P oi a w K' Q else K' (a.put oi.dst undef) w) : wpAnyG P .any l.toArray Q S z (fuel + 1) listed a w := wpAnyG_one i (drop_at hi) hr h
theorem wp_region_Gl {id : Nat} {a : Act} {w : World} (S : World → Prop) (z : Nat) (hm : P.follows .mixedOrders = true) (h : wpAnyG P .any l.toArray Q S z l.length (Array.replicate l.length false) a w.drew) : (Code.region id l.toArray true).wp P Q a w :=
  wp_region_G S z hm (by simpa using h)
end
end Kin
