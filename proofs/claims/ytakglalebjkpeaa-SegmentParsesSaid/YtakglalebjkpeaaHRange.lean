/- A loop over a function whose closure writes a variable of its own: one law for the caller. The rounds' invariant speaks of cells alone. Over any program; no conditions. -/
import Derived.RangeFuncNested
import Derived.RangeFuncBound
import Derived.RangeFuncCalls
import Derived.RangeFuncLeaves
import Derived.Test.YtakglalebjkpeaaHLib
namespace Kin
open Go Go.RowKit

/-- p speaks of cells, and of what lies below B, alone -/
def Bides (B : Nat) (p : World → Prop) : Prop := ∀ (W : World) (l : Nat) (o o' : Obj), p W → B ≤ l → W.heap[l]? = some o → o.isCells = false → p (W.putObj l o')
/-- how a round may be left -/
def RoundEnd (Go : World → Prop) (Stop : World → Prop) (W : World) : Exit → Act → World → Prop
  | .normal, _, W' => KeepsOthers W W' ∧ Go W'
  | .ret, _, W' => KeepsOthers W W' ∧ Stop W'
  | _, _, _ => False

variable {F : Fence} {n : Nat} {P : Program}

theorem range_law {σ α : Type} {g : Operand} {ps : Array Tmp} {assign body : Code} {Q : Exit → Act → World → Prop} {a : Act} {w : World}
    (hro : F.round = none) (h1 : 1 ≤ n) {gf : Nat} {lb : Array Value} (hg : a.eval g = .func (.func gf) #[] lb) (hFg : F.fn gf) (eg : ∀ args w, (callFunc gf args).run P w = .ok (.enter gf args) w)
    (encs : α → Array Value) (hps : ∀ x, (encs x).size = ps.size)
    (I : σ → World → Prop) (X : World → Prop) (nxt : σ → α → σ) (ok : σ → α → World → Prop) (Y : σ → α → Act → World → Prop) (fin : σ → Prop) (yes no : σ → α → Prop) (halt : Prop) (s0 : σ)
    (hI : ∀ s, Bides w.heap.size (I s)) (hX : Bides w.heap.size X) (hY : ∀ s x a', Bides w.heap.size (Y s x a'))
    (h0 : ∀ r : Loop, I s0 ((w.alloc (.deferred (some []))).alloc (.loop r)))
    (hassign : ∀ (l : Nat) (s : σ) (x : α) (W : World) (K : Act → World → Prop), I s W → ok s x W → (∀ a' W', KeepsOthers W W' → Y s x a' W' → K a' W') →
      assign.wpIn (F.inRound l) (n - 1 - 1) P (Exit.then K (fun _ _ _ => False)) { tmps := (ps.zip (encs x)).foldl (fun t (p, v) => t.setIfInBounds p v) a.tmps, defers := [] } W)
    (hbody : ∀ (l : Nat) (s : σ) (x : α) (a' : Act) (W : World), Y s x a' W → body.wpIn (F.inRound l) (n - 1 - 1) P (RoundEnd (fun W' => yes s x ∧ I (nxt s x) W') (fun W' => no s x ∧ X W') W) a' W)
    (hiter : ∀ (l : Nat) (B Bx : World → Prop) (_ : ∀ W W', B W → KeepsOthers W W' → B W') (_ : ∀ W W', Bx W → KeepsOthers W W' → Bx W')
      (_ : ∀ s x W, I s W → ok s x W → B W → YieldAt F (n - 1 - 1) P l (encs x) W fun e W' => (e = .returned (.bool true) ∧ yes s x ∧ I (nxt s x) W' ∧ B W') ∨ (e = .returned (.bool false) ∧ no s x ∧ X W' ∧ Bx W'))
      (W : World) (_ : I s0 W) (_ : B W), CallsIn F (n - 1) P gf (#[.func (.yield l) #[] #[]] ++ lb) W fun e W' => (∃ v, e = .returned v) ∧ ((∃ s, fin s ∧ I s W' ∧ B W') ∨ (halt ∧ X W' ∧ Bx W')))
    (hdone : ∀ (D : Nat) (s : σ) (W : World), w.heap.size ≤ D → fin s → I s W → W.heap[D]? = some (.deferred (some [])) → Q .normal { a with defers := { target := .collected D, args := #[] } :: a.defers } W)
    (hstop : ∀ (D : Nat) (W : World), w.heap.size ≤ D → halt → X W → W.heap[D]? = some (.deferred (some [])) → Code.ret.wpIn F n P Q { a with defers := { target := .collected D, args := #[] } :: a.defers } W) :
    (Code.rangeFunc g ps assign body).wpIn F n P Q a w := by
  refine wpIn_rangeFunc ?_
  intro fn hfn
  rw [hro]
  let rc : LoopState → Option Code → Loop := fun st pe => { state := st, pending := pe, fn, tmps := a.tmps, params := ps, assign, body, defers := w.heap.size }
  let L := w.heap.size + 1
  let W1 := (w.alloc (.deferred (some []))).alloc (.loop (rc .ready none))
  have szD : (w.alloc (.deferred (some []))).heap.size = L := World.size_alloc _ _
  have rL : W1.heap[L]? = some (.loop (rc .ready none)) := by
    have := World.alloc_heap_new (w.alloc (.deferred (some []))) (.loop (rc .ready none))
    rwa [szD] at this
  have rD : W1.heap[w.heap.size]? = some (.deferred (some [])) := (Below.heap_alloc _ _ _ (by rw [szD]; exact Nat.lt_succ_self _)).trans (World.alloc_heap_new w _)
  have rI : I s0 W1 := h0 _
  refine ⟨L, [{ target := .collected w.heap.size, args := #[] }], W1, { target := .fn (.func gf) lb, args := #[.func (.yield L) #[] #[]] }, W1, gf, #[.func (.yield L) #[] #[]] ++ lb, W1, run_enterLoop_outer _ _ _ _ _, ?_, ?_, ?_, fun _ => h1, ?_⟩
  · simp only [resolve, hg]
    simp [go_sem]
  · intro f' hf'
    simp [Target.leads] at hf'
    subst hf'
    exact hFg
  · simp [invoke, go_sem, eg]
  refine (hiter L (fun W => W.heap[L]? = some (.loop (rc .ready none)) ∧ W.heap[w.heap.size]? = some (.deferred (some []))) (fun W => W.heap[L]? = some (.loop (rc .done (some .ret))) ∧ W.heap[w.heap.size]? = some (.deferred (some [])))
    (fun W W' h k => ⟨k.same _ _ h.1 rfl, k.same _ _ h.2 rfl⟩) (fun W W' h k => ⟨k.same _ _ h.1 rfl, k.same _ _ h.2 rfl⟩) ?_ W1 rI ⟨rL, rD⟩).mono ?_
  · rintro s x W iW oW ⟨lW, dW⟩
    refine ⟨fn, _, assign, body, run_yield (P := P) (args := encs x) lW (hps x), roundIn_of_wpIn hfn (hassign L s x W _ iW oW ?_)⟩
    intro a' V kV yV
    have lV := kV.same _ _ lW rfl
    have dV := kV.same _ _ dW rfl
    have ltV : L < V.heap.size := (Array.getElem?_eq_some_iff.1 lV).1
    refine ⟨_, run_beginRound lV rfl, ?_⟩
    have lU : (V.putObj L (.loop { rc .ready none with state := .busy })).heap[L]? = some (.loop { rc .ready none with state := .busy }) := World.putObj_heap_same ltV
    have dU : (V.putObj L (.loop { rc .ready none with state := .busy })).heap[w.heap.size]? = some (.deferred (some [])) := (World.putObj_heap_other (Nat.ne_of_lt (Nat.lt_succ_self _))).trans dV
    refine wpIn_mono (hbody L s x a' _ (hY s x a' V L _ _ yV (Nat.le_succ _) lV rfl)) ?_
    have close : ∀ (j : Option Code) (U : World), KeepsOthers (V.putObj L (.loop { rc .ready none with state := .busy })) U →
        U.heap[L]? = some (.loop { rc .ready none with state := .busy }) ∧ (U.putObj L (.loop (rc (if j.isNone then .ready else .done) j))).heap[L]? = some (.loop (rc (if j.isNone then .ready else .done) j)) ∧
        (U.putObj L (.loop (rc (if j.isNone then .ready else .done) j))).heap[w.heap.size]? = some (.deferred (some [])) := fun j U k => by
      have e := k.same _ _ lU rfl
      exact ⟨e, World.putObj_heap_same (Array.getElem?_eq_some_iff.1 e).1, (World.putObj_heap_other (Nat.ne_of_lt (Nat.lt_succ_self _))).trans (k.same _ _ dU rfl)⟩
    rintro e a3 U hp
    cases e with
    | normal =>
      obtain ⟨k, y, i⟩ := hp
      obtain ⟨c1, c2, c3⟩ := close none U k
      exact ⟨_, _, run_endRound (P := P) none c1, .inl ⟨rfl, y, hI _ _ _ _ _ i (Nat.le_succ _) c1 rfl, c2, c3⟩⟩
    | ret =>
      obtain ⟨k, y, i⟩ := hp
      obtain ⟨c1, c2, c3⟩ := close (some .ret) U k
      exact ⟨_, _, run_endRound (P := P) (some .ret) c1, .inr ⟨rfl, y, hX _ _ _ _ i (Nat.le_succ _) c1 rfl, c2, c3⟩⟩
    | exit id => exact hp.elim
    | goto t => exact hp.elim
    | panic ch => exact hp.elim
    | outgrown => exact hp.elim
  · rintro e U ⟨⟨v, rfl⟩, (⟨s, fs, i, l, d⟩ | ⟨hs, x, l, d⟩)⟩
    · exact ⟨none, _, run_endLoop (P := P) l (by simp [rc]), hdone _ s _ (Nat.le_refl _) fs (hI _ _ _ _ _ i (Nat.le_succ _) l rfl) ((World.putObj_heap_other (Nat.ne_of_lt (Nat.lt_succ_self _))).trans d)⟩
    · exact ⟨some .ret, _, run_endLoop (P := P) l (by simp [rc]), hstop _ _ (Nat.le_refl _) hs (hX _ _ _ _ x (Nat.le_succ _) l rfl) ((World.putObj_heap_other (Nat.ne_of_lt (Nat.lt_succ_self _))).trans d)⟩
end Kin
