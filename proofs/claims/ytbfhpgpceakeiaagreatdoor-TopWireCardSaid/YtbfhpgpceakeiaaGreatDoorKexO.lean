/- The loop over a function as a statement; functions with marks and deferred calls, run on a state as data. Over any program; no conditions but the room. -/
import Derived.Test.YtbfhpgpceakeiaaGreatDoorKexN
namespace Kex
open Go Go.RowKit Kin

def putL (n : Nat) : List Tmp → List SV → TS → Option TS
  | [], [], T => some T
  | t :: ps, v :: args, T => match Nat.blt t n with
    | true => putL n ps args (setP v (path t) T)
    | false => none
  | _, _, _ => none
theorem putL_s {ρ : Rho} {n nx : Nat} : ∀ {ps : List Tmp} {args : List SV} {T T' : TS} {tmps : Array Value}, putL n ps args T = some T' → tmps.size = n → Slots ρ T tmps → (∀ p, (getP p T).al (lt nx) = true) → args.all (SV.al (lt nx)) = true →
    ps.length = args.length ∧ ∀ d, Sl ρ n T' nx { tmps := (ps.zip (args.map (SV.den ρ))).foldl (fun t (p, v) => t.setIfInBounds p v) tmps, defers := d }
  | [], [], T, T', tmps, h, hs, hT, ha, _ => by
    injection h with h
    subst h
    exact ⟨rfl, fun d => ⟨hs, hT, ha⟩⟩
  | t :: ps, v :: args, T, T', tmps, h, hs, hT, ha, hv => by
    unfold putL at h
    split at h
    · rename_i ht
      have ht : t < n := Nat.blt_eq ▸ ht
      rw [List.all_cons, Bool.and_eq_true] at hv
      obtain ⟨h1, h2⟩ := putL_s (tmps := tmps.setIfInBounds t (v.den ρ)) h (by rw [Array.size_setIfInBounds]; exact hs) (hT.set t (by rw [hs]; exact ht) v) (fs_set hv.1 _ _ ha) hv.2
      exact ⟨by rw [List.length_cons, List.length_cons, h1], h2⟩
    · cases h
  | [], _ :: _, _, _, _, h, _, _, _, _ => by cases h
  | _ :: _, [], _, _, _, h, _, _, _, _ => by cases h
/-- one round -/
def roundI (P : Program) (Ps : List SF) (C N : CallR) (n : Nat) (ps : List Tmp) (asg body : Code) (sl0 : TS) : YR := fun args L nx => match putL n ps args sl0 with
  | some sl => match execY P Ps C N 0 noY n asg ⟨sl, L, nx⟩ with
    | some (.nrm, S1) => match execY P Ps C N 0 noY n body S1 with
      | some (.nrm, S2) => some (S2.L, S2.nx)
      | _ => none
    | _ => none
  | none => none
theorem noY_on {X : Cx} {I : World → Prop} {F : Fence} {l : Nat} : YOn X I F l noY := fun h => by cases h
section
variable {X : Cx} {C N : CallR}
theorem roundI_s (hC : ∀ X' : Cx, X'.P = X.P → X'.Ps = X.Ps → CallOK X' C) (hN : ∀ X' : Cx, X'.P = X.P → X'.Ps = X.Ps → NatOK X' N) {n l : Nat} {ps : Array Tmp} {asg body : Code} {sl0 : TS} {tmps0 : Array Value} {lN D : Nat} {fn : FuncId} (hl : lt X.nv l = true) (hlN : X.ρ0 l = lN) (hlt : X.w0.heap.size ≤ lN) (hsz : tmps0.size = n) (hT : Slots X.ρ0 sl0 tmps0) (ha : ∀ p, (getP p sl0).al (lt X.nv) = true) {J : World → Prop} :
    YOn X (fun W => W.heap[lN]? = some (.loop { state := .ready, pending := none, fn, tmps := tmps0, params := ps, assign := asg, body, defers := D }) ∧ J W) Fence.wide l (roundI X.P X.Ps C N n ps.toList asg body sl0) := by
  intro args L nx L' nx' m ρ W h hargs hp hi hag
  let rc : Loop := { state := .ready, pending := none, fn, tmps := tmps0, params := ps, assign := asg, body, defers := D }
  have hL : W.heap[lN]? = some (.loop rc) := hi.1
  have hρl : ρ l = lN := (hag l hl).trans hlN
  rw [hρl]
  unfold roundI at h
  split at h
  · rename_i sl hsl
    split at h
    · rename_i S1 h1
      split at h
      · rename_i S2 h2
        injection h with h
        injection h with e1 e2
        subst e1 e2
        obtain ⟨hlen, hSl⟩ := putL_s (nx := nx) hsl hsz (fun t => (hT t).trans (SV.den_al hag (ha _)).symm) (fun p => SV.al_mono (lt_mono hp.le) (ha p)) hargs
        refine ⟨fn, _, asg, body, run_yield (P := X.P) hL (by show _ = ps.size; rw [List.size_toArray, List.length_map, ← hlen, Array.length_toList]), ?_⟩
        have etm : ((ps.zip (args.map (SV.den ρ)).toArray).foldl (fun tmps (t, a) => tmps.setIfInBounds t a) tmps0) = (ps.toList.zip (args.map (SV.den ρ))).foldl (fun t (p, v) => t.setIfInBounds p v) tmps0 := by
          rw [← Array.foldl_toList, Array.toList_zip]
        rw [etm]
        refine roundIn_of_wpIn trivial ?_
        have hs1 : Sat (X.now ρ L nx W []) ρ n ⟨sl, L, nx⟩ { tmps := (ps.toList.zip (args.map (SV.den ρ))).foldl (fun t (p, v) => t.setIfInBounds p v) tmps0, defers := [] } W := ⟨hp.now [], hSl [], rfl⟩
        refine wpIn_mono (execY_s (X := X.now ρ L nx W []) (I := fun _ => True) (.inr ⟨lN, rfl⟩) (fun _ _ => trivial) hC hN (noY_on (X := X.now ρ L nx W []) (I := fun _ => True) (F := Fence.wide.inRound lN) (l := 0)) asg h1 hs1 trivial) ?_
        rintro e a1 w1 ⟨⟨rfl, ρ1, r1, r2, r3⟩, k1⟩
        have L1 := k1.2 lN _ hL rfl
        refine ⟨_, run_beginRound (P := X.P) L1 rfl, ?_⟩
        have p1 : Hp X ρ1 S1.L S1.nx w1 := hp.join r1 r2 r3.hp
        have p2 : Hp X ρ1 S1.L S1.nx (w1.putObj lN (.loop { rc with state := .busy })) := p1.turn L1 rfl hlt
        have hlt1 : lN < w1.heap.size := (Array.getElem?_eq_some_iff.1 L1).1
        have L2 : (w1.putObj lN (.loop { rc with state := .busy })).heap[lN]? = some (.loop { rc with state := .busy }) := World.putObj_heap_same hlt1
        have hs2 : Sat (X.now ρ1 S1.L S1.nx (w1.putObj lN (.loop { rc with state := .busy })) []) ρ1 n S1 a1 (w1.putObj lN (.loop { rc with state := .busy })) := ⟨p2.now [], r3.hs, r3.df⟩
        refine wpIn_mono (execY_s (X := X.now ρ1 S1.L S1.nx (w1.putObj lN (.loop { rc with state := .busy })) []) (I := fun _ => True) (.inr ⟨lN, rfl⟩) (fun _ _ => trivial) hC hN (noY_on (X := X.now ρ1 S1.L S1.nx (w1.putObj lN (.loop { rc with state := .busy })) []) (I := fun _ => True) (F := Fence.wide.inRound lN) (l := 0)) body h2 hs2 trivial) ?_
        rintro e a2 w3 ⟨⟨rfl, ρ2, q1, q2, q3⟩, k2⟩
        have L3 := k2.2 lN _ L2 rfl
        have p3 : Hp X ρ2 S2.L S2.nx w3 := p2.join q1 q2 q3.hp
        refine ⟨_, _, run_endRound (P := X.P) none L3, rfl, ⟨?_, fun i o hi' ho => ?_⟩, ρ2, r1.trans q1 r2, Nat.le_trans r2 q2, p3.turn L3 rfl hlt⟩
        · rw [World.putObj_size]
          refine Nat.le_trans k1.1 (Nat.le_trans (Nat.le_of_eq ?_) k2.1)
          rw [World.putObj_size]
        · by_cases e : i = lN
          · subst e
            rw [World.putObj_heap_same (Array.getElem?_eq_some_iff.1 L3).1]
            rw [hL] at hi'
            exact hi'
          · rw [World.putObj_heap_other e]
            exact k2.2 i o ((World.putObj_heap_other e).trans (k1.2 i o hi' ho)) ho
      · cases h
    · cases h
  · cases h
end
/-- the function that is ranged over -/
def runY (P : Program) (Ps : List SF) (C N : CallR) (l : Nat) (Y : YR) (f : FuncId) (args : List SV) (L : List SF) (nx : Nat) : Option (List SF × Nat) := match P.funcs[f]? with
  | none => none
  | some fn => match fn.body with
    | none => none
    | some c => match execY P Ps C N l Y (args.length + (fn.ntmps - args.length)) c ⟨initT 0 args .l, L, nx⟩ with
      | some (.ext _, _) => none
      | some (_, S') => match resL P Ps S'.L S'.sl fn.results.toList with
        | some _ => some (S'.L, S'.nx)
        | none => none
      | none => none
def loopS (P : Program) (Ps : List SF) (C N : CallR) (n : Nat) (g : Operand) (ps : Array Tmp) (asg body : Code) (S : SS) : Option SS := match ev S.sl g with
  | some (.e (.c (.func (.func gf) [] cap))) => match enters P gf with
    | true => match runY P Ps C N S.nx (roundI P Ps C N n ps.toList asg body S.sl) gf (.e (.c (.yld (.v S.nx))) :: cap.map ptrV) S.L (S.nx + 1) with
      | some (L', nx') => some ⟨S.sl, L', nx'⟩
      | none => none
    | false => none
  | _ => none
section
variable {X : Cx} {C N : CallR} {m : Nat}
theorem runY_s (hd : X.D = []) {I : World → Prop} (hI : IKept I) (hC : ∀ X' : Cx, X'.P = X.P → X'.Ps = X.Ps → CallOK X' C) (hN : ∀ X' : Cx, X'.P = X.P → X'.Ps = X.Ps → NatOK X' N) {l : Nat} {Y : YR} (hY : YOn X I Fence.wide l Y) {f : FuncId} {args : List SV} {L : List SF} {nx : Nat} {L' : List SF} {nx' : Nat} {ρ : Rho} {w : World}
    (h : runY X.P X.Ps C N l Y f args L nx = some (L', nx')) (ha : args.all (SV.al (lt nx)) = true) (hp : Hp X ρ L nx w) (hi : I w) :
    CallsIn Fence.wide m X.P f (args.map (SV.den ρ)).toArray w fun e w' => ∃ v, e = .returned v ∧ KeepsLD w w' ∧ ∃ ρ', Agr nx ρ ρ' ∧ nx ≤ nx' ∧ Hp X ρ' L' nx' w' := by
  unfold runY at h
  split at h
  · cases h
  · rename_i fn hf
    split at h
    · cases h
    · rename_i c hb
      have hstart := start_s hd ha hp fn.ntmps
      have fin : ∀ (k : KE) (S' : SS) (r : List SE), (∀ i, k ≠ .ext i) → execY X.P X.Ps C N l Y (args.length + (fn.ntmps - args.length)) c ⟨initT 0 args .l, L, nx⟩ = some (k, S') → resL X.P X.Ps S'.L S'.sl fn.results.toList = some r → some (S'.L, S'.nx) = some (L', nx') →
          CallsIn Fence.wide m X.P f (args.map (SV.den ρ)).toArray w fun e w' => ∃ v, e = .returned v ∧ KeepsLD w w' ∧ ∃ ρ', Agr nx ρ ρ' ∧ nx ≤ nx' ∧ Hp X ρ' L' nx' w' := by
        intro k S' r hk hex hr he
        injection he with he
        injection he with e1 e2
        subst e1 e2
        refine callsIn_of_wp hf hb trivial (wpIn_mono (execY_s (m := m) (.inl rfl) hI hC hN hY c hex hstart hi) ?_)
        rintro e a w' ⟨⟨rfl, ρ', r1, r2, r3⟩, k1⟩
        obtain ⟨hres, hal⟩ := res_s r3 hr
        have hd := r3.df.trans hd
        cases k with
        | nrm => exact ⟨hd, _, hres, _, rfl, k1, ρ', r1, r2, r3.hp⟩
        | rt => exact ⟨hd, _, hres, _, rfl, k1, ρ', r1, r2, r3.hp⟩
        | ext i => exact absurd rfl (hk i)
      split at h
      · cases h
      · rename_i k S' hne hex
        split at h
        · rename_i r hr
          exact fin k S' r (fun i e => hne i (by rw [e])) hex hr h
        · cases h
      · cases h
theorem loopS_s (hC : ∀ X' : Cx, X'.P = X.P → X'.Ps = X.Ps → CallOK X' C) (hN : ∀ X' : Cx, X'.P = X.P → X'.Ps = X.Ps → NatOK X' N) {n : Nat} {g : Operand} {ps : Array Tmp} {asg body : Code} {S S' : SS} {ρ : Rho} {a : Act} {w : World} (h : loopS X.P X.Ps C N n g ps asg body S = some S') (hp : Hp X ρ S.L S.nx w) (hs : Sl ρ n S.sl S.nx a) :
    (Code.rangeFunc g ps asg body).wpIn Fence.wide m X.P (fun e a' w' => e = .normal ∧ ∃ D ρ', X.w0.heap.size ≤ D ∧ a' = { a with defers := { target := .collected D, args := #[] } :: a.defers } ∧ w'.heap[D]? = some (.deferred (some [])) ∧ Agr S.nx ρ ρ' ∧ S.nx ≤ S'.nx ∧ Hp X ρ' S'.L S'.nx w' ∧ S'.sl = S.sl ∧ KeepsLD w w') a w := by
  unfold loopS at h
  split at h
  · rename_i gf cap hg
    split at h
    · rename_i hen
      split at h
      · rename_i L' nx' hr
        injection h with h
        subst h
        have hgv : a.eval g = .func (.func gf) #[] (cap.map fun p => .pointer (some (pden ρ p))).toArray := ev_s hs.tm hg
        have hga : (([] : List SP).all (fun q => q.1.al (lt S.nx)) && cap.all (fun q => q.1.al (lt S.nx))) = true := ev_al hs hg
        rw [Bool.and_eq_true] at hga
        refine wpIn_rangeFunc ?_
        intro fn hfn
        let D := w.heap.size
        let lN := w.heap.size + 1
        let rc : Loop := { state := .ready, pending := none, fn, tmps := a.tmps, params := ps, assign := asg, body, defers := D }
        let W0 := w.alloc (.deferred (some []))
        let W1 := W0.alloc (.loop rc)
        let ρ1 := updR ρ S.nx fun _ => lN
        have agr1 : Agr S.nx ρ ρ1 := updR_agr ρ S.nx _
        have hρ1 : ρ1 S.nx = lN := updR_at ρ S.nx _ 0
        have szW0 : W0.heap.size = lN := World.size_alloc _ _
        have b0 : Below w.heap.size w W0 := (Below.refl _ _).alloc (Nat.le_refl _) _
        have b1 : Below w.heap.size w W1 := b0.alloc (by rw [szW0]; exact Nat.le_succ _) _
        have lD0 : W0.heap[D]? = some (.deferred (some [])) := World.alloc_heap_new w _
        have lD : W1.heap[D]? = some (.deferred (some [])) := (Below.heap_alloc _ _ _ (by rw [szW0]; exact Nat.lt_succ_self _)).trans lD0
        have lL : W1.heap[lN]? = some (.loop rc) := by
          have := World.alloc_heap_new W0 (.loop rc)
          rwa [szW0] at this
        let X1 : Cx := ⟨X.P, X.Ps, S.nx + 1, ρ1, w, S.L.map (SF.den ρ), []⟩
        have hnow := hp.now []
        have hp1 : Hp X1 ρ1 S.L (S.nx + 1) W1 := by
          refine ⟨fun _ _ => rfl, Nat.le_refl _, SFs_mono (lt_mono (Nat.le_succ _)) hnow.po, SFs_mono (lt_mono (Nat.le_succ _)) hp.fl, ?_⟩
          show St w (X.Ps.map (SF.den ρ1)) (S.L.map (SF.den ρ)) W1 (S.L.map (SF.den ρ1))
          rw [reL hp agr1, show X.Ps.map (SF.den ρ1) = X.Ps.map (SF.den ρ) from SFs_al agr1 hnow.po]
          exact hnow.st.next b1
        have hargs : (SV.e (.c (.yld (.v S.nx))) :: cap.map ptrV).all (SV.al (lt (S.nx + 1))) = true := by
          rw [List.all_cons, all_ptrV, Bool.and_eq_true]
          refine ⟨lt_iff.2 (Nat.lt_succ_self _), ?_⟩
          rw [List.all_eq_true]
          exact fun x hx => SN.al_mono (lt_mono (Nat.le_succ _)) (List.all_eq_true.1 hga.2 x hx)
        have hcap : (cap.map ptrV).map (SV.den ρ1) = cap.map fun p => Value.pointer (some (pden ρ p)) := by
          rw [map_ptrV]
          refine map_al (q := fun q => q.1.al (lt S.nx)) (fun x hx => ?_) hga.2
          show Value.pointer (some (pden ρ1 x)) = Value.pointer (some (pden ρ x))
          rw [pden_al agr1 hx]
        have earg : (((SV.e (.c (.yld (.v S.nx)))) :: cap.map ptrV).map (SV.den ρ1)).toArray = #[Value.func (.yield lN) #[] #[]] ++ (cap.map fun p => Value.pointer (some (pden ρ p))).toArray := by
          apply Array.toList_inj.1
          rw [List.map_cons, hcap]
          show Value.func (.yield (ρ1 S.nx)) #[] #[] :: _ = _
          rw [hρ1]
          simp
        refine ⟨lN, [{ target := .collected D, args := #[] }], W1, { target := .fn (.func gf) (cap.map fun p => Value.pointer (some (pden ρ p))).toArray, args := #[.func (.yield lN) #[] #[]] }, W1, gf, #[Value.func (.yield lN) #[] #[]] ++ (cap.map fun p => Value.pointer (some (pden ρ p))).toArray, W1, run_enterLoop_outer _ _ _ _ _, ?_, fun _ _ => trivial, ?_, fun e => (by cases e), ?_⟩
        · have hr : (resolve a.eval (rangeCall g lN) 0) = pure { target := .fn (.func gf) (cap.map fun p => Value.pointer (some (pden ρ p))).toArray, args := #[.func (.yield lN) #[] #[]] } := by
            simp [resolve, hgv, Deferred.ofValue]
            rfl
          rw [hr]
          rfl
        · simp only [invoke]
          rw [enters_s hen]
        · have hY : YOn X1 (fun W => W.heap[lN]? = some (.loop rc) ∧ W.heap[D]? = some (.deferred (some []))) Fence.wide S.nx (roundI X.P X.Ps C N n ps.toList asg body S.sl) := roundI_s (X := X1) hC hN (n := n) (l := S.nx) (ps := ps) (asg := asg) (body := body) (sl0 := S.sl) (tmps0 := a.tmps) (lN := lN) (D := D) (fn := fn) (lt_iff.2 (Nat.lt_succ_self _)) hρ1 (Nat.le_succ _) hs.sz (hs.agr agr1 (Nat.le_succ _)).tm (hs.agr agr1 (Nat.le_succ _)).fs (J := fun W => W.heap[D]? = some (.deferred (some [])))
          have hrun := runY_s (m := m - 1) (X := X1) rfl (I := fun W => W.heap[lN]? = some (.loop rc) ∧ W.heap[D]? = some (.deferred (some []))) (fun hi k => ⟨k.2 _ _ hi.1 rfl, k.2 _ _ hi.2 rfl⟩) hC hN hY hr hargs hp1 ⟨lL, lD⟩
          rw [earg] at hrun
          refine ⟨hrun.1, fun cs hroom => ?_⟩
          obtain ⟨e, w', fr, ⟨v, rfl, k1, ρ', q1, q2, q3⟩, rest⟩ := hrun.2 cs hroom
          refine ⟨.returned v, w', fr, ?_, rest⟩
          have eL := k1.2 _ _ lL rfl
          have eD := k1.2 _ _ lD rfl
          have hagr : Agr S.nx ρ ρ' := agr1.trans q1 (Nat.le_succ _)
          have hle : S.nx ≤ nx' := Nat.le_trans (Nat.le_succ _) q2
          have q4 : Hp (X.now ρ S.L S.nx w []) ρ' L' nx' w' := by
            refine ⟨fun k hk => hagr k (lt_iff.2 hk), hle, hnow.po, q3.fl, ?_⟩
            have := q3.st
            have e : X1.Ps.map (SF.den X1.ρ0) = X.Ps.map (SF.den ρ) := SFs_al agr1 hnow.po
            rw [e] at this
            exact this
          have q5 := (hp.join hagr hle q4).turn (o' := .loop { rc with state := .exhausted }) eL rfl (Nat.le_trans hp.st.chg.size (Nat.le_succ _))
          refine ⟨none, _, run_endLoop (P := X.P) eL (by simp [rc]), rfl, D, ρ', hp.st.chg.size, rfl, ?_, hagr, hle, q5, rfl, ?_, fun i o hi' ho => ?_⟩
          · rw [World.putObj_heap_other (Nat.ne_of_lt (Nat.lt_succ_self _))]
            exact eD
          · rw [World.putObj_size]
            exact (hp.keeps q4).1
          · have hlt : i < w.heap.size := (Array.getElem?_eq_some_iff.1 hi').1
            rw [World.putObj_heap_other (by show i ≠ w.heap.size + 1; omega)]
            exact (hp.keeps q4).2 i o hi' ho
      · cases h
    · cases h
  · cases h
end
/-- what waits for a function's end -/
inductive MK where
  | no
  | mark
  | fn (f : FuncId) (cap : List SP)
def MkOK (X : Cx) (ρ : Rho) (a : Act) (w : World) (nx : Nat) : MK → Prop
  | .no => a.defers = X.D
  | .mark => ∃ D, a.defers = { target := .collected D, args := #[] } :: X.D ∧ w.heap[D]? = some (.deferred (some [])) ∧ X.w0.heap.size ≤ D
  | .fn f cap => a.defers = { target := .fn (.func f) (cap.map fun p => Value.pointer (some (pden ρ p))).toArray, args := #[] } :: X.D ∧ (cap.map ptrV).all (SV.al (lt nx)) = true
structure SatM (X : Cx) (ρ : Rho) (n : Nat) (S : SS) (mk : MK) (a : Act) (w : World) : Prop where
  hp : Hp X ρ S.L S.nx w
  hs : Sl ρ n S.sl S.nx a
  wt : MkOK X ρ a w S.nx mk
def stepD (n : Nat) (ops : Array Oper) (o : Oper) (S : SS) : MK → Option (SS × MK)
  | .no => match wantS n ops S.sl o, o.op with
    | some true, .defer c => match c.callee, c.args.toList with
      | .value f, [] => match ev S.sl f with
        | some (.e (.c (.func (.func g) [] cap))) => match putS n o.dst (.t []) S.sl with
          | some sl' => some (⟨sl', S.L, S.nx⟩, .fn g cap)
          | none => none
        | _ => none
      | _, _ => none
    | _, _ => none
  | _ => none
def opsM (P : Program) (Ps : List SF) (C N : CallR) (n : Nat) (ops : Array Oper) : List Oper → SS → MK → Option (SS × MK)
  | [], S, mk => some (S, mk)
  | o :: l, S, mk => match stepA P Ps C N n ops o S with
    | some S' => opsM P Ps C N n ops l S' mk
    | none => match stepD n ops o S mk with
      | some (S', mk') => opsM P Ps C N n ops l S' mk'
      | none => none
def execM (P : Program) (Ps : List SF) (C N : CallR) (n : Nat) : Code → SS → MK → Option (KE × SS × MK)
  | .seq a b, S, mk => match execM P Ps C N n a S mk with
    | some (.nrm, S', mk') => execM P Ps C N n b S' mk'
    | r => r
  | .cond c x y, S, mk => match ev S.sl c with
    | some (.e (.c (.bool true))) => execM P Ps C N n x S mk
    | some (.e (.c (.bool false))) => execM P Ps C N n y S mk
    | _ => none
  | .block id b, S, mk => match execM P Ps C N n b S mk with
    | some (.ext k, S', mk') => match Nat.beq k id with
      | true => some (.nrm, S', mk')
      | false => some (.ext k, S', mk')
    | r => r
  | .region _ ops false, S, mk => match opsM P Ps C N n ops ops.toList S mk with
    | some (S', mk') => some (.nrm, S', mk')
    | none => none
  | .rangeFunc g ps asg body, S, mk => match mk with
    | .no => match loopS P Ps C N n g ps asg body S with
      | some S' => some (.nrm, S', .mark)
      | none => none
    | _ => none
  | c, S, mk => match execC P Ps C N n c S with
    | some (k, S') => some (k, S', mk)
    | none => none
def ResM (X : Cx) (ρ : Rho) (n nx : Nat) (k : Exit) (S' : SS) (mk : MK) : Exit → Act → World → Prop := fun e a w => e = k ∧ ∃ ρ', Agr nx ρ ρ' ∧ nx ≤ S'.nx ∧ SatM X ρ' n S' mk a w
theorem ResM.mono {X : Cx} {ρ ρ1 : Rho} {n nx nx1 : Nat} {k : Exit} {S' : SS} {mk : MK} (hr : Agr nx ρ ρ1) (hn : nx ≤ nx1) : ∀ e a w, ResM X ρ1 n nx1 k S' mk e a w → ResM X ρ n nx k S' mk e a w := by
  rintro e a w ⟨h1, ρ', h2, h3, h4⟩
  exact ⟨h1, ρ', hr.trans h2 hn, Nat.le_trans hn h3, h4⟩
section
variable {X : Cx} {C N : CallR} {m n : Nat} {ρ ρ' : Rho} {S S' : SS} {mk : MK} {a a' : Act} {w w' : World}
theorem SatM.now (h : SatM X ρ n S mk a w) : Sat (X.now ρ S.L S.nx w a.defers) ρ n S a w := ⟨h.hp.now _, h.hs, rfl⟩
theorem MkOK.keeps (h : MkOK X ρ a w S.nx mk) (hr : Agr S.nx ρ ρ') (hn : S.nx ≤ S'.nx) (hd : a'.defers = a.defers) (hk : KeepsLD w w') : MkOK X ρ' a' w' S'.nx mk := by
  cases mk with
  | no => exact hd.trans h
  | mark =>
    obtain ⟨D, h1, h2, h3⟩ := h
    exact ⟨D, hd.trans h1, hk.2 _ _ h2 rfl, h3⟩
  | fn f cap =>
    obtain ⟨h1, h2⟩ := h
    have h2' : cap.all (fun q => q.1.al (lt S.nx)) = true := by rw [← all_ptrV]; exact h2
    refine ⟨hd.trans (h1.trans ?_), ?_⟩
    · congr 4
      refine map_al (q := fun q => q.1.al (lt S.nx)) (fun x hx => ?_) h2'
      show Value.pointer (some (pden ρ x)) = Value.pointer (some (pden ρ' x))
      rw [pden_al hr hx]
    · rw [List.all_eq_true] at h2 ⊢
      exact fun x hx => SV.al_mono (lt_mono hn) (h2 x hx)
theorem SatM.join (h : SatM X ρ n S mk a w) (hr : Agr S.nx ρ ρ') (hn : S.nx ≤ S'.nx) (k : Sat (X.now ρ S.L S.nx w a.defers) ρ' n S' a' w') : SatM X ρ' n S' mk a' w' :=
  ⟨h.hp.join hr hn k.hp, k.hs, h.wt.keeps hr hn k.df (h.hp.keeps k.hp)⟩
theorem opsM_s (hC : ∀ X' : Cx, X'.P = X.P → X'.Ps = X.Ps → CallOK X' C) (hN : ∀ X' : Cx, X'.P = X.P → X'.Ps = X.Ps → NatOK X' N) {ops : Array Oper} {S0 : SS} {ρ0 : Rho} :
    ∀ {l : List Oper} {k : Nat} {S S' : SS} {mk mk' : MK} {ρ : Rho} {a : Act} {w : World}, l = ops.toList.drop k → opsM X.P X.Ps C N n ops l S mk = some (S', mk') → Agr S0.nx ρ0 ρ → S0.nx ≤ S.nx → SatM X ρ n S mk a w →
      wpOps X.P ops (ResM X ρ0 n S0.nx .normal S' mk') (List.range' k l.length) a w
  | [], k, S, S', mk, mk', ρ, a, w, _, h, hr, hn, hsat => by
    injection h with h
    injection h with h1 h2
    subst h1 h2
    exact ⟨rfl, ρ, hr, hn, hsat⟩
  | o :: l, k, S, S', mk, mk', ρ, a, w, hl, h, hr, hn, hsat => by
    unfold opsM at h
    have hk : k < ops.toList.length := by
      rcases Nat.lt_or_ge k ops.toList.length with e | e
      · exact e
      · rw [List.drop_of_length_le e] at hl
        cases hl
    rw [List.drop_eq_getElem_cons hk] at hl
    injection hl with e1 e2
    have ho : ops[k]? = some o := by
      rw [← Array.getElem?_toList, List.getElem?_eq_getElem hk, e1]
    show wpOps X.P ops _ (k :: List.range' (k + 1) l.length) a w
    unfold wpOps
    rw [ho]
    simp only
    split at h
    · rename_i S1 hs
      have key := stepA_s (X := X.now ρ S.L S.nx w a.defers) (Q := ResM X ρ0 n S0.nx .normal S' mk') (hC (X.now ρ S.L S.nx w a.defers) rfl rfl) (hN (X.now ρ S.L S.nx w a.defers) rfl rfl) hsat.now hs (K := wpOps X.P ops (ResM X ρ0 n S0.nx .normal S' mk') (List.range' (k + 1) l.length)) (fun ρ' a' w' r1 r2 r3 =>
        opsM_s hC hN e2 h (hr.trans r1 hn) (Nat.le_trans hn r2) (hsat.join r1 r2 r3))
      split
      · rename_i hw
        rw [if_pos hw] at key
        exact .inl key
      · rename_i hw
        rw [if_neg hw] at key
        exact key
    · split at h
      · rename_i S1 mk1 hs
        unfold stepD at hs
        split at hs
        · split at hs
          · rename_i c hw hop
            have hw := wantS_s hsat.hs hw
            rw [if_pos hw]
            split at hs
            · rename_i f hcal hargs
              split at hs
              · rename_i g cap hf
                split at hs
                · rename_i sl' hp
                  injection hs with hs
                  injection hs with h1 h2
                  subst h1 h2
                  have hfv : a.eval f = .func (.func g) #[] (cap.map fun p => .pointer (some (pden ρ p))).toArray := ev_s hsat.hs.tm hf
                  have hfa : (([] : List SP).all (fun q => q.1.al (lt S.nx)) && cap.all (fun q => q.1.al (lt S.nx))) = true := ev_al hsat.hs hf
                  rw [Bool.and_eq_true] at hfa
                  have ha : c.args = #[] := Array.toList_inj.1 hargs
                  have hres : (resolve a.eval c o.type) = pure { target := .fn (.func g) (cap.map fun p => Value.pointer (some (pden ρ p))).toArray, args := #[] } := by
                    simp [resolve, hcal, hfv, ha, Deferred.ofValue]
                  have hrun : (execOp a.eval o).run X.P w = .ok (.defer { target := .fn (.func g) (cap.map fun p => Value.pointer (some (pden ρ p))).toArray, args := #[] }) w := by
                    unfold execOp
                    rw [hop]
                    simp only [hres, Sem.run_bind, Sem.run_pure, Result.andThen_ok]
                  refine .inl ?_
                  unfold Oper.wp
                  rw [hrun]
                  show wpOps X.P ops _ _ (({ a with defers := _ :: a.defers } : Act).put o.dst undef) w
                  have hd : a.defers = X.D := hsat.wt
                  have hs0 : Sl ρ n S.sl S.nx { a with defers := { target := .fn (.func g) (cap.map fun p => Value.pointer (some (pden ρ p))).toArray, args := #[] } :: a.defers } := ⟨hsat.hs.sz, hsat.hs.tm, hsat.hs.fs⟩
                  refine opsM_s hC hN e2 h hr hn ⟨hsat.hp, Sl.put (v := .t []) hs0 hp rfl, ?_, ?_⟩
                  · show (Act.put _ o.dst undef).defers = _
                    rw [put_df, hd]
                  · rw [all_ptrV]
                    exact hfa.2
                · cases hs
              · cases hs
            · cases hs
          · cases hs
        · cases hs
      · cases h
theorem execM_s (hC : ∀ X' : Cx, X'.P = X.P → X'.Ps = X.Ps → CallOK X' C) (hN : ∀ X' : Cx, X'.P = X.P → X'.Ps = X.Ps → NatOK X' N) (hm : X.P.follows .mixedOrders = true) :
    ∀ (c : Code) {S : SS} {mk : MK} {k : KE} {S' : SS} {mk' : MK} {ρ : Rho} {a : Act} {w : World}, execM X.P X.Ps C N n c S mk = some (k, S', mk') → SatM X ρ n S mk a w → c.wpIn Fence.wide m X.P (ResM X ρ n S.nx k.den S' mk') a w := by
  have other : ∀ (c : Code) {S : SS} {mk : MK} {k : KE} {S' : SS} {mk' : MK} {ρ : Rho} {a : Act} {w : World}, (match execC X.P X.Ps C N n c S with
    | some (k, S') => some (k, S', mk)
    | none => none) = some (k, S', mk') → SatM X ρ n S mk a w → c.wpIn Fence.wide m X.P (ResM X ρ n S.nx k.den S' mk') a w := by
    intro c S mk k S' mk' ρ a w h hs
    split at h
    · rename_i k1 S1 hx
      injection h with h
      injection h with h1 h
      injection h with h2 h3
      subst h1 h2 h3
      refine wpIn_wide.2 (wp_mono (execC_s (X := X.now ρ S.L S.nx w a.defers) (hC (X.now ρ S.L S.nx w a.defers) rfl rfl) (hN (X.now ρ S.L S.nx w a.defers) rfl rfl) hm c hx hs.now) ?_)
      rintro e a' w' ⟨rfl, ρ', r1, r2, r3⟩
      exact ⟨rfl, ρ', r1, r2, hs.join r1 r2 r3⟩
    · cases h
  intro c
  induction c with
  | seq x y ihx ihy =>
    intro S mk k S' mk' ρ a w h hs
    unfold execM at h
    refine wpIn_seq ?_
    split at h
    · rename_i S1 mk1 h1
      refine wpIn_mono (ihx h1 hs) ?_
      rintro e a w' ⟨rfl, ρ1, r1, r2, r3⟩
      exact wpIn_mono (ihy h r3) (ResM.mono r1 r2)
    · rename_i hne
      have hk : k ≠ .nrm := fun e => by
        subst e
        exact hne S' mk' h
      refine wpIn_mono (ihx h hs) ?_
      rintro e a w' ⟨rfl, hres⟩
      have : Exit.then (y.wpIn Fence.wide m X.P (ResM X ρ n S.nx k.den S' mk')) (ResM X ρ n S.nx k.den S' mk') k.den a w' = ResM X ρ n S.nx k.den S' mk' k.den a w' := by
        cases k with
        | nrm => exact absurd rfl hk
        | ext i => rfl
        | rt => rfl
      rw [this]
      exact ⟨rfl, hres⟩
  | cond c x y ihx ihy =>
    intro S mk k S' mk' ρ a w h hs
    unfold execM at h
    split at h
    · rename_i hc
      exact wpIn_cond_true (ev_s hs.hs.tm hc) (ihx h hs)
    · rename_i hc
      exact wpIn_cond_false (ev_s hs.hs.tm hc) (ihy h hs)
    · cases h
  | block id b ih =>
    intro S mk k S' mk' ρ a w h hs
    unfold execM at h
    refine wpIn_block ?_
    split at h
    · rename_i j S1 mk1 h1
      refine wpIn_mono (ih h1 hs) ?_
      rintro e a w' ⟨rfl, hres⟩
      split at h
      · rename_i hj
        have hj := Nat.eq_of_beq_eq_true hj
        injection h with h
        injection h with e1 h
        injection h with e2 e3
        subst e1 e2 e3 hj
        show if _ then _ else _
        rw [if_pos rfl]
        exact ⟨rfl, hres⟩
      · rename_i hj
        injection h with h
        injection h with e1 h
        injection h with e2 e3
        subst e1 e2 e3
        show if _ then _ else _
        rw [if_neg (fun e => by subst e; rw [Nat.beq_refl] at hj; cases hj)]
        exact ⟨rfl, hres⟩
    · rename_i hne
      refine wpIn_mono (ih h hs) ?_
      rintro e a w' ⟨rfl, hres⟩
      have : Exit.inBlock id (ResM X ρ n S.nx k.den S' mk') k.den a w' = ResM X ρ n S.nx k.den S' mk' k.den a w' := by
        cases k with
        | nrm => rfl
        | ext i => exact absurd h (hne i S' mk')
        | rt => rfl
      rw [this]
      exact ⟨rfl, hres⟩
  | region id ops draw =>
    intro S mk k S' mk' ρ a w h hs
    cases draw with
    | true => exact other _ h hs
    | false =>
      unfold execM at h
      split at h
      · rename_i S1 mk1 hr
        injection h with h
        injection h with e1 h
        injection h with e2 e3
        subst e1 e2 e3
        refine wpIn_wide.2 (wp_region ?_)
        have := opsM_s (S0 := S) (ρ0 := ρ) hC hN (k := 0) (by rw [List.drop_zero]) hr (Agr.refl _ _) (Nat.le_refl _) hs
        rw [List.range_eq_range', ← Array.length_toList]
        exact this
      · cases h
  | rangeFunc g ps asg body =>
    intro S mk k S' mk' ρ a w h hs
    unfold execM at h
    split at h
    · split at h
      · rename_i S1 hl
        injection h with h
        injection h with e1 h
        injection h with e2 e3
        subst e1 e2 e3
        refine wpIn_mono (loopS_s hC hN hl hs.hp hs.hs) ?_
        rintro e a' w' ⟨rfl, D, ρ', d1, rfl, d2, r1, r2, r3, r4, r5⟩
        have hd : a.defers = X.D := hs.wt
        have hs' := hs.hs.agr r1 r2
        exact ⟨rfl, ρ', r1, r2, r3, by rw [r4]; exact ⟨hs'.sz, hs'.tm, hs'.fs⟩, D, by show _ :: a.defers = _; rw [hd], d2, d1⟩
      · cases h
    · cases h
  | _ =>
    intro S mk k S' mk' ρ a w h hs
    exact other _ h hs
end
/-- a function with a loop over a function, or a deferred call -/
def runM (P : Program) (Ps : List SF) (C N : CallR) (f : FuncId) (args : List SV) (L : List SF) (nx : Nat) : Option (SV × List SF × Nat) := match P.funcs[f]? with
  | none => none
  | some fn => match fn.body with
    | none => none
    | some c => match execM P Ps C N (args.length + (fn.ntmps - args.length)) c ⟨initT 0 args .l, L, nx⟩ .no with
      | some (.ext _, _, _) => none
      | some (_, S', .fn g cap) => match enters P g, runBody P Ps C N g (cap.map ptrV) S'.L S'.nx with
        | true, some (_, L2, nx2) => match resL P Ps L2 S'.sl fn.results.toList with
          | some r => some (tupS r, L2, nx2)
          | none => none
        | _, _ => none
      | some (_, S', _) => match resL P Ps S'.L S'.sl fn.results.toList with
        | some r => some (tupS r, S'.L, S'.nx)
        | none => none
      | none => none
section
variable {X : Cx} {C N : CallR} {ρ : Rho} {nx : Nat}
theorem runM_d (hd : X.D = []) (hC : ∀ X' : Cx, X'.P = X.P → X'.Ps = X.Ps → CallOK X' C) (hN : ∀ X' : Cx, X'.P = X.P → X'.Ps = X.Ps → NatOK X' N) (hm : X.P.follows .mixedOrders = true) : CallOK X (runM X.P X.Ps C N) := by
  intro f args L nx v L' nx' h ha ρ w hp
  unfold runM at h
  split at h
  · cases h
  · rename_i fn hf
    split at h
    · cases h
    · rename_i c hb
      have hstart := start_s hd ha hp fn.ntmps
      have hst : SatM X ρ _ _ .no _ _ := ⟨hstart.hp, hstart.hs, hstart.df⟩
      refine (callsIn_wide (n := 0)).1 (callsIn_of_wp_marks hf hb trivial ?_)
      have fin : ∀ (k : KE) (S' : SS) (mk : MK), (∀ i, k ≠ .ext i) → execM X.P X.Ps C N (args.length + (fn.ntmps - args.length)) c ⟨initT 0 args .l, L, nx⟩ .no = some (k, S', mk) →
          (∀ (ρ' : Rho) (a : Act) (w' : World), Agr nx ρ ρ' → nx ≤ S'.nx → SatM X ρ' (args.length + (fn.ntmps - args.length)) S' mk a w' → LeavesInM Fence.wide 0 X.P fn a.tmps (fun e w' => ∃ ρ', e = .returned (v.den ρ') ∧ Good X ρ nx v L' nx' w' ρ') a.defers .returning w') →
          c.wpIn Fence.wide 0 X.P (bodyPostM Fence.wide 0 X.P fn fun e w' => ∃ ρ', e = .returned (v.den ρ') ∧ Good X ρ nx v L' nx' w' ρ') { tmps := (args.map (SV.den ρ)).toArray ++ Array.replicate (fn.ntmps - (args.map (SV.den ρ)).toArray.size) undef, defers := [] } w := by
        intro k S' mk hk hex hq
        refine wpIn_mono (execM_s hC hN hm c hex hst) ?_
        rintro e a w' ⟨rfl, ρ', r1, r2, r3⟩
        cases k with
        | nrm => exact hq ρ' a w' r1 r2 r3
        | rt => exact hq ρ' a w' r1 r2 r3
        | ext i => exact absurd rfl (hk i)
      split at h
      · cases h
      · rename_i k S' g cap hne hex
        refine fin k S' _ (fun i e => hne i (by rw [e])) hex ?_
        intro ρ' a w' r1 r2 r3
        obtain ⟨hdf, hcap⟩ := r3.wt
        rw [hd] at hdf
        rw [hdf]
        split at h
        · rename_i v2 L2 nx2 hen hrb
          split at h
          · rename_i r hr
            injection h with h
            injection h with e1 h
            injection h with e2 e3
            subst e1 e2 e3
            obtain ⟨fn2, c2, hf2, hb2, hw2⟩ := runBody_wp hd (hC X rfl rfl) (hN X rfl rfl) hm hrb hcap r3.hp
            have ecap : ((cap.map ptrV).map (SV.den ρ')).toArray = (cap.map fun p => Value.pointer (some (pden ρ' p))).toArray := by rw [map_ptrV]
            refine ⟨by simp, .inr ⟨fun e => (by cases e), .func g, _, g, ((cap.map ptrV).map (SV.den ρ')).toArray, rfl, ?_, fun _ _ => trivial, ?_⟩⟩
            · simp only [invoke]
              rw [show (#[] ++ (cap.map fun p => Value.pointer (some (pden ρ' p))).toArray : Array Value) = ((cap.map ptrV).map (SV.den ρ')).toArray by rw [ecap]; simp]
              exact enters_s hen _ _
            · refine (callsDIn_of_wp hf2 hb2 trivial (wpIn_wide.2 hw2)).mono ?_
              rintro e u' w2 ⟨rfl, ρ2, rfl, hg⟩
              have hsat : Sat { X with D := a.defers } ρ2 (args.length + (fn.ntmps - args.length)) ⟨S'.sl, L2, nx2⟩ a w2 := ⟨hg.hp.dd _, r3.hs.agr hg.agr hg.le, rfl⟩
              obtain ⟨hres, hal⟩ := res_s hsat hr
              exact ⟨_, hres, ρ2, rfl, r1.trans hg.agr r2, Nat.le_trans r2 hg.le, hal, hg.hp⟩
          · cases h
        · cases h
      · rename_i k S' mk hne hnf hex
        split at h
        · rename_i r hr
          injection h with h
          injection h with e1 h
          injection h with e2 e3
          subst e1 e2 e3
          refine fin k S' _ (fun i e => hne i (by rw [e])) hex ?_
          intro ρ' a w' r1 r2 r3
          have hsat : ∀ w2, Hp X ρ' S'.L S'.nx w2 → (results fn a.tmps).run X.P w2 = .ok ((tupS r).den ρ') w2 ∧ (tupS r).al (lt S'.nx) = true := fun w2 h2 =>
            res_s (X := { X with D := a.defers }) (S := S') (a := a) ⟨h2.dd _, r3.hs, rfl⟩ hr
          cases mk with
          | no =>
            have hdf : a.defers = X.D := r3.wt
            rw [hdf, hd]
            obtain ⟨q1, q2⟩ := hsat w' r3.hp
            exact ⟨_, q1, ρ', rfl, r1, r2, q2, r3.hp⟩
          | mark =>
            obtain ⟨D, hdf, hD, hlt⟩ := r3.wt
            rw [hd] at hdf
            rw [hdf]
            have ht := r3.hp.turn (o' := .deferred none) hD rfl hlt
            obtain ⟨q1, q2⟩ := hsat _ ht
            exact ⟨by simp, .inl ⟨D, _, rfl, run_takeDeferred hD, _, q1, ρ', rfl, r1, r2, q2, ht⟩⟩
          | fn g cap => exact absurd rfl (hnf g cap)
        · cases h
      · cases h
theorem runM_s (hC : ∀ X' : Cx, X'.P = X.P → X'.Ps = X.Ps → CallOK X' C) (hN : ∀ X' : Cx, X'.P = X.P → X'.Ps = X.Ps → NatOK X' N) (hm : X.P.follows .mixedOrders = true) : CallOK X (runM X.P X.Ps C N) :=
  CallOK.ud (D := []) (runM_d (X := { X with D := [] }) rfl hC hN hm)
end
end Kex
