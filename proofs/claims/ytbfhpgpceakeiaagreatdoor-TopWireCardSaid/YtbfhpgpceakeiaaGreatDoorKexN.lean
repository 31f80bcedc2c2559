/- Loops over a function, deferred calls: run on a state as data. Over any program; no conditions but the room. -/
import Derived.Test.YtbfhpgpceakeiaaGreatDoorKexL
import Derived.RangeFuncCalls
import Derived.RangeFuncLeaves
import Derived.RangeFuncSeq
namespace Kex
open Go Go.RowKit Kin

-- what the machine lays down for a loop, and a mark's calls
def isLD : Obj → Bool
  | .loop _ => true
  | .deferred _ => true
  | _ => false
def KeepsLD (W W' : World) : Prop := W.heap.size ≤ W'.heap.size ∧ ∀ (k : Nat) (o : Obj), W.heap[k]? = some o → isLD o = true → W'.heap[k]? = some o
theorem KeepsLD.refl (W : World) : KeepsLD W W := ⟨Nat.le_refl _, fun _ _ h _ => h⟩
theorem KeepsLD.trans {A B C : World} (h : KeepsLD A B) (k : KeepsLD B C) : KeepsLD A C := ⟨Nat.le_trans h.1 k.1, fun i o hi ho => k.2 i o (h.2 i o hi ho) ho⟩
section
variable {ρ ρ' : Rho} {w W W' : World}
theorem sf_own {f : SF} (h : (f.den ρ).say w) : ∀ k ∈ (f.den ρ).own, ∀ o, w.heap[k]? = some o → isLD o = false := by
  intro k hk o ho
  cases f with
  | blk g t cs =>
    have e : k = g.den ρ := by simpa [SF.den] using hk
    subst e
    have h' : Blk w (g.den ρ) t (dens ρ cs).toArray := h
    unfold Blk at h'
    rw [h'] at ho
    injection ho with ho
    subst ho
    rfl
  | gro g t m n c cs =>
    have e : k = g.den ρ := by simpa [SF.den] using hk
    subst e
    obtain ⟨cur, fz, h1, _⟩ := h
    rw [h1] at ho
    injection ho with ho
    subst ho
    rfl
  | ro g cs => cases hk
  | map g es n =>
    have e : k = g.den ρ := by simpa [SF.den] using hk
    subst e
    have h' : MapIs w (g.den ρ) (es.map (eden ρ)).toArray n := h
    unfold MapIs at h'
    rw [h'] at ho
    injection ho with ho
    subst ho
    rfl
  | itr g s n =>
    have e : k = g.den ρ := by simpa [SF.den] using hk
    subst e
    have h' : w.heap[g.den ρ]? = some (.stringIter s n) := h
    rw [h'] at ho
    injection ho with ho
    subst ho
    rfl
theorem sf_turn {f : SF} {l : Nat} {o o' : Obj} (h : (f.den ρ).say W) (hl : W.heap[l]? = some o) (ho : isLD o = true) : (f.den ρ).say (W.putObj l o') := by
  by_cases hro : ∃ g cs, f = .ro g cs
  · obtain ⟨g, cs, rfl⟩ := hro
    obtain ⟨h1, h2⟩ := (h : (Fact.rdc (g.den ρ) (dens ρ cs)).say W)
    refine ⟨by rw [World.putObj_size]; exact h1, fun j v hv => ?_⟩
    by_cases e : g.den ρ = l
    · have h3 := h2 j v hv
      subst e
      exfalso
      unfold World.cell? at h3
      cases o with
      | loop r => simp [hl] at h3
      | deferred r => simp [hl] at h3
      | _ => cases ho
    · exact (World.cell?_of_block (a := ⟨g.den ρ, j, none⟩) (World.putObj_heap_other e)).trans (h2 j v hv)
  · refine (f.den ρ).good W _ (fun k hk => ?_) h
    have hk' : k ∈ (f.den ρ).own := by
      rcases hk with hk | hk
      · exact hk
      · cases f with
        | ro g cs => exact absurd ⟨g, cs, rfl⟩ hro
        | _ => cases hk
    refine World.putObj_heap_other (fun e => ?_)
    subst e
    rw [sf_own h k hk' o hl] at ho
    cases ho
end
section
variable {X : Cx} {ρ ρ' : Rho} {L L' : List SF} {n nx nx' : Nat} {S : SS} {a : Act} {w W W' : World}
theorem Hp.turn (h : Hp X ρ L nx W) {l : Nat} {o o' : Obj} (hl : W.heap[l]? = some o) (ho : isLD o = true) (hlt : X.w0.heap.size ≤ l) : Hp X ρ L nx (W.putObj l o') := by
  refine ⟨h.ag, h.le, h.po, h.fl, ?_⟩
  have hb := grownBy_putObj' W l o'
  have hs : ∀ (ρ : Rho) (L : List SF), Says W (L.map (SF.den ρ)) → Says (W.putObj l o') (L.map (SF.den ρ)) := fun ρ L hL => says_iff.2 fun f hf => by
    obtain ⟨g, hg, rfl⟩ := List.mem_map.1 hf
    exact sf_turn (says_iff.1 hL _ hf) hl ho
  refine ⟨hs _ _ h.st.ro, hs _ _ h.st.all, h.st.nod, h.st.dis, h.st.apart, h.st.own, h.st.rown, h.st.chg.grown hb (fun g e => ?_)⟩
  injection e with e
  subst e
  exact .inr hlt
/-- the walk told from here on -/
abbrev Cx.now (X : Cx) (ρ : Rho) (L : List SF) (nx : Nat) (w : World) (D : List Deferred) : Cx := ⟨X.P, X.Ps, nx, ρ, w, L.map (SF.den ρ), D⟩
theorem Hp.pso (h : Hp X ρ L nx w) : X.Ps.map (SF.den ρ) = X.Ps.map (SF.den X.ρ0) := SFs_al (p := lt X.nv) (fun k hk => h.ag k (lt_iff.1 hk)) h.po
theorem Hp.now (h : Hp X ρ L nx w) (D : List Deferred) : Hp (X.now ρ L nx w D) ρ L nx w := by
  refine ⟨fun _ _ => rfl, Nat.le_refl _, SFs_mono (lt_mono h.le) h.po, h.fl, ?_⟩
  show St w (X.Ps.map (SF.den ρ)) (L.map (SF.den ρ)) w (L.map (SF.den ρ))
  rw [h.pso]
  exact ⟨h.st.ro, h.st.all, h.st.nod, h.st.dis, h.st.apart, fun _ hk => .inl hk, fun _ hk => .inl (.inr hk), Chg.refl _ _⟩
theorem Hp.keeps {D : List Deferred} (h : Hp X ρ L nx w) (k : Hp (X.now ρ L nx w D) ρ' L' nx' W') : KeepsLD w W' := by
  refine ⟨k.st.chg.size, fun i o hi ho => (k.st.chg.block i (Array.getElem?_eq_some_iff.1 hi).1 (fun e => ?_)).trans hi⟩
  obtain ⟨f, hf, e⟩ := mem_owns.1 e
  obtain ⟨g, hg, rfl⟩ := List.mem_map.1 hf
  rw [sf_own (h.says (.inl hg)) i e o hi] at ho
  cases ho
theorem Hp.join {D : List Deferred} (h : Hp X ρ L nx w) (hr : Agr nx ρ ρ') (hn : nx ≤ nx') (k : Hp (X.now ρ L nx w D) ρ' L' nx' W') : Hp X ρ' L' nx' W' := by
  refine h.re hr hn k.fl ?_
  have kst : St w (X.Ps.map (SF.den ρ)) (L.map (SF.den ρ)) W' (L'.map (SF.den ρ')) := k.st
  rw [h.pso] at kst
  have p : Post w W' (L.map (SF.den ρ)) (L'.map (SF.den ρ')) := ⟨kst.all, kst.nod, kst.dis, kst.own, kst.rown, kst.chg⟩
  have hst := h.st
  refine ⟨kst.ro, kst.all, kst.nod, kst.dis, kst.apart, fun i hi => ?_, fun i hi => ?_, ?_⟩
  · rcases kst.own i hi with e | e
    · exact hst.own i e
    · exact .inr (Nat.le_trans hst.chg.size e)
  · rcases kst.rown i hi with (e | e) | e
    · exact (hst.own i e).imp .inl id
    · exact hst.rown i e
    · exact .inr (Nat.le_trans hst.chg.size e)
  · refine hst.chg.trans kst.chg (fun _ _ e => e) (fun i hi e => ?_)
    rcases hst.own i e with h1 | h1
    · exact h1
    · omega
theorem Sat.now (h : Sat X ρ n S a w) : Sat (X.now ρ S.L S.nx w a.defers) ρ n S a w := ⟨h.hp.now _, h.hs, rfl⟩
theorem Sat.join {S' : SS} {a' : Act} (h : Sat X ρ n S a w) (hr : Agr S.nx ρ ρ') (hn : S.nx ≤ S'.nx) (k : Sat (X.now ρ S.L S.nx w a.defers) ρ' n S' a' W') : Sat X ρ' n S' a' W' ∧ KeepsLD w W' :=
  ⟨⟨h.hp.join hr hn k.hp, k.hs, k.df.trans h.df⟩, h.hp.keeps k.hp⟩
end
-- code within fences
def noDef : Op → Bool
  | .defer _ => false
  | _ => true
def OpenF (F : Fence) : Prop := F = Fence.wide ∨ ∃ l, F = Fence.wide.inRound l
section
variable {F : Fence} {m : Nat} {P : Program}
theorem OpenF.fn (h : OpenF F) (f : FuncId) : F.fn f := by rcases h with rfl | ⟨l, rfl⟩ <;> exact trivial
theorem OpenF.depth (h : OpenF F) {p : Prop} : F.depth.isSome = true → p := by rcases h with rfl | ⟨l, rfl⟩ <;> exact fun h => by cases h
theorem OpenF.calls (h : OpenF F) {f : FuncId} {args : Array Value} {w : World} {R R' : Ending → World → Prop} (hc : Calls P f args w R) (hr : ∀ e w, R e w → R' e w) : CallsIn F m P f args w R' := by
  have h0 : CallsIn Fence.wide m P f args w R' := callsIn_wide.2 (hc.mono hr)
  rcases h with rfl | ⟨l, rfl⟩
  · exact h0
  · exact h0.inRound l
theorem opIn (hF : OpenF F) {o : Oper} (hd : noDef o.op = true) {a : Act} {w : World} {K : Act → World → Prop} {Q : Exit → Act → World → Prop} (h : o.wp P a w K Q) : o.wpIn F m P a w K Q := by
  refine ⟨fun f _ => hF.fn f, ?_⟩
  rw [Oper.semAt_eq _ _ _ (by intro c e; rw [e] at hd; cases hd)]
  unfold Oper.wp at h
  cases hr : (execOp a.eval o).run P w with
  | ok x w' =>
    rw [hr] at h
    cases x with
    | value v => exact h
    | skip => exact h
    | defer d => exact h
    | enter f args =>
      refine ⟨hF.depth, hF.calls h fun e w hw => ?_⟩
      cases e <;> exact hw
    | row row args =>
      refine ⟨hF.depth, ?_⟩
      intro c cs _
      obtain ⟨v, w'', r, s⟩ := (h : Rows P row args w' _) c cs
      refine ⟨v, w'', r, ?_⟩
      have : StepsIn (Machine.fenced P Fence.wide) P (lone (Frame.ofRow P row args .normal) (c :: cs) w') (lone (c.finish v) cs w'') := stepsIn_wide.2 s
      rcases hF with rfl | ⟨l, rfl⟩
      · exact this
      · exact this
    | _ => exact h.elim
  | halt x w' =>
    rw [hr] at h
    cases x with
    | panic v => exact h
    | _ => exact h.elim
/-- rounds of an inner loop, in a fence -/
def roundsIn (F : Fence) (m : Nat) (P : Program) (c : Code) (Q : Exit → Act → World → Prop) : Nat → Act → World → Prop
  | 0, _, _ => False
  | k + 1, a, w => c.wpIn F m P (Exit.then (roundsIn F m P c Q k) Q) a w
theorem wpIn_loop_rounds {Q : Exit → Act → World → Prop} {a : Act} {w : World} {c : Code} (n : Nat) (h : roundsIn F m P c Q n a w) : (Code.loop c).wpIn F m P Q a w := by
  intro b k cs hro hb hr
  have key : ∀ n a w, roundsIn F m P c Q n a w →
      ∃ e a' w', Q e a' w' ∧ ArrivesIn (Machine.fenced P F) P (lone (b.atR a (.code c :: .inLoop c :: k)) cs w) b k cs e a' w' := by
    intro n
    induction n with
    | zero => intro a w h; exact h.elim
    | succ n ih =>
      intro a w h
      obtain ⟨e, a₁, w₁, hq, harr⟩ := h b (.inLoop c :: k) cs hro hb hr
      cases e with
      | normal =>
        obtain ⟨e₂, a₂, w₂, hq₂, harr₂⟩ := ih a₁ w₁ hq
        exact ⟨e₂, a₂, w₂, hq₂, .of_steps (StepsIn.trans harr (.one (fenced_calm hb hr rfl) stepR_inLoop)) harr₂⟩
      | exit id => exact ⟨_, a₁, w₁, hq, .pass (x := .inLoop c) rfl (fun _ _ => .inl (by simp)) harr⟩
      | goto l => exact ⟨_, a₁, w₁, hq, .pass (x := .inLoop c) rfl (fun _ _ => .inl (by simp)) harr⟩
      | ret => exact ⟨_, a₁, w₁, hq, .pass (x := .inLoop c) rfl (fun _ _ => .inl (by simp)) harr⟩
      | panic ch => exact ⟨_, a₁, w₁, hq, .pass (x := .inLoop c) rfl (fun _ _ => .inl (by simp)) harr⟩
      | outgrown => exact ⟨_, a₁, w₁, hq, .pass (x := .inLoop c) rfl (fun _ _ => .inl (by simp)) harr⟩
  obtain ⟨e, a', w', hq, harr⟩ := key n a w h
  exact ⟨e, a', w', hq, .of_steps (.one (fenced_calm hb hr rfl) stepR_loop) harr⟩
end
/-- what is called for a value -/
abbrev YR := List SV → List SF → Nat → Option (List SF × Nat)
def noY : YR := fun _ _ _ => none
def yldOf (sl : TS) (c : Call) : Option (SN × List SV) := match c.callee with
  | .value f => match ev sl f, evs sl c.args.toList with
    | some (.e (.c (.yld g))), some args => some (g, args)
    | _, _ => none
  | _ => none
def stepY (l : Nat) (Y : YR) (n : Nat) (ops : Array Oper) (o : Oper) (S : SS) : Option SS := match wantS n ops S.sl o, o.op with
  | some true, .call c => match yldOf S.sl c with
    | some (g, args) => match g.eq (.v l), Y args S.L S.nx with
      | true, some (L', nx') => match putS n o.dst (.e (.c (.bool true))) S.sl with
        | some sl' => some ⟨sl', L', nx'⟩
        | none => none
      | _, _ => none
    | none => none
  | _, _ => none
/-- code with one hook; regions in the order of their text -/
def opsY (P : Program) (Ps : List SF) (C N : CallR) (l : Nat) (Y : YR) (n : Nat) (ops : Array Oper) : List Oper → SS → Option SS
  | [], S => some S
  | o :: r, S => match noDef o.op with
    | true => match stepA P Ps C N n ops o S with
      | some S' => opsY P Ps C N l Y n ops r S'
      | none => match stepY l Y n ops o S with
        | some S' => opsY P Ps C N l Y n ops r S'
        | none => none
    | false => none
def execY (P : Program) (Ps : List SF) (C N : CallR) (l : Nat) (Y : YR) (n : Nat) : Code → SS → Option (KE × SS)
  | .skip, S => some (.nrm, S)
  | .region _ ops false, S => match opsY P Ps C N l Y n ops ops.toList S with
    | some S' => some (.nrm, S')
    | none => none
  | .seq a b, S => match execY P Ps C N l Y n a S with
    | some (.nrm, S') => execY P Ps C N l Y n b S'
    | r => r
  | .cond c x y, S => match ev S.sl c with
    | some (.e (.c (.bool true))) => execY P Ps C N l Y n x S
    | some (.e (.c (.bool false))) => execY P Ps C N l Y n y S
    | _ => none
  | .block id b, S => match execY P Ps C N l Y n b S with
    | some (.ext k, S') => match Nat.beq k id with
      | true => some (.nrm, S')
      | false => some (.ext k, S')
    | r => r
  | .loop b, S => iter 1000000 (execY P Ps C N l Y n b) S
  | .exit id, S => some (.ext id, S)
  | .ret, S => some (.rt, S)
  | _, _ => none
/-- what a run leaves, and keeps -/
def ResY (X : Cx) (W : World) (ρ : Rho) (n nx : Nat) (k : Exit) (S' : SS) : Exit → Act → World → Prop := fun e a w => Res X ρ n nx k S' e a w ∧ KeepsLD W w
/-- a hook that keeps its word in every state within the loop -/
def YOn (X : Cx) (I : World → Prop) (F : Fence) (l : Nat) (Y : YR) : Prop := ∀ {args : List SV} {L : List SF} {nx : Nat} {L' : List SF} {nx' : Nat} {m : Nat} {ρ : Rho} {W : World}, Y args L nx = some (L', nx') → args.all (SV.al (lt nx)) = true → Hp X ρ L nx W → I W → (Agr X.nv X.ρ0 ρ) →
  YieldAt F m X.P (ρ l) (args.map (SV.den ρ)).toArray W fun e W' => e = .returned (.bool true) ∧ KeepsLD W W' ∧ ∃ ρ', Agr nx ρ ρ' ∧ nx ≤ nx' ∧ Hp X ρ' L' nx' W'
def IKept (I : World → Prop) : Prop := ∀ {W W' : World}, I W → KeepsLD W W' → I W'
section
variable {X : Cx} {C N : CallR} {F : Fence} {l : Nat} {Y : YR} {I : World → Prop} {n m : Nat}
theorem opsY_s (hF : OpenF F) (hI : IKept I) (hC : ∀ X' : Cx, X'.P = X.P → X'.Ps = X.Ps → CallOK X' C) (hN : ∀ X' : Cx, X'.P = X.P → X'.Ps = X.Ps → NatOK X' N) (hY : YOn X I F l Y) {ops : Array Oper} {S0 : SS} {ρ0 : Rho} {W0 : World} :
    ∀ {r : List Oper} {k : Nat} {S S' : SS} {ρ : Rho} {a : Act} {w : World}, r = ops.toList.drop k → opsY X.P X.Ps C N l Y n ops r S = some S' → Agr S0.nx ρ0 ρ → S0.nx ≤ S.nx → Sat X ρ n S a w → I w → KeepsLD W0 w →
      wpOpsIn F m X.P ops (ResY X W0 ρ0 n S0.nx .normal S') (List.range' k r.length) a w
  | [], k, S, S', ρ, a, w, _, h, hr, hn, hsat, hi, hk => by
    injection h with h
    subst h
    exact ⟨⟨rfl, ρ, hr, hn, hsat⟩, hk⟩
  | o :: r, k, S, S', ρ, a, w, hl, h, hr, hn, hsat, hi, hk => by
    unfold opsY at h
    split at h
    · rename_i hnd
      have hkl : k < ops.toList.length := by
        rcases Nat.lt_or_ge k ops.toList.length with e | e
        · exact e
        · rw [List.drop_of_length_le e] at hl
          cases hl
      rw [List.drop_eq_getElem_cons hkl] at hl
      injection hl with e1 e2
      have ho : ops[k]? = some o := by
        rw [← Array.getElem?_toList, List.getElem?_eq_getElem hkl, e1]
      show wpOpsIn F m X.P ops _ (k :: List.range' (k + 1) r.length) a w
      unfold wpOpsIn
      rw [ho]
      simp only
      split at h
      · rename_i S1 hs
        have key := stepA_s (X := X.now ρ S.L S.nx w a.defers) (Q := ResY X W0 ρ0 n S0.nx .normal S') (hC (X.now ρ S.L S.nx w a.defers) rfl rfl) (hN (X.now ρ S.L S.nx w a.defers) rfl rfl) hsat.now hs (K := wpOpsIn F m X.P ops (ResY X W0 ρ0 n S0.nx .normal S') (List.range' (k + 1) r.length)) (fun ρ' a' w' r1 r2 r3 => by
          obtain ⟨q1, q2⟩ := hsat.join r1 r2 r3
          exact opsY_s hF hI hC hN hY e2 h (hr.trans r1 hn) (Nat.le_trans hn r2) q1 (hI hi q2) (hk.trans q2))
        split
        · rename_i hw
          rw [if_pos hw] at key
          exact opIn hF hnd key
        · rename_i hw
          rw [if_neg hw] at key
          exact ⟨fun f _ => hF.fn f, key⟩
      · split at h
        · rename_i S1 hs
          unfold stepY at hs
          split at hs
          · rename_i c hw hop
            have hw := wantS_s hsat.hs hw
            rw [if_pos hw]
            split at hs
            · rename_i g args hy
              split at hs
              · rename_i L' nx' hg hYY
                have hg := SN.eq_s hg
                subst hg
                split at hs
                · rename_i sl' hp
                  injection hs with hs
                  subst hs
                  unfold yldOf at hy
                  split at hy
                  · rename_i fo hcal
                    split at hy
                    · rename_i g' args' hf hargs
                      injection hy with hy
                      injection hy with h1 h2
                      subst h1 h2
                      obtain ⟨e1, e2'⟩ := evs_s hsat.hs hargs
                      have hfv : a.eval fo = .func (.yield (ρ l)) #[] #[] := ev_s hsat.hs.tm hf
                      have ha : c.args.map a.eval = (args'.map (SV.den ρ)).toArray := Array.toList_inj.1 (by rw [Array.toList_map, e1])
                      have hrun : (execOp a.eval o).run X.P w = (Instr.yield (ρ l) (args'.map (SV.den ρ)).toArray).run X.P w := by
                        unfold execOp
                        rw [hop]
                        simp only
                        have hr : (resolve a.eval c o.type) = pure { target := .fn (.yield (ρ l)) #[], args := (args'.map (SV.den ρ)).toArray } := by
                          simp [resolve, hcal, hfv, ha, Deferred.ofValue]
                        rw [hr]
                        simp only [Sem.run_bind, Sem.run_pure, Result.andThen_ok, invoke]
                      obtain ⟨fn, tmps, assign, body, hrd, hround⟩ := hY (m := m - 1) hYY e2' hsat.hp hi (fun k hk => hsat.hp.ag k (lt_iff.1 hk))
                      refine ⟨fun f _ => hF.fn f, ?_⟩
                      rw [Oper.semAt_eq _ _ _ (by intro c e; rw [e] at hnd; cases hnd), hrun, hrd]
                      refine ⟨hF.depth, hround.mono ?_⟩
                      rintro e w' ⟨rfl, k1, ρ', q1, q2, q3⟩
                      refine opsY_s hF hI hC hN hY e2 h (hr.trans q1 hn) (Nat.le_trans hn q2) ⟨q3, ?_, (put_df o.dst _).trans hsat.df⟩ (hI hi k1) (hk.trans k1)
                      exact putS_agr (v := .e (.c (.bool true))) hsat q1 q2 hp rfl
                    · cases hy
                  · cases hy
                · cases hs
              · cases hs
            · cases hs
          · cases hs
        · cases h
    · cases h
theorem iterY_s {c : Code} {f : SS → Option (KE × SS)} (hI : IKept I) {W0 : World} (hf : ∀ {S : SS} {k : KE} {S' : SS} {ρ : Rho} {a : Act} {w : World}, f S = some (k, S') → Sat X ρ n S a w → I w → c.wpIn F m X.P (ResY X w ρ n S.nx k.den S') a w) {nx0 : Nat} {ρ0 : Rho} :
    ∀ (j : Nat) {S : SS} {k : KE} {S' : SS} {ρ : Rho} {a : Act} {w : World}, iter j f S = some (k, S') → Agr nx0 ρ0 ρ → nx0 ≤ S.nx → Sat X ρ n S a w → I w → KeepsLD W0 w → roundsIn F m X.P c (ResY X W0 ρ0 n nx0 k.den S') j a w
  | 0, _, _, _, _, _, _, h, _, _, _, _, _ => by cases h
  | j + 1, S, k, S', ρ, a, w, h, hr, hn, hs, hi, hk => by
    unfold iter at h
    unfold roundsIn
    split at h
    · rename_i S1 hf1
      refine wpIn_mono (hf hf1 hs hi) ?_
      rintro e a w' ⟨⟨rfl, ρ1, r1, r2, r3⟩, k1⟩
      exact iterY_s hI hf j h (hr.trans r1 hn) (Nat.le_trans hn r2) r3 (hI hi k1) (hk.trans k1)
    · rename_i hne
      have hk' : k ≠ .nrm := fun e => by
        subst e
        exact hne S' h
      refine wpIn_mono (hf h hs hi) ?_
      rintro e a w' ⟨⟨rfl, ρ1, r1, r2, r3⟩, k1⟩
      have : Exit.then (roundsIn F m X.P c (ResY X W0 ρ0 n nx0 k.den S') j) (ResY X W0 ρ0 n nx0 k.den S') k.den a w' = ResY X W0 ρ0 n nx0 k.den S' k.den a w' := by
        cases k with
        | nrm => exact absurd rfl hk'
        | ext i => rfl
        | rt => rfl
      rw [this]
      exact ⟨⟨rfl, ρ1, hr.trans r1 hn, Nat.le_trans hn r2, r3⟩, hk.trans k1⟩
theorem execY_s (hF : OpenF F) (hI : IKept I) (hC : ∀ X' : Cx, X'.P = X.P → X'.Ps = X.Ps → CallOK X' C) (hN : ∀ X' : Cx, X'.P = X.P → X'.Ps = X.Ps → NatOK X' N) (hY : YOn X I F l Y) :
    ∀ (c : Code) {S : SS} {k : KE} {S' : SS} {ρ : Rho} {a : Act} {w : World}, execY X.P X.Ps C N l Y n c S = some (k, S') → Sat X ρ n S a w → I w → c.wpIn F m X.P (ResY X w ρ n S.nx k.den S') a w
  | .skip, S, k, S', ρ, a, w, h, hs, hi => by
    injection h with h
    injection h with h1 h2
    subst h1 h2
    exact wpIn_skip ⟨⟨rfl, ρ, Agr.refl _ _, Nat.le_refl _, hs⟩, .refl w⟩
  | .region id ops false, S, k, S', ρ, a, w, h, hs, hi => by
    unfold execY at h
    split at h
    · rename_i S1 hr
      injection h with h
      injection h with h1 h2
      subst h1 h2
      refine wpIn_region ?_
      have := opsY_s (S0 := S) (ρ0 := ρ) (m := m) hF hI hC hN hY (k := 0) (by rw [List.drop_zero]) hr (Agr.refl _ _) (Nat.le_refl _) hs hi (.refl w)
      rw [List.range_eq_range', ← Array.length_toList]
      exact this
    · cases h
  | .region _ _ true, _, _, _, _, _, _, h, _, _ => by cases h
  | .seq x y, S, k, S', ρ, a, w, h, hs, hi => by
    unfold execY at h
    refine wpIn_seq ?_
    split at h
    · rename_i S1 h1
      refine wpIn_mono (execY_s hF hI hC hN hY x h1 hs hi) ?_
      rintro e a w' ⟨⟨rfl, ρ1, r1, r2, r3⟩, k1⟩
      refine wpIn_mono (execY_s hF hI hC hN hY y h r3 (hI hi k1)) ?_
      rintro e a w'' ⟨q, k2⟩
      exact ⟨Res.mono r1 r2 _ _ _ q, k1.trans k2⟩
    · rename_i hne
      have hk : k ≠ .nrm := fun e => by
        subst e
        exact hne S' h
      refine wpIn_mono (execY_s hF hI hC hN hY x h hs hi) ?_
      rintro e a w' ⟨⟨rfl, hres⟩, k1⟩
      have : Exit.then (y.wpIn F m X.P (ResY X w ρ n S.nx k.den S')) (ResY X w ρ n S.nx k.den S') k.den a w' = ResY X w ρ n S.nx k.den S' k.den a w' := by
        cases k with
        | nrm => exact absurd rfl hk
        | ext i => rfl
        | rt => rfl
      rw [this]
      exact ⟨⟨rfl, hres⟩, k1⟩
  | .cond c x y, S, k, S', ρ, a, w, h, hs, hi => by
    unfold execY at h
    split at h
    · rename_i hc
      exact wpIn_cond_true (ev_s hs.hs.tm hc) (execY_s hF hI hC hN hY x h hs hi)
    · rename_i hc
      exact wpIn_cond_false (ev_s hs.hs.tm hc) (execY_s hF hI hC hN hY y h hs hi)
    · cases h
  | .block id b, S, k, S', ρ, a, w, h, hs, hi => by
    unfold execY at h
    refine wpIn_block ?_
    split at h
    · rename_i j S1 h1
      refine wpIn_mono (execY_s hF hI hC hN hY b h1 hs hi) ?_
      rintro e a w' ⟨⟨rfl, hres⟩, k1⟩
      split at h
      · rename_i hj
        have hj := Nat.eq_of_beq_eq_true hj
        injection h with h
        injection h with e1 e2
        subst e1 e2 hj
        show if _ then _ else _
        rw [if_pos rfl]
        exact ⟨⟨rfl, hres⟩, k1⟩
      · rename_i hj
        injection h with h
        injection h with e1 e2
        subst e1 e2
        show if _ then _ else _
        rw [if_neg (fun e => by subst e; rw [Nat.beq_refl] at hj; cases hj)]
        exact ⟨⟨rfl, hres⟩, k1⟩
    · rename_i hne
      refine wpIn_mono (execY_s hF hI hC hN hY b h hs hi) ?_
      rintro e a w' ⟨⟨rfl, hres⟩, k1⟩
      have : Exit.inBlock id (ResY X w ρ n S.nx k.den S') k.den a w' = ResY X w ρ n S.nx k.den S' k.den a w' := by
        cases k with
        | nrm => rfl
        | ext i => exact absurd h (hne i S')
        | rt => rfl
      rw [this]
      exact ⟨⟨rfl, hres⟩, k1⟩
  | .loop b, S, k, S', ρ, a, w, h, hs, hi => by
    unfold execY at h
    exact wpIn_loop_rounds 1000000 (iterY_s hI (fun h1 hs1 hi1 => execY_s hF hI hC hN hY b h1 hs1 hi1) _ h (Agr.refl _ _) (Nat.le_refl _) hs hi (.refl w))
  | .exit id, S, k, S', ρ, a, w, h, hs, hi => by
    injection h with h
    injection h with h1 h2
    subst h1 h2
    exact wpIn_exit ⟨⟨rfl, ρ, Agr.refl _ _, Nat.le_refl _, hs⟩, .refl w⟩
  | .ret, S, k, S', ρ, a, w, h, hs, hi => by
    injection h with h
    injection h with h1 h2
    subst h1 h2
    exact wpIn_ret ⟨⟨rfl, ρ, Agr.refl _ _, Nat.le_refl _, hs⟩, .refl w⟩
  | .rangeFunc .., _, _, _, _, _, _, h, _, _ => by cases h
  | .scope .., _, _, _, _, _, _, h, _, _ => by cases h
  | .label .., _, _, _, _, _, _, h, _, _ => by cases h
  | .goto .., _, _, _, _, _, _, h, _, _ => by cases h
  | .refuse .., _, _, _, _, _, _, h, _, _ => by cases h
end
end Kex
