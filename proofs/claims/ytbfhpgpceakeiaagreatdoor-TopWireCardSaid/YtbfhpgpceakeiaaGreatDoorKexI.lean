/- Regions, code and functions run on a state as data; names told anew. Over any program; no conditions but the room. -/
import Derived.Test.YtbfhpgpceakeiaaGreatDoorKexH
import Derived.LoopN
namespace Kex
open Go Go.RowKit Kin

/-- one that writes nothing -/
def stepQ (P : Program) (Ps : List SF) (n : Nat) (ops : Array Oper) (o : Oper) (S : SS) : Option (SS × Dm) := match wantS n ops S.sl o with
  | some true => match quietOp P Ps S.L S.sl S.nx o.type o.op with
    | some (d, v, nx') => match v.al (lt nx'), putS n o.dst v S.sl with
      | true, some sl' => some (⟨sl', S.L, nx'⟩, d)
      | _, _ => none
    | none => none
  | some false => match putS n o.dst (.t []) S.sl with
    | some sl' => some (⟨sl', S.L, S.nx⟩, .no)
    | none => none
  | none => none
/-- any -/
def stepA (P : Program) (Ps : List SF) (C N : CallR) (n : Nat) (ops : Array Oper) (o : Oper) (S : SS) : Option SS := match stepQ P Ps n ops o S with
  | some (S', _) => some S'
  | none => match wantS n ops S.sl o with
    | some true => match loudOp P Ps C N S.L S.sl S.nx o.op with
      | some (v, L', nx') => match putS n o.dst v S.sl with
        | some sl' => some ⟨sl', L', nx'⟩
        | none => none
      | none => none
    | _ => none
section
variable {X : Cx} {C N : CallR} {ρ : Rho} {n : Nat} {ops : Array Oper} {o : Oper} {S S' : SS} {a : Act} {w : World}
theorem put_df (d : Option Tmp) (v : Value) {a : Act} : (a.put d v).defers = a.defers := by cases d <;> rfl
theorem putS_agr {ρ' : Rho} {nx' : Nat} (h : Sat X ρ n S a w) (hr : Agr S.nx ρ ρ') (hn : S.nx ≤ nx') {d : Option Tmp} {v : SV} {sl' : TS} (hp : putS n d v S.sl = some sl') (hv : v.al (lt nx') = true) : Sl ρ' n sl' nx' (a.put d (v.den ρ')) := (h.hs.agr hr hn).put hp hv
theorem stepQ_s (h : Sat X ρ n S a w) {d : Dm} (hq : stepQ X.P X.Ps n ops o S = some (S', d)) :
    ∃ ρ' v, Agr S.nx ρ ρ' ∧ S.nx ≤ S'.nx ∧ YieldsIf X.P ops (d.den ρ) o v a ∧ (d.den ρ w ∧ d.al (lt S.nx) = true) ∧ Sat X ρ' n S' (a.put o.dst v) w := by
  unfold stepQ at hq
  split at hq
  · rename_i hw
    have hw := wantS_s h.hs hw
    split at hq
    · rename_i d' v nx' hqo
      split at hq
      · rename_i sl' hal hp
        injection hq with hq
        injection hq with h1 h2
        subst h1 h2
        have hdm := quietOp_dm h.hp hqo
        obtain ⟨ρ', r1, r2, r3⟩ := quietOp_s h.hs hqo hdm.2 hal
        refine ⟨ρ', v.den ρ', r1, r2, .inl ⟨hw, r3⟩, hdm, ⟨h.hp.re r1 r2 (SFs_mono (lt_mono r2) h.hp.fl) ?_, putS_agr h r1 r2 hp hal, (put_df o.dst _).trans h.df⟩⟩
        show St X.w0 (X.Ps.map (SF.den X.ρ0)) X.F w (S.L.map (SF.den ρ'))
        rw [reL h.hp r1]
        exact h.hp.st
      · cases hq
    · cases hq
  · rename_i hw
    have hw := wantS_s h.hs hw
    split at hq
    · rename_i sl' hp
      injection hq with hq
      injection hq with h1 h2
      subst h1 h2
      exact ⟨ρ, undef, Agr.refl _ _, Nat.le_refl _, .inr ⟨hw, rfl⟩, ⟨trivial, rfl⟩, ⟨h.hp, putS_agr (v := .t []) h (Agr.refl _ _) (Nat.le_refl _) hp rfl, (put_df o.dst _).trans h.df⟩⟩
    · cases hq
  · cases hq
theorem stepA_s (hC : CallOK X C) (hN : NatOK X N) (h : Sat X ρ n S a w) (hs : stepA X.P X.Ps C N n ops o S = some S') {K : Act → World → Prop} {Q : Exit → Act → World → Prop}
    (hk : ∀ ρ' a' w', Agr S.nx ρ ρ' → S.nx ≤ S'.nx → Sat X ρ' n S' a' w' → K a' w') :
    if Region.wanted o (yielded ops a.tmps) = true then o.wp X.P a w K Q else K (a.put o.dst undef) w := by
  unfold stepA at hs
  split at hs
  · rename_i S1 d hq
    injection hs with hs
    subst hs
    obtain ⟨ρ', v, r1, r2, hy, hd, hsat⟩ := stepQ_s h hq
    have hfin := hk ρ' _ _ r1 r2 hsat
    rcases hy with ⟨hw, hv⟩ | ⟨hw, rfl⟩
    · rw [if_pos hw]
      unfold Oper.wp
      rw [hv w hd.1]
      exact hfin
    · rw [if_neg (by rw [hw]; decide)]
      exact hfin
  · split at hs
    · rename_i hw
      have hw := wantS_s h.hs hw
      rw [if_pos hw]
      split at hs
      · rename_i v L' nx' hl
        split at hs
        · rename_i sl' hp
          injection hs with hs
          subst hs
          exact loudOp_s hC hN h.hp h.hs hl fun ρ' w' hg => hk ρ' _ w' hg.agr hg.le ⟨hg.hp, putS_agr h hg.agr hg.le hp hg.al, (put_df o.dst _).trans h.df⟩
        · cases hs
      · cases hs
    · cases hs
end
/-- a region in the order of its text -/
def opsU (P : Program) (Ps : List SF) (C N : CallR) (n : Nat) (ops : Array Oper) : List Oper → SS → Option SS
  | [], S => some S
  | o :: l, S => match stepA P Ps C N n ops o S with
    | some S' => opsU P Ps C N n ops l S'
    | none => none
/-- what a run leaves -/
def Res (X : Cx) (ρ : Rho) (n nx : Nat) (k : Exit) (S' : SS) : Exit → Act → World → Prop := fun e a w => e = k ∧ ∃ ρ', Agr nx ρ ρ' ∧ nx ≤ S'.nx ∧ Sat X ρ' n S' a w
theorem Res.mono {X : Cx} {ρ ρ1 : Rho} {n nx nx1 : Nat} {k : Exit} {S' : SS} (hr : Agr nx ρ ρ1) (hn : nx ≤ nx1) : ∀ e a w, Res X ρ1 n nx1 k S' e a w → Res X ρ n nx k S' e a w := by
  rintro e a w ⟨h1, ρ', h2, h3, h4⟩
  exact ⟨h1, ρ', hr.trans h2 hn, Nat.le_trans hn h3, h4⟩
section
variable {X : Cx} {C N : CallR} {ρ : Rho} {n : Nat} {ops : Array Oper} {a : Act} {w : World}
theorem opsU_s (hC : CallOK X C) (hN : NatOK X N) {S0 : SS} {ρ0 : Rho} : ∀ {l : List Oper} {k : Nat} {S S' : SS} {ρ : Rho} {a : Act} {w : World}, l = ops.toList.drop k → opsU X.P X.Ps C N n ops l S = some S' → Agr S0.nx ρ0 ρ → S0.nx ≤ S.nx → Sat X ρ n S a w →
    wpOps X.P ops (Res X ρ0 n S0.nx .normal S') (List.range' k l.length) a w
  | [], k, S, S', ρ, a, w, _, h, hr, hn, hsat => by
    injection h with h
    subst h
    exact ⟨rfl, ρ, hr, hn, hsat⟩
  | o :: l, k, S, S', ρ, a, w, hl, h, hr, hn, hsat => by
    unfold opsU at h
    split at h
    · rename_i S1 hs
      have hk : k < ops.toList.length := by
        rcases Nat.lt_or_ge k ops.toList.length with e | e
        · exact e
        · rw [List.drop_of_length_le e] at hl
          cases hl
      rw [List.drop_eq_getElem_cons hk] at hl
      injection hl with e1 e2
      have ho : ops[k]? = some o := by
        rw [← Array.getElem?_toList, List.getElem?_eq_getElem hk, e1]
      show wpOps X.P ops _ (k :: List.range' (k + 1) l.length) a w
      unfold wpOps
      rw [ho]
      simp only
      have key := stepA_s (Q := Res X ρ0 n S0.nx .normal S') hC hN hsat hs (K := wpOps X.P ops (Res X ρ0 n S0.nx .normal S') (List.range' (k + 1) l.length)) (fun ρ' a' w' r1 r2 r3 =>
        opsU_s hC hN e2 h (hr.trans r1 hn) (Nat.le_trans hn r2) r3)
      split
      · rename_i hw
        rw [if_pos hw] at key
        exact .inl key
      · rename_i hw
        rw [if_neg hw] at key
        exact key
    · cases h
theorem regU_s (hC : CallOK X C) (hN : NatOK X N) {id : Nat} {S S' : SS} (h : opsU X.P X.Ps C N n ops ops.toList S = some S') (hsat : Sat X ρ n S a w) : (Code.region id ops false).wp X.P (Res X ρ n S.nx .normal S') a w := by
  refine wp_region ?_
  have := opsU_s (S0 := S) (ρ0 := ρ) hC hN (k := 0) (by rw [List.drop_zero]) h (Agr.refl _ _) (Nat.le_refl _) hsat
  rw [List.range_eq_range', ← Array.length_toList]
  exact this
end
/-- which operations write -/
def isEff (P : Program) : Op → Bool
  | .alloc _ | .box _ _ | .buildSlice _ _ _ | .makeSlice _ _ _ | .store _ _ _ | .makeMap _ _ | .mapUpdate _ _ _ _ => true
  | .convert s d _ => match P.underlying s, P.underlying d with
    | some .string, some (.slice _) => true
    | _, _ => false
  | .call c => match c.callee with
    | .builtin .len | .builtin .cap | .builtin .min | .builtin .max => false
    | _ => true
  | _ => false
def effAt (P : Program) (ops : Array Oper) (i : Nat) : Bool := match ops[i]? with
  | some o => isEff P o.op
  | none => false
/-- a list of numbers that wait for i -/
def waitOn (i : Nat) (T : List Nat) (o : Oper) : Bool := o.after.toList.any fun e => Region.binds .any e && (Nat.beq e.on i || memN e.on T)
def waitL (ops : Array Oper) (i : Nat) : List Nat → List Nat → List Nat
  | [], T => T
  | j :: js, T => match ops[j]? with
    | some o => match waitOn i T o with
      | true => waitL ops i js (j :: T)
      | false => waitL ops i js T
    | none => waitL ops i js T
def waiters (ops : Array Oper) (i : Nat) : List Nat := waitL ops i (List.range ops.size) []
/-- .. which is closed, and of which none has come up -/
def okT (ops : Array Oper) (listed : Array Bool) (i : Nat) (T : List Nat) : Bool := T.all fun t => (match ops[t]? with
  | some o => waitOn i T o
  | none => false) && !listed.getD t true
def anchors (P : Program) (ops : Array Oper) (T : List Nat) : List Nat := T.filter (effAt P ops)
/-- a quiet one that may be taken first -/
def pickQ (P : Program) (ops : Array Oper) (listed : Array Bool) : List Nat → Option Nat
  | [] => none
  | i :: is => match !effAt P ops i && Region.free .any ops listed i && okT ops listed i (waiters ops i) with
    | true => some i
    | false => pickQ P ops listed is
def active (listed : Array Bool) (T : List Nat) : Bool := T.all fun t => !listed.getD t true
def dmsOK (Ps L : List SF) (listed : Array Bool) : List (List Nat × Dm) → Bool
  | [] => true
  | (T, d) :: ds => (!active listed T || dmOK Ps L d) && dmsOK Ps L listed ds
def regB (P : Program) (Ps : List SF) (C N : CallR) (n : Nat) (ops : Array Oper) (run : Array Bool → SS → Option (List SS)) (listed : Array Bool) (ds : List (List Nat × Dm)) (S : SS) : List Nat → Option (List SS)
  | [] => some []
  | i :: is => match ops[i]? with
    | some o => match stepA P Ps C N n ops o S with
      | some S' => match dmsOK Ps S'.L (listed.setIfInBounds i true) ds with
        | true => match run (listed.setIfInBounds i true) S', regB P Ps C N n ops run listed ds S is with
          | some l, some m => some (l ++ m)
          | _, _ => none
        | false => none
      | none => none
    | none => none
def regD (P : Program) (Ps : List SF) (C N : CallR) (n : Nat) (ops : Array Oper) : Nat → Array Bool → List (List Nat × Dm) → SS → Option (List SS)
  | 0, listed, _, S => match Region.ready .any ops listed with
    | [] => some [S]
    | _ => none
  | fuel + 1, listed, ds, S => match Region.ready .any ops listed with
    | [] => some [S]
    | r :: rs => match pickQ P ops listed (r :: rs) with
      | some i => match ops[i]? with
        | some o => match stepQ P Ps n ops o S with
          | some (S', d) => regD P Ps C N n ops fuel (listed.setIfInBounds i true) ((anchors P ops (waiters ops i), d) :: ds) S'
          | none => none
        | none => none
      | none => regB P Ps C N n ops (fun listed S => regD P Ps C N n ops fuel listed ds S) listed ds S (r :: rs)
/-- the demands of a state -/
def DS (ρ : Rho) (ds : List (List Nat × Dm)) (l : Array Bool) (w : World) : Prop := ∀ x ∈ ds, (∀ t ∈ x.1, l.getD t true = false) → x.2.den ρ w
def ResL (X : Cx) (ρ : Rho) (n nx : Nat) (outs : List SS) : Exit → Act → World → Prop := fun e a w => ∃ S' ∈ outs, Res X ρ n nx .normal S' e a w
section
variable {X : Cx} {C N : CallR} {n : Nat} {ops : Array Oper}
theorem waitOn_s {i : Nat} {T : List Nat} {o : Oper} (h : waitOn i T o = true) : ∃ e ∈ o.after, Region.binds .any e = true ∧ (e.on = i ∨ e.on ∈ T) := by
  unfold waitOn at h
  obtain ⟨e, he, h⟩ := List.any_eq_true.1 h
  rw [Bool.and_eq_true, Bool.or_eq_true] at h
  exact ⟨e, by simpa using he, h.1, h.2.imp Nat.eq_of_beq_eq_true memN_iff.1⟩
theorem okT_s {listed : Array Bool} {i : Nat} {T : List Nat} (h : okT ops listed i T = true) : (∀ t ∈ T, ∃ ot, ops[t]? = some ot ∧ ∃ e ∈ ot.after, Region.binds .any e = true ∧ (e.on = i ∨ e.on ∈ T)) ∧ ∀ t ∈ T, listed.getD t true = false := by
  unfold okT at h
  rw [List.all_eq_true] at h
  refine ⟨fun t ht => ?_, fun t ht => ?_⟩
  · have h1 := h t ht
    rw [Bool.and_eq_true] at h1
    split at h1
    · rename_i o ho
      exact ⟨o, ho, waitOn_s h1.1⟩
    · cases h1.1
  · have h1 := h t ht
    rw [Bool.and_eq_true] at h1
    have h2 := h1.2
    cases hg : listed.getD t true with
    | true => rw [hg] at h2; cases h2
    | false => rfl
theorem pickQ_s {P : Program} {listed : Array Bool} {i : Nat} : ∀ {is : List Nat}, pickQ P ops listed is = some i → i ∈ is ∧ effAt P ops i = false ∧ Region.free .any ops listed i = true ∧ okT ops listed i (waiters ops i) = true
  | [], h => by cases h
  | j :: is, h => by
    unfold pickQ at h
    split at h
    · rename_i hb
      injection h with h
      subst h
      rw [Bool.and_eq_true, Bool.and_eq_true] at hb
      refine ⟨List.mem_cons_self .., ?_, hb.1.2, hb.2⟩
      have := hb.1.1
      cases he : effAt P ops j with
      | true => rw [he] at this; cases this
      | false => rfl
    · obtain ⟨h1, h2⟩ := pickQ_s h
      exact ⟨List.mem_cons_of_mem _ h1, h2⟩
theorem anchors_eff {P : Program} {T : List Nat} {t : Nat} (h : t ∈ anchors P ops T) : t ∈ T ∧ effAt P ops t = true := by
  unfold anchors at h
  exact List.mem_filter.1 h
theorem dmsOK_s {ρ : Rho} {L : List SF} {nx : Nat} {w : World} (h : Hp X ρ L nx w) {listed : Array Bool} : ∀ {ds : List (List Nat × Dm)}, dmsOK X.Ps L listed ds = true → DS ρ ds listed w
  | [], _ => fun x hx => by cases hx
  | (T, d) :: ds, hd => fun x hx hT => by
    unfold dmsOK at hd
    rw [Bool.and_eq_true] at hd
    rcases List.mem_cons.1 hx with rfl | hx
    · refine dmOK_s h ?_
      have h1 := hd.1
      have ha : active listed T = true := by
        unfold active
        rw [List.all_eq_true]
        intro t ht
        rw [hT t ht]
        rfl
      rw [ha] at h1
      exact h1
    · exact dmsOK_s h hd.2 x hx hT
theorem Dm_mono {p q : Nat → Bool} (h : ∀ k, p k = true → q k = true) {d : Dm} (hd : d.al p = true) : d.al q = true := by
  cases d with
  | no => rfl
  | cs g o xs =>
    unfold Dm.al at hd ⊢
    rw [Bool.and_eq_true] at hd ⊢
    exact ⟨SN.al_mono h hd.1, SCs_mono h hd.2⟩
  | mp g es n =>
    unfold Dm.al at hd ⊢
    rw [Bool.and_eq_true] at hd ⊢
    refine ⟨SN.al_mono h hd.1, all_mono (fun x e => ?_) hd.2⟩
    rw [Bool.and_eq_true] at e ⊢
    exact ⟨SC.al_mono h e.1, SE.al_mono h e.2⟩
/-- a state of the drawing: all demands' names are old, all that close them write -/
structure Dr (X : Cx) (ops : Array Oper) (ρ : Rho) (nx : Nat) (ds : List (List Nat × Dm)) : Prop where
  al : ∀ x ∈ ds, x.2.al (lt nx) = true
  ef : ∀ x ∈ ds, ∀ t ∈ x.1, effAt X.P ops t = true
theorem DS.re {ρ ρ' : Rho} {nx : Nat} {ds : List (List Nat × Dm)} (hd : ∀ x ∈ ds, x.2.al (lt nx) = true) (hr : Agr nx ρ ρ') {l : Array Bool} {w : World} : DS ρ' ds l w ↔ DS ρ ds l w :=
  ⟨fun h x hx hT => (Dm.den_al hr (hd x hx)).1 (h x hx hT), fun h x hx hT => (Dm.den_al hr (hd x hx)).2 (h x hx hT)⟩
/-- what a run of what is left must bring -/
def RunOK (X : Cx) (ops : Array Oper) (n : Nat) (ρ0 : Rho) (nx0 : Nat) (outs : List SS) (fuel : Nat) (ds : List (List Nat × Dm)) (run : Array Bool → SS → Option (List SS)) : Prop := ∀ {listed : Array Bool} {S : SS} {l : List SS} {ρ : Rho} {a : Act} {w : World}, run listed S = some l → (∀ S' ∈ l, S' ∈ outs) → Agr nx0 ρ0 ρ → nx0 ≤ S.nx → Sat X ρ n S a w → Dr X ops ρ S.nx ds → DS ρ ds listed w →
    wpAnyD X.P .any ops (ResL X ρ0 n nx0 outs) (DS ρ ds) fuel listed a w
theorem regB_s (hC : CallOK X C) (hN : NatOK X N) {ρ0 : Rho} {nx0 : Nat} {outs : List SS} {fuel : Nat} {run : Array Bool → SS → Option (List SS)} {ds : List (List Nat × Dm)} (hrun : RunOK X ops n ρ0 nx0 outs fuel ds run) : ∀ {is : List Nat} {listed : Array Bool} {S : SS} {l : List SS} {ρ : Rho} {a : Act} {w : World}, regB X.P X.Ps C N n ops run listed ds S is = some l → (∀ S' ∈ l, S' ∈ outs) → Agr nx0 ρ0 ρ → nx0 ≤ S.nx → Sat X ρ n S a w → Dr X ops ρ S.nx ds →
    ∀ i ∈ is, ∀ oi, ops[i]? = some oi → if Region.wanted oi (yielded ops a.tmps) = true then oi.wp X.P a w (fun a' w' => DS ρ ds (listed.setIfInBounds i true) w' ∧ wpAnyD X.P .any ops (ResL X ρ0 n nx0 outs) (DS ρ ds) fuel (listed.setIfInBounds i true) a' w') (ResL X ρ0 n nx0 outs)
      else DS ρ ds (listed.setIfInBounds i true) w ∧ wpAnyD X.P .any ops (ResL X ρ0 n nx0 outs) (DS ρ ds) fuel (listed.setIfInBounds i true) (a.put oi.dst undef) w
  | [], _, _, _, _, _, _, _, _, _, _, _, _ => fun i hi => by cases hi
  | j :: is, listed, S, l, ρ, a, w, h, ho, hr, hn, hsat, hd => fun i hi oi hoi => by
    unfold regB at h
    split at h
    · rename_i o hoj
      split at h
      · rename_i S1 hs
        split at h
        · rename_i hdo
          split at h
          · rename_i l1 l2 h1 h2
            injection h with h
            subst h
            rcases List.mem_cons.1 hi with rfl | hi
            · rw [hoi] at hoj
              injection hoj with hoj
              subst hoj
              exact stepA_s hC hN hsat hs (K := fun a' w' => DS ρ ds (listed.setIfInBounds i true) w' ∧ wpAnyD X.P .any ops (ResL X ρ0 n nx0 outs) (DS ρ ds) fuel (listed.setIfInBounds i true) a' w') fun ρ1 a' w' r1 r2 hsat1 => by
                have hD1 := dmsOK_s hsat1.hp hdo
                refine ⟨(DS.re hd.al r1).1 hD1, ?_⟩
                have ih := hrun h1 (fun S' hS => ho S' (List.mem_append_left _ hS)) (hr.trans r1 hn) (Nat.le_trans hn r2) hsat1 ⟨fun x hx => Dm_mono (lt_mono r2) (hd.al x hx), hd.ef⟩ hD1
                exact wpAnyD_mono (fun l w hl => (DS.re hd.al r1).1 hl) fuel _ _ _ ih
            · exact regB_s hC hN hrun h2 (fun S' hS => ho S' (List.mem_append_right _ hS)) hr hn hsat hd i hi oi hoi
          · cases h
        · cases h
      · cases h
    · cases h
theorem regD_s (hC : CallOK X C) (hN : NatOK X N) (hsel : Region.noSelect ops = true) {ρ0 : Rho} {nx0 : Nat} {outs : List SS} : ∀ (fuel : Nat) {listed : Array Bool} {ds : List (List Nat × Dm)} {S : SS} {l : List SS} {ρ : Rho} {a : Act} {w : World}, regD X.P X.Ps C N n ops fuel listed ds S = some l → (∀ S' ∈ l, S' ∈ outs) → Agr nx0 ρ0 ρ → nx0 ≤ S.nx → Sat X ρ n S a w → Dr X ops ρ S.nx ds → DS ρ ds listed w →
    wpAnyD X.P .any ops (ResL X ρ0 n nx0 outs) (DS ρ ds) fuel listed a w
  | 0, listed, ds, S, l, ρ, a, w, h, ho, hr, hn, hsat, hd, hD => by
    unfold regD at h
    split at h
    · rename_i hrd
      injection h with h
      subst h
      exact wpAnyD_done hrd ⟨S, ho S (List.mem_singleton.2 rfl), rfl, ρ, hr, hn, hsat⟩ 0
    · cases h
  | fuel + 1, listed, ds, S, l, ρ, a, w, h, ho, hr, hn, hsat, hd, hD => by
    unfold regD at h
    split at h
    · rename_i hrd
      injection h with h
      subst h
      exact wpAnyD_done hrd ⟨S, ho S (List.mem_singleton.2 rfl), rfl, ρ, hr, hn, hsat⟩ _
    · rename_i r rs hrd
      split at h
      · rename_i i hpick
        obtain ⟨hi, hne, hfree, hT⟩ := pickQ_s hpick
        rw [← hrd] at hi
        split at h
        · rename_i o hoi
          split at h
          · rename_i S1 d hq
            obtain ⟨ρ1, v, r1, r2, hy, hdm, hsat1⟩ := stepQ_s hsat hq
            obtain ⟨hT1, hT2⟩ := okT_s hT
            have hiT : ∀ {t : Nat}, effAt X.P ops t = true → t ≠ i := fun ht e => by rw [e, hne] at ht; cases ht
            have hset : ∀ (l : Array Bool) (t : Nat), effAt X.P ops t = true → (l.setIfInBounds i true).getD t true = l.getD t true := fun l t ht => getD_set_ne true (fun e => hiT ht e.symm)
            have hD1 : DS ρ1 ((anchors X.P ops (waiters ops i), d) :: ds) (listed.setIfInBounds i true) w := fun x hx hTx => by
              rcases List.mem_cons.1 hx with rfl | hx
              · exact (Dm.den_al r1 hdm.2).2 hdm.1
              · exact (Dm.den_al r1 (hd.al x hx)).2 (hD x hx fun t ht => by rw [← hset listed t (hd.ef x hx t ht)]; exact hTx t ht)
            have hd1 : Dr X ops ρ1 S1.nx ((anchors X.P ops (waiters ops i), d) :: ds) := ⟨fun x hx => by
              rcases List.mem_cons.1 hx with rfl | hx
              · exact Dm_mono (lt_mono r2) hdm.2
              · exact Dm_mono (lt_mono r2) (hd.al x hx), fun x hx t ht => by
              rcases List.mem_cons.1 hx with rfl | hx
              · exact (anchors_eff ht).2
              · exact hd.ef x hx t ht⟩
            have ih := regD_s hC hN hsel fuel h ho (hr.trans r1 hn) (Nat.le_trans hn r2) hsat1 hd1 hD1
            refine wpAnyD_first (D' := DS ρ1 ((anchors X.P ops (waiters ops i), d) :: ds)) (S := d.den ρ) (T := waiters ops i) hoi (Region.noSelect_spec hsel) hT1 ?_ ?_ ?_ ?_ fuel listed a w (Region.free_spec hoi hfree) hi hT2 hy hD1 ih
            · rintro c a w ⟨S', _, hc, _⟩
              cases hc
            · intro l w hl x hx hTx
              exact (Dm.den_al r1 (hd.al x hx)).1 (hl x (List.mem_cons_of_mem _ hx) hTx)
            · intro l w hl x hx hTx
              exact (Dm.den_al r1 (hd.al x hx)).1 (hl x (List.mem_cons_of_mem _ hx) fun t ht => by rw [hset l t (hd.ef x hx t ht)]; exact hTx t ht)
            · intro l w hTl hl
              exact (Dm.den_al r1 hdm.2).1 (hl _ (List.mem_cons_self ..) fun t ht => by
                have := anchors_eff ht
                rw [hset l t this.2]
                exact hTl t this.1)
          · cases h
        · cases h
      · rw [← hrd] at h
        refine wpAnyD_all (by rw [hrd]; simp) fun i hi oi hoi => ?_
        exact regB_s hC hN (run := fun listed S => regD X.P X.Ps C N n ops fuel listed ds S) (fun h ho hr hn hsat hd hD => regD_s hC hN hsel fuel h ho hr hn hsat hd hD) h ho hr hn hsat hd i hi oi hoi
end
end Kex
