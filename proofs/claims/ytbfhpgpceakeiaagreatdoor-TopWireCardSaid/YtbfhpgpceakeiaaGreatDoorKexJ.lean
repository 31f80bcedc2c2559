/- Names told anew; code and functions run on a state as data. Over any program; no conditions but the room. -/
import Derived.Test.YtbfhpgpceakeiaaGreatDoorKexI
namespace Kex
open Go Go.RowKit Kin

-- the names in a value, a fact
def SN.nm : SN → List Nat → List Nat
  | .k _, r => r
  | .v i, r => i :: r
def SK.nm (x : SK) (r : List Nat) : List Nat := match x.v with
  | none => r
  | some i => i :: r
def spsNm : List SP → List Nat → List Nat
  | [], r => r
  | p :: l, r => p.1.nm (spsNm l r)
def SG.nm {α : Type} (q : α → List Nat → List Nat) : SG α → List Nat → List Nat
  | .ptr (some a), r => a.1.nm r
  | .slice (some a) _ c, r => a.1.nm (c.nm r)
  | .slice none _ c, r => c.nm r
  | .emp g o c, r => g.nm (o.nm (c.nm r))
  | .map (some a), r => a.nm r
  | .func _ x y, r => spsNm x (spsNm y r)
  | .ifc _ x, r => q x r
  | .yld g, r => g.nm r
  | _, r => r
def foldNm {α : Type} (q : α → List Nat → List Nat) : List α → List Nat → List Nat
  | [], r => r
  | x :: l, r => q x (foldNm q l r)
def noN : Empty → List Nat → List Nat := fun x => x.elim
def SX.nm : SX → List Nat → List Nat
  | .c x, r => SG.nm noN x r
  | .a xs, r => foldNm (SG.nm noN) xs r
def SC.nm (x : SC) (r : List Nat) : List Nat := SG.nm SX.nm x r
def SE.nm : SE → List Nat → List Nat
  | .c x, r => SC.nm x r
  | .a xs, r => foldNm SC.nm xs r
def SV.nm : SV → List Nat → List Nat
  | .e x, r => x.nm r
  | .t xs, r => foldNm SE.nm xs r
def SF.nm : SF → List Nat → List Nat
  | .blk _ _ cs, r => foldNm SC.nm cs r
  | .gro _ _ _ _ c cs, r => c.nm (foldNm SC.nm cs r)
  | .ro _ cs, r => foldNm SC.nm cs r
  | .map _ es _, r => foldNm (fun x r => SC.nm x.1 (x.2.1.nm r)) es r
  | .itr _ _ _, r => r
def TS.nm : TS → List Nat → List Nat
  | .l, r => r
  | .n a v b, r => a.nm (v.nm (b.nm r))
/-- where the fact of a name is -/
def keyN (f : SF) : Option Nat := match keyOf f with
  | some (.v i) => some i
  | _ => none
def findN (i : Nat) (n : Nat) : List SF → Option (Nat × SF)
  | [] => none
  | f :: L => match keyN f with
    | some j => match Nat.beq i j with
      | true => some (n, f)
      | false => findN i (n + 1) L
    | none => findN i (n + 1) L
/-- the new names that can be reached, the last first -/
def reachN (nx0 : Nat) (L : List SF) : Nat → List Nat → List Nat → List Nat
  | 0, _, seen => seen
  | _ + 1, [], seen => seen
  | fuel + 1, i :: todo, seen => match Nat.blt i nx0 || memN i seen with
    | true => reachN nx0 L fuel todo seen
    | false => match findN i 0 L with
      | some (_, f) => reachN nx0 L fuel (f.nm todo) (i :: seen)
      | none => reachN nx0 L fuel todo (i :: seen)
/-- facts of old blocks, by number -/
def insF (k : Nat) (i : Nat) : List (Nat × Nat) → List (Nat × Nat)
  | [] => [(k, i)]
  | (k', i') :: l => match Nat.blt k k' with
    | true => (k, i) :: (k', i') :: l
    | false => (k', i') :: insF k i l
def oldF (nx0 : Nat) : Nat → List SF → List (Nat × Nat)
  | _, [] => []
  | n, f :: L => match keyOf f with
    | some (.v k) => match Nat.blt k nx0 with
      | true => insF k n (oldF nx0 (n + 1) L)
      | false => oldF nx0 (n + 1) L
    | some (.k k) => insF k n (oldF nx0 (n + 1) L)
    | none => oldF nx0 (n + 1) L
def posN (i : Nat) : Nat → List Nat → Option Nat
  | _, [] => none
  | n, j :: l => match Nat.beq i j with
    | true => some n
    | false => posN i (n + 1) l
def nthN : List Nat → Nat → Option Nat
  | [], _ => none
  | x :: _, 0 => some x
  | _ :: l, n + 1 => nthN l n
def renσ (nx0 : Nat) (ord : List Nat) (i : Nat) : SN := match Nat.blt i nx0 with
  | true => .v i
  | false => match posN i 0 ord with
    | some p => .v (nx0 + p)
    | none => .v i
def renτ (nx0 : Nat) (ord : List Nat) (j : Nat) : Nat := match Nat.blt j nx0 with
  | true => j
  | false => match nthN ord (j - nx0) with
    | some i => i
    | none => j
def renOK (nx0 : Nat) (ord : List Nat) (i : Nat) : Bool := match renσ nx0 ord i with
  | .v j => Nat.beq (renτ nx0 ord j) i
  | .k _ => false
def newIx (L : List SF) : List Nat → List Nat
  | [] => []
  | i :: l => match findN i 0 L with
    | some (n, _) => n :: newIx L l
    | none => newIx L l
def TS.sb (σ : Nat → SN) : TS → TS
  | .l => .l
  | .n a v b => .n (a.sb σ) (v.sb σ) (b.sb σ)
def TS.al (p : Nat → Bool) : TS → Bool
  | .l => true
  | .n a v b => a.al p && v.al p && b.al p
theorem TS.al_s {p : Nat → Bool} : ∀ {T : TS}, T.al p = true → ∀ q, (getP q T).al p = true
  | .l, _, q => by rw [getP_l]; rfl
  | .n a v b, h, q => by
    unfold TS.al at h
    rw [Bool.and_eq_true, Bool.and_eq_true] at h
    cases q with
    | e => exact h.1.2
    | a q => exact TS.al_s h.1.1 q
    | b q => exact TS.al_s h.2 q
theorem TS.sb_s {σ : Nat → SN} : ∀ (T : TS) (q : Pa), getP q (T.sb σ) = (getP q T).sb σ
  | .l, q => by show getP q .l = _; rw [getP_l]; rfl
  | .n a v b, .e => rfl
  | .n a v b, .a q => TS.sb_s a q
  | .n a v b, .b q => TS.sb_s b q
/-- the state in new names; old facts first -/
def canonS (nx0 : Nat) (S : SS) (roots : List Nat) : Option (List Nat × List Nat) :=
  match (oldF nx0 0 S.L).map (·.2) with
  | is => match foldNm SF.nm (pickA is S.L) [] with
    | old => match (reachN nx0 S.L 100000 (roots ++ old) []).reverse with
      | ord => match is ++ newIx S.L ord with
        | ix => match incN ix with
          | true => some (ix, ord)
          | false => none
def reS (nx0 : Nat) (ix ord : List Nat) (S : SS) : Option SS :=
  match pickA ix S.L with
  | L => match S.sl.al (renOK nx0 ord) && L.all (SF.al (renOK nx0 ord)) && Nat.ble nx0 S.nx with
    | true => match S.sl.sb (renσ nx0 ord), L.map (SF.sb (renσ nx0 ord)), nx0 + ord.length with
      | sl', L', nx' => match sl'.al (lt nx') && L'.all (SF.al (lt nx')) with
        | true => some ⟨sl', L', nx'⟩
        | false => none
    | false => none
section
variable {X : Cx} {ρ : Rho} {n nx0 : Nat} {S S' : SS} {a : Act} {w : World}
theorem renτ_agr (ρ : Rho) (nx0 : Nat) (ord : List Nat) : Agr nx0 ρ fun j => ρ (renτ nx0 ord j) := fun k hk => by
  have : Nat.blt k nx0 = true := hk
  show ρ (renτ nx0 ord k) = ρ k
  unfold renτ
  rw [this]
theorem renOK_s {ρ : Rho} {nx0 : Nat} {ord : List Nat} {i : Nat} (h : renOK nx0 ord i = true) : (renσ nx0 ord i).den (fun j => ρ (renτ nx0 ord j)) = ρ i := by
  unfold renOK at h
  split at h
  · rename_i j hj
    rw [hj]
    show ρ (renτ nx0 ord j) = ρ i
    rw [Nat.eq_of_beq_eq_true h]
  · cases h
theorem pick_sub {X : Cx} {L : List SF} {nx : Nat} {ix : List Nat} (h : Hp X ρ L nx w) (hi : incN ix = true) : Hp X ρ (pickA ix L) nx w := by
  refine ⟨h.ag, h.le, h.po, ?_, ?_⟩
  · rw [List.all_eq_true]
    intro f hf
    have : ∀ (is : List Nat) (f : SF), f ∈ pickA is L → f ∈ L := by
      intro is
      induction is with
      | nil => intro f hf; cases hf
      | cons i is ih =>
        intro f hf
        unfold pickA at hf
        split at hf
        · exact ih f hf
        · rename_i g hg
          rcases List.mem_cons.1 hf with rfl | hf
          · exact List.mem_of_getElem? hg
          · exact ih f hf
    exact List.all_eq_true.1 h.fl f (this ix f hf)
  · have := h.st.sub ix hi
    rwa [pick_map] at this
theorem reS_s {ix ord : List Nat} (hi : incN ix = true) (h : reS nx0 ix ord S = some S') (hv : X.nv ≤ nx0) (hs : Sat X ρ n S a w) : ∃ ρ', Agr nx0 ρ ρ' ∧ nx0 ≤ S'.nx ∧ Sat X ρ' n S' a w ∧ (∀ i, renOK nx0 ord i = true → (renσ nx0 ord i).den ρ' = ρ i) := by
  unfold reS at h
  simp only at h
  split at h
  · rename_i hb
    rw [Bool.and_eq_true, Bool.and_eq_true] at hb
    split at h
    · rename_i hc
      rw [Bool.and_eq_true] at hc
      injection h with h
      subst h
      have hp := pick_sub hs.hp hi
      refine ⟨fun j => ρ (renτ nx0 ord j), renτ_agr ρ nx0 ord, Nat.le_add_right _ _, ⟨⟨fun k hk => ?_, Nat.le_trans hv (Nat.le_add_right _ _), hp.po, hc.2, ?_⟩, ⟨hs.hs.sz, fun t => ?_, TS.al_s hc.1⟩, hs.df⟩, fun i hi => renOK_s hi⟩
      · exact (renτ_agr ρ nx0 ord k (lt_iff.2 (Nat.lt_of_lt_of_le hk hv))).trans (hp.ag k hk)
      · rw [SFs_sb (fun i hi => renOK_s hi) hb.1.2]
        exact hp.st
      · rw [hs.hs.tm t, TS.sb_s]
        exact (SV.den_sb (fun i hi => renOK_s hi) (TS.al_s hb.1.1 _)).symm
    · cases h
  · cases h
end
def TS.eq : TS → TS → Bool
  | .l, .l => true
  | .n a v b, .n a' v' b' => a.eq a' && v.eq v' && b.eq b'
  | _, _ => false
theorem TS.eq_s : ∀ {a b : TS}, TS.eq a b = true → a = b
  | .l, .l, _ => rfl
  | .n a v b, .n a' v' b', h => by
    unfold TS.eq at h
    rw [Bool.and_eq_true, Bool.and_eq_true] at h
    rw [TS.eq_s h.1.1, SV.eq_s h.1.2, TS.eq_s h.2]
  | .l, .n _ _ _, h => by cases h
  | .n _ _ _, .l, h => by cases h
def SS.eq (S T : SS) : Bool := S.sl.eq T.sl && eqL SF.eq S.L T.L && Nat.beq S.nx T.nx
theorem SS.eq_s {S T : SS} (h : SS.eq S T = true) : S = T := by
  unfold SS.eq at h
  rw [Bool.and_eq_true, Bool.and_eq_true] at h
  obtain ⟨a, b, c⟩ := S
  obtain ⟨a', b', c'⟩ := T
  have h1 : a = a' := TS.eq_s h.1.1
  have h2 : b = b' := eqL_s (fun _ _ => SF.eq_s) h.1.2
  have h3 : c = c' := Nat.eq_of_beq_eq_true h.2
  rw [h1, h2, h3]
def canon (nx0 : Nat) (S : SS) : Option SS := match canonS nx0 S (S.sl.nm []) with
  | some (ix, ord) => reS nx0 ix ord S
  | none => none
def canonAll (nx0 : Nat) (T : SS) : List SS → Bool
  | [] => true
  | S :: l => match canon nx0 S with
    | some S' => S'.eq T && canonAll nx0 T l
    | none => false
/-- ways that meet -/
def mergeS (nx0 : Nat) : List SS → Option SS
  | [] => none
  | [S] => some S
  | S :: l => match canon nx0 S with
    | some T => match canonAll nx0 T l with
      | true => some T
      | false => none
    | none => none
section
variable {X : Cx} {ρ : Rho} {n nx0 : Nat} {S T : SS} {a : Act} {w : World}
theorem canon_s (h : canon nx0 S = some T) (hv : X.nv ≤ nx0) (hs : Sat X ρ n S a w) : ∃ ρ', Agr nx0 ρ ρ' ∧ nx0 ≤ T.nx ∧ Sat X ρ' n T a w := by
  unfold canon at h
  split at h
  · rename_i ix ord hc
    have hi : incN ix = true := by
      unfold canonS at hc
      simp only at hc
      split at hc
      · rename_i hi
        injection hc with hc
        injection hc with h1 h2
        rw [← h1]
        exact hi
      · cases hc
    obtain ⟨ρ', r1, r2, r3, _⟩ := reS_s hi h hv hs
    exact ⟨ρ', r1, r2, r3⟩
  · cases h
theorem canonAll_s : ∀ {l : List SS}, canonAll nx0 T l = true → ∀ S ∈ l, canon nx0 S = some T
  | [], _, S, hS => by cases hS
  | S0 :: l, h, S, hS => by
    unfold canonAll at h
    split at h
    · rename_i S' hc
      rw [Bool.and_eq_true] at h
      rcases List.mem_cons.1 hS with rfl | hS
      · rw [hc, SS.eq_s h.1]
      · exact canonAll_s h.2 S hS
    · cases h
theorem mergeS_s {l : List SS} (h : mergeS nx0 l = some T) (hv : X.nv ≤ nx0) {ρ0 : Rho} (hS : S ∈ l) (hr : Agr nx0 ρ0 ρ) (hn : nx0 ≤ S.nx) (hs : Sat X ρ n S a w) : ∃ ρ', Agr nx0 ρ0 ρ' ∧ nx0 ≤ T.nx ∧ Sat X ρ' n T a w := by
  unfold mergeS at h
  split at h
  · cases h
  · injection h with h
    subst h
    rw [List.mem_singleton] at hS
    subst hS
    exact ⟨ρ, hr, hn, hs⟩
  · rename_i S0 l' _
    split at h
    · rename_i T' hc
      split at h
      · rename_i ha
        injection h with h
        subst h
        have hc' : canon nx0 S = some T' := by
          rcases List.mem_cons.1 hS with rfl | hS
          · exact hc
          · exact canonAll_s ha S hS
        obtain ⟨ρ', r1, r2, r3⟩ := canon_s hc' hv hs
        exact ⟨ρ', hr.trans r1 (Nat.le_refl _), r2, r3⟩
      · cases h
    · cases h
end
/-- code -/
inductive KE where
  | nrm
  | ext (id : Nat)
  | rt
def KE.den : KE → Exit
  | .nrm => .normal
  | .ext i => .exit i
  | .rt => .ret
def iter : Nat → (SS → Option (KE × SS)) → SS → Option (KE × SS)
  | 0, _, _ => none
  | m + 1, f, S => match f S with
    | some (.nrm, S') => iter m f S'
    | r => r
def regS (P : Program) (Ps : List SF) (C N : CallR) (n : Nat) (ops : Array Oper) (draw : Bool) (S : SS) : Option SS := match draw with
  | false => opsU P Ps C N n ops ops.toList S
  | true => match Region.noSelect ops with
    | true => match regD P Ps C N n ops ops.size (Array.replicate ops.size false) [] S with
      | some l => mergeS S.nx l
      | none => none
    | false => none
def execC (P : Program) (Ps : List SF) (C N : CallR) (n : Nat) : Code → SS → Option (KE × SS)
  | .skip, S => some (.nrm, S)
  | .region _ ops draw, S => match regS P Ps C N n ops draw S with
    | some S' => some (.nrm, S')
    | none => none
  | .seq a b, S => match execC P Ps C N n a S with
    | some (.nrm, S') => execC P Ps C N n b S'
    | r => r
  | .cond c x y, S => match ev S.sl c with
    | some (.e (.c (.bool true))) => execC P Ps C N n x S
    | some (.e (.c (.bool false))) => execC P Ps C N n y S
    | _ => none
  | .block id b, S => match execC P Ps C N n b S with
    | some (.ext k, S') => match Nat.beq k id with
      | true => some (.nrm, S')
      | false => some (.ext k, S')
    | r => r
  | .loop b, S => iter 1000000 (execC P Ps C N n b) S
  | .exit id, S => some (.ext id, S)
  | .ret, S => some (.rt, S)
  | _, _ => none
section
variable {X : Cx} {C N : CallR} {n : Nat}
theorem regS_s (hC : CallOK X C) (hN : NatOK X N) (hm : X.P.follows .mixedOrders = true) {ops : Array Oper} {draw : Bool} {id : Nat} {S S' : SS} {ρ : Rho} {a : Act} {w : World} (h : regS X.P X.Ps C N n ops draw S = some S') (hs : Sat X ρ n S a w) : (Code.region id ops draw).wp X.P (Res X ρ n S.nx .normal S') a w := by
  unfold regS at h
  split at h
  · exact regU_s hC hN h hs
  · split at h
    · rename_i hsel
      split at h
      · rename_i l hl
        refine wp_mono (wp_region_D (DS ρ []) hm (Q := ResL X ρ n S.nx l) ?_) ?_
        · exact regD_s hC hN hsel _ hl (fun _ h => h) (Agr.refl _ _) (Nat.le_refl _) (w := w.drew) ⟨hs.hp.re (Agr.refl _ _) (Nat.le_refl _) hs.hp.fl hs.hp.st.drew, hs.hs, hs.df⟩ ⟨fun x hx => (by cases hx), fun x hx => (by cases hx)⟩ (fun x hx => by cases hx)
        · rintro e a w ⟨S1, hS1, rfl, ρ1, r1, r2, r3⟩
          obtain ⟨ρ', q1, q2, q3⟩ := mergeS_s h hs.hp.le hS1 r1 r2 r3
          exact ⟨rfl, ρ', q1, q2, q3⟩
      · cases h
    · cases h
theorem iter_s {c : Code} {f : SS → Option (KE × SS)} (hf : ∀ {S : SS} {k : KE} {S' : SS} {ρ : Rho} {a : Act} {w : World}, f S = some (k, S') → Sat X ρ n S a w → c.wp X.P (Res X ρ n S.nx k.den S') a w) {nx0 : Nat} {ρ0 : Rho} :
    ∀ (m : Nat) {S : SS} {k : KE} {S' : SS} {ρ : Rho} {a : Act} {w : World}, iter m f S = some (k, S') → Agr nx0 ρ0 ρ → nx0 ≤ S.nx → Sat X ρ n S a w → Code.rounds X.P c (Res X ρ0 n nx0 k.den S') m a w
  | 0, _, _, _, _, _, _, h, _, _, _ => by cases h
  | m + 1, S, k, S', ρ, a, w, h, hr, hn, hs => by
    unfold iter at h
    rw [rounds_succ]
    split at h
    · rename_i S1 hf1
      refine wp_mono (hf hf1 hs) ?_
      rintro e a w ⟨rfl, ρ1, r1, r2, r3⟩
      exact iter_s hf m h (hr.trans r1 hn) (Nat.le_trans hn r2) r3
    · rename_i hne
      have hk : k ≠ .nrm := fun e => by
        subst e
        exact hne S' h
      refine wp_mono (hf h hs) ?_
      rintro e a w ⟨rfl, ρ1, r1, r2, r3⟩
      have : Exit.then (Code.rounds X.P c (Res X ρ0 n nx0 k.den S') m) (Res X ρ0 n nx0 k.den S') k.den a w = Res X ρ0 n nx0 k.den S' k.den a w := by
        cases k with
        | nrm => exact absurd rfl hk
        | ext i => rfl
        | rt => rfl
      rw [this]
      exact ⟨rfl, ρ1, hr.trans r1 hn, Nat.le_trans hn r2, r3⟩
theorem execC_s (hC : CallOK X C) (hN : NatOK X N) (hm : X.P.follows .mixedOrders = true) : ∀ (c : Code) {S : SS} {k : KE} {S' : SS} {ρ : Rho} {a : Act} {w : World}, execC X.P X.Ps C N n c S = some (k, S') → Sat X ρ n S a w → c.wp X.P (Res X ρ n S.nx k.den S') a w
  | .skip, S, k, S', ρ, a, w, h, hs => by
    injection h with h
    injection h with h1 h2
    subst h1 h2
    exact wp_skip ⟨rfl, ρ, Agr.refl _ _, Nat.le_refl _, hs⟩
  | .region id ops draw, S, k, S', ρ, a, w, h, hs => by
    unfold execC at h
    split at h
    · rename_i S1 hr
      injection h with h
      injection h with h1 h2
      subst h1 h2
      exact regS_s hC hN hm hr hs
    · cases h
  | .seq x y, S, k, S', ρ, a, w, h, hs => by
    unfold execC at h
    refine wp_seq ?_
    split at h
    · rename_i S1 h1
      refine wp_mono (execC_s hC hN hm x h1 hs) ?_
      rintro e a w ⟨rfl, ρ1, r1, r2, r3⟩
      exact wp_mono (execC_s hC hN hm y h r3) (Res.mono r1 r2)
    · rename_i hne
      have hk : k ≠ .nrm := fun e => by
        subst e
        exact hne S' h
      refine wp_mono (execC_s hC hN hm x h hs) ?_
      rintro e a w ⟨rfl, hres⟩
      have : Exit.then (y.wp X.P (Res X ρ n S.nx k.den S')) (Res X ρ n S.nx k.den S') k.den a w = Res X ρ n S.nx k.den S' k.den a w := by
        cases k with
        | nrm => exact absurd rfl hk
        | ext i => rfl
        | rt => rfl
      rw [this]
      exact ⟨rfl, hres⟩
  | .cond c x y, S, k, S', ρ, a, w, h, hs => by
    unfold execC at h
    split at h
    · rename_i hc
      exact wp_cond_true (ev_s hs.hs.tm hc) (execC_s hC hN hm x h hs)
    · rename_i hc
      exact wp_cond_false (ev_s hs.hs.tm hc) (execC_s hC hN hm y h hs)
    · cases h
  | .block id b, S, k, S', ρ, a, w, h, hs => by
    unfold execC at h
    refine wp_block ?_
    split at h
    · rename_i j S1 h1
      refine wp_mono (execC_s hC hN hm b h1 hs) ?_
      rintro e a w ⟨rfl, hres⟩
      split at h
      · rename_i hj
        have hj := Nat.eq_of_beq_eq_true hj
        injection h with h
        injection h with e1 e2
        subst e1 e2 hj
        show if _ then _ else _
        rw [if_pos rfl]
        exact ⟨rfl, hres⟩
      · rename_i hj
        injection h with h
        injection h with e1 e2
        subst e1 e2
        show if _ then _ else _
        rw [if_neg (fun e => by subst e; rw [Nat.beq_refl] at hj; cases hj)]
        exact ⟨rfl, hres⟩
    · rename_i hne
      refine wp_mono (execC_s hC hN hm b h hs) ?_
      rintro e a w ⟨rfl, hres⟩
      have : Exit.inBlock id (Res X ρ n S.nx k.den S') k.den a w = Res X ρ n S.nx k.den S' k.den a w := by
        cases k with
        | nrm => rfl
        | ext i => exact absurd h (hne i S')
        | rt => rfl
      rw [this]
      exact ⟨rfl, hres⟩
  | .loop b, S, k, S', ρ, a, w, h, hs => by
    unfold execC at h
    exact wp_loop_rounds 1000000 (iter_s (fun h1 hs1 => execC_s hC hN hm b h1 hs1) _ h (Agr.refl _ _) (Nat.le_refl _) hs)
  | .exit id, S, k, S', ρ, a, w, h, hs => by
    injection h with h
    injection h with h1 h2
    subst h1 h2
    exact wp_exit ⟨rfl, ρ, Agr.refl _ _, Nat.le_refl _, hs⟩
  | .ret, S, k, S', ρ, a, w, h, hs => by
    injection h with h
    injection h with h1 h2
    subst h1 h2
    exact wp_ret ⟨rfl, ρ, Agr.refl _ _, Nat.le_refl _, hs⟩
  | .rangeFunc .., _, _, _, _, _, _, h, _ => by cases h
  | .scope .., _, _, _, _, _, _, h, _ => by cases h
  | .label .., _, _, _, _, _, _, h, _ => by cases h
  | .goto .., _, _, _, _, _, _, h, _ => by cases h
  | .refuse .., _, _, _, _, _, _, h, _ => by cases h
end
/-- what a function hands back -/
def resL (P : Program) (Ps L : List SF) (sl : TS) : List ResultVar → Option (List SE)
  | [] => some []
  | .tmp t :: l => match getP (path t) sl, resL P Ps L sl l with
    | .e v, some r => some (v :: r)
    | _, _ => none
  | .cell p ty :: l => match loadD P Ps L ty (getP (path p) sl), resL P Ps L sl l with
    | some (_, v), some r => some (v :: r)
    | _, _ => none
def tupS : List SE → SV
  | [v] => .e v
  | l => .t l
theorem resL_s {X : Cx} {ρ : Rho} {n : Nat} {S : SS} {a : Act} {w : World} (hs : Sat X ρ n S a w) : ∀ {l : List ResultVar} {r : List SE}, resL X.P X.Ps S.L S.sl l = some r →
    (l.mapM (m := Sem) fun | .tmp t => pure (a.tmps.getD t undef) | .cell p ty => do loadVar ty (← asAddr (a.tmps.getD p undef))).run X.P w = .ok (r.map (SE.den ρ)) w ∧ r.all (SE.al (lt S.nx)) = true
  | [], r, h => by injection h with h; subst h; exact ⟨rfl, rfl⟩
  | .tmp t :: l, r, h => by
    unfold resL at h
    split at h
    · rename_i v r' hv hr
      injection h with h
      subst h
      obtain ⟨h1, h2⟩ := resL_s hs hr
      have e1 := hs.hs.tm t
      rw [hv] at e1
      have e2 := hs.hs.fs (path t)
      rw [hv] at e2
      refine ⟨?_, by rw [List.all_cons, h2]; show (v.al (lt S.nx) && true) = true; rw [show v.al (lt S.nx) = true from e2]; rfl⟩
      rw [List.mapM_cons]
      simp only [Sem.run_bind, Sem.run_pure, Result.andThen_ok, h1, e1]
      rfl
    · cases h
  | .cell p ty :: l, r, h => by
    unfold resL at h
    split at h
    · rename_i d v r' hl hr
      injection h with h
      subst h
      obtain ⟨h1, h2⟩ := resL_s hs hr
      obtain ⟨⟨hd, _⟩, hva⟩ := loadD_dm hs.hp hl
      have e1 := hs.hs.tm p
      have hld := loadD_s hl hd
      refine ⟨?_, by rw [List.all_cons, h2, hva]; rfl⟩
      rw [List.mapM_cons]
      have hp : ∃ q, getP (path p) S.sl = .e (.c (.ptr (some q))) := by
        unfold loadD at hl
        split at hl
        · rename_i g o hq
          exact ⟨_, hq⟩
        · cases hl
      obtain ⟨q, hq⟩ := hp
      rw [hq] at e1 hld
      have e1 : a.tmps.getD p undef = .pointer (some (pden ρ q)) := e1
      have hld : (Instr.loadAt ty (.pointer (some (pden ρ q)))).run X.P w = .ok (v.den ρ) w := hld
      have hld : (loadVar ty (pden ρ q)).run X.P w = .ok (v.den ρ) w := by
        simpa [Instr.loadAt, Instr.sureAddr] using hld
      have h0 : (do loadVar ty (← asAddr (a.tmps.getD p undef)) : Sem Value).run X.P w = .ok (v.den ρ) w := by
        simp only [Sem.run_bind, Sem.run_pure, Result.andThen_ok, e1, asAddr, hld]
      rw [Sem.run_bind]
      refine (congrArg (fun r => Result.andThen r _) h0).trans ?_
      simp only [Result.andThen_ok, Sem.run_bind, h1, Sem.run_pure]
      rfl
    · cases h
/-- the slots at the start -/
def initT : Nat → List SV → TS → TS
  | _, [], T => T
  | k, v :: l, T => initT (k + 1) l (setP v (path k) T)
def runBody (P : Program) (Ps : List SF) (C N : CallR) (f : FuncId) (args : List SV) (L : List SF) (nx : Nat) : Option (SV × List SF × Nat) := match P.funcs[f]? with
  | none => none
  | some fn => match fn.body with
    | none => none
    | some c => match execC P Ps C N (args.length + (fn.ntmps - args.length)) c ⟨initT 0 args .l, L, nx⟩ with
      | some (.ext _, _) => none
      | some (_, S') => match resL P Ps S'.L S'.sl fn.results.toList with
        | some r => some (tupS r, S'.L, S'.nx)
        | none => none
      | none => none
section
variable {X : Cx} {C N : CallR} {ρ : Rho} {nx : Nat}
theorem initT_s {ρ : Rho} : ∀ {args : List SV} {k : Nat} {T : TS} {base : List Value}, base.length = k → (∀ t, (base.toArray ++ #[]).getD t undef = (getP (path t) T).den ρ) → ∀ t, (base ++ args.map (SV.den ρ)).toArray.getD t undef = (getP (path t) (initT k args T)).den ρ
  | [], k, T, base, hk, h, t => by
    rw [List.map_nil, List.append_nil]
    have := h t
    rw [Array.append_empty] at this
    exact this
  | v :: args, k, T, base, hk, h, t => by
    have := initT_s (ρ := ρ) (args := args) (k := k + 1) (T := setP v (path k) T) (base := base ++ [v.den ρ]) (by simp [hk]) (fun t => by
      by_cases e : k = t
      · subst e
        rw [getP_set]
        simp [hk]
      · rw [getP_ne v _ _ _ (fun x => e (path_inj x)), ← h t]
        simp only [Array.append_empty, Array.getD_eq_getD_getElem?]
        congr 1
        simp only [List.getElem?_toArray]
        rcases Nat.lt_or_ge t base.length with hl | hl
        · rw [List.getElem?_append_left hl]
        · rw [List.getElem?_append_right hl, List.getElem?_eq_none (by simp; omega), List.getElem?_eq_none (by omega)]) t
    rw [List.append_assoc] at this
    exact this
theorem initT_al {p : Nat → Bool} : ∀ {args : List SV} {k : Nat} {T : TS}, args.all (SV.al p) = true → (∀ q, (getP q T).al p = true) → ∀ q, (getP q (initT k args T)).al p = true
  | [], _, _, _, h, q => h q
  | v :: args, k, T, ha, h, q => by
    rw [List.all_cons, Bool.and_eq_true] at ha
    refine initT_al (args := args) ha.2 (fun q => ?_) q
    by_cases e : path k = q
    · subst e
      rw [getP_set]
      exact ha.1
    · rw [getP_ne v _ q _ e]
      exact h q
theorem start_s (hd : X.D = []) {args : List SV} {L : List SF} {w : World} (ha : args.all (SV.al (lt nx)) = true) (hp : Hp X ρ L nx w) (k : Nat) : Sat X ρ (args.length + (k - args.length)) ⟨initT 0 args .l, L, nx⟩ { tmps := (args.map (SV.den ρ)).toArray ++ Array.replicate (k - (args.map (SV.den ρ)).toArray.size) undef, defers := [] } w := by
  refine ⟨hp, ⟨by simp, fun t => ?_, initT_al ha (fun q => by rw [getP_l]; rfl)⟩, hd.symm⟩
  have h1 := initT_s (ρ := ρ) (args := args) (k := 0) (T := .l) (base := []) rfl (fun t => by rw [getP_l]; simp; rfl) t
  rw [List.nil_append] at h1
  rw [← h1]
  simp only [Array.getD_eq_getD_getElem?]
  rcases Nat.lt_or_ge t (args.map (SV.den ρ)).toArray.size with hl | hl
  · rw [Array.getElem?_append_left hl]
  · rw [Array.getElem?_append_right hl, Array.getElem?_eq_none hl]
    rcases Nat.lt_or_ge (t - (args.map (SV.den ρ)).toArray.size) (k - (args.map (SV.den ρ)).toArray.size) with h2 | h2
    · rw [Array.getElem?_replicate, if_pos h2]
      rfl
    · rw [Array.getElem?_replicate, if_neg (by omega)]
theorem res_s {fn : Func} {n : Nat} {S : SS} {a : Act} {w : World} (hs : Sat X ρ n S a w) {r : List SE} (hr : resL X.P X.Ps S.L S.sl fn.results.toList = some r) : (results fn a.tmps).run X.P w = .ok ((tupS r).den ρ) w ∧ (tupS r).al (lt S.nx) = true := by
  obtain ⟨q1, q2⟩ := resL_s hs hr
  refine ⟨?_, ?_⟩
  · unfold results
    rw [Array.mapM_eq_mapM_toList]
    rw [Sem.run_bind, Sem.run_map]
    refine (congrArg (fun r => Result.andThen (Result.andThen r _) _) q1).trans ?_
    simp only [Result.andThen_ok, Sem.run_pure]
    cases r with
    | nil => rfl
    | cons x r => cases r with
      | nil => rfl
      | cons y r => simp [tupS, SV.den]
  · cases r with
    | nil => rfl
    | cons x r => cases r with
      | nil => rw [List.all_cons, Bool.and_eq_true] at q2; exact q2.1
      | cons y r => exact q2
theorem runBody_wp (hd : X.D = []) (hC : CallOK X C) (hN : NatOK X N) (hm : X.P.follows .mixedOrders = true) {f : FuncId} {args : List SV} {L : List SF} {v : SV} {L' : List SF} {nx' : Nat} (h : runBody X.P X.Ps C N f args L nx = some (v, L', nx')) (ha : args.all (SV.al (lt nx)) = true) {w : World} (hp : Hp X ρ L nx w) :
    ∃ fn c, X.P.funcs[f]? = some fn ∧ fn.body = some c ∧ c.wp X.P (bodyPost X.P fn fun e w' => ∃ ρ', e = .returned (v.den ρ') ∧ Good X ρ nx v L' nx' w' ρ') { tmps := (args.map (SV.den ρ)).toArray ++ Array.replicate (fn.ntmps - (args.map (SV.den ρ)).toArray.size) undef, defers := [] } w := by
  unfold runBody at h
  split at h
  · cases h
  · rename_i fn hf
    split at h
    · cases h
    · rename_i c hb
      refine ⟨fn, c, hf, hb, ?_⟩
      have hstart := start_s hd ha hp fn.ntmps
      have fin : ∀ (k : KE) (S' : SS) (r : List SE), (∀ i, k ≠ .ext i) → execC X.P X.Ps C N (args.length + (fn.ntmps - args.length)) c ⟨initT 0 args .l, L, nx⟩ = some (k, S') → resL X.P X.Ps S'.L S'.sl fn.results.toList = some r → some (tupS r, S'.L, S'.nx) = some (v, L', nx') →
          c.wp X.P (bodyPost X.P fn fun e w' => ∃ ρ', e = .returned (v.den ρ') ∧ Good X ρ nx v L' nx' w' ρ') { tmps := (args.map (SV.den ρ)).toArray ++ Array.replicate (fn.ntmps - (args.map (SV.den ρ)).toArray.size) undef, defers := [] } w := by
        intro k S' r hk hex hr he
        injection he with he
        injection he with e1 he
        injection he with e2 e3
        subst e1 e2 e3
        refine wp_mono (execC_s hC hN hm c hex hstart) ?_
        rintro e a w' ⟨rfl, ρ', r1, r2, r3⟩
        obtain ⟨hres, hal⟩ := res_s r3 hr
        have hd := r3.df.trans hd
        cases k with
        | nrm => exact ⟨hd, _, hres, ρ', rfl, r1, r2, hal, r3.hp⟩
        | rt => exact ⟨hd, _, hres, ρ', rfl, r1, r2, hal, r3.hp⟩
        | ext i => exact absurd rfl (hk i)
      split at h
      · cases h
      · rename_i k S' hne hex
        split at h
        · rename_i r hr
          exact fin k S' r (fun i e => hne i (by rw [e])) hex hr h
        · cases h
      · cases h
theorem runBody_d (hd : X.D = []) (hC : CallOK X C) (hN : NatOK X N) (hm : X.P.follows .mixedOrders = true) : CallOK X (runBody X.P X.Ps C N) := by
  intro f args L nx v L' nx' h ha ρ w hp
  obtain ⟨fn, c, hf, hb, hw⟩ := runBody_wp hd hC hN hm h ha hp
  exact calls_of_wp hf hb hw
theorem Hp.dd {X : Cx} {ρ : Rho} {L : List SF} {nx : Nat} {w : World} (h : Hp X ρ L nx w) (D : List Deferred) : Hp { X with D := D } ρ L nx w := ⟨h.ag, h.le, h.po, h.fl, h.st⟩
theorem Hp.ud {X : Cx} {ρ : Rho} {L : List SF} {nx : Nat} {w : World} {D : List Deferred} (h : Hp { X with D := D } ρ L nx w) : Hp X ρ L nx w := ⟨h.ag, h.le, h.po, h.fl, h.st⟩
theorem CallOK.dd {X : Cx} {C : CallR} (h : CallOK X C) (D : List Deferred) : CallOK { X with D := D } C := by
  intro f args L nx v L' nx' hc ha ρ w hp
  refine (h hc ha hp.ud).mono ?_
  rintro e w' ⟨ρ', rfl, hg⟩
  exact ⟨ρ', rfl, hg.agr, hg.le, hg.al, hg.hp.dd D⟩
theorem CallOK.ud {X : Cx} {C : CallR} {D : List Deferred} (h : CallOK { X with D := D } C) : CallOK X C := by
  intro f args L nx v L' nx' hc ha ρ w hp
  refine (h hc ha (hp.dd D)).mono ?_
  rintro e w' ⟨ρ', rfl, hg⟩
  exact ⟨ρ', rfl, hg.agr, hg.le, hg.al, hg.hp.ud⟩
theorem NatOK.dd {X : Cx} {N : CallR} (h : NatOK X N) (D : List Deferred) : NatOK { X with D := D } N := by
  intro f args L nx v L' nx' hc ha ρ w hp
  obtain ⟨w', ρ', r, hg⟩ := h hc ha hp.ud
  exact ⟨w', ρ', r, hg.agr, hg.le, hg.al, hg.hp.dd D⟩
theorem runBody_s (hC : CallOK X C) (hN : NatOK X N) (hm : X.P.follows .mixedOrders = true) : CallOK X (runBody X.P X.Ps C N) :=
  CallOK.ud (D := []) (runBody_d (X := { X with D := [] }) rfl (hC.dd []) (hN.dd []) hm)
end
end Kex
