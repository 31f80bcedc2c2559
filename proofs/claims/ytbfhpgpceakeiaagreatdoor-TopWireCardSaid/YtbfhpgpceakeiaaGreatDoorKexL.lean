/- What a call does, as a row of data that is proved once and used in any state. Over any program; no conditions but the room. -/
import Derived.Test.YtbfhpgpceakeiaaGreatDoorKexJ
namespace Kex
open Go Go.RowKit Kin

section
variable {p q : Nat → Bool} {σ : Nat → SN} (h : ∀ i, p i = true → (σ i).al q = true)
include h
theorem SN.sb_al {x : SN} (hx : x.al p = true) : (x.sb σ).al q = true := by
  cases x with
  | k n => rfl
  | v i => exact h i hx
theorem SK.sb_al {x : SK} (hx : x.al p = true) : (x.sb σ).al q = true := by
  obtain ⟨k, v⟩ := x
  cases v with
  | none => rfl
  | some i =>
    have e := h i hx
    unfold SK.sb
    simp only
    split
    · rfl
    · rename_i j hj
      rw [hj] at e
      exact e
omit h in
theorem all_sb {α β : Type} {f : α → Bool} {g : β → Bool} {s : α → β} (hs : ∀ x, f x = true → g (s x) = true) {l : List α} (hl : l.all f = true) : (l.map s).all g = true := by
  rw [List.all_map, List.all_eq_true]
  exact fun x hx => hs x (List.all_eq_true.1 hl x hx)
theorem SG.sb_al {α : Type} {f : α → Bool} {g : α → Bool} {s : α → α} (hs : ∀ x, f x = true → g (s x) = true) {x : SG α} (hx : x.al p f = true) : (x.sb σ s).al q g = true := by
  cases x with
  | ptr a =>
    cases a with
    | none => rfl
    | some a => exact SN.sb_al h hx
  | slice a n c =>
    cases a with
    | none => exact SK.sb_al h hx
    | some a =>
      unfold SG.al at hx
      rw [Bool.and_eq_true] at hx
      show ((a.1.sb σ).al q && (c.sb σ).al q) = true
      rw [SN.sb_al h hx.1, SK.sb_al h hx.2]
      rfl
  | emp g o c =>
    unfold SG.al at hx
    rw [Bool.and_eq_true, Bool.and_eq_true] at hx
    show ((g.sb σ).al q && (o.sb σ).al q && (c.sb σ).al q) = true
    rw [SN.sb_al h hx.1.1, SN.sb_al h hx.1.2, SK.sb_al h hx.2]
    rfl
  | map a =>
    cases a with
    | none => rfl
    | some a => exact SN.sb_al h hx
  | func f first cap =>
    unfold SG.al at hx
    rw [Bool.and_eq_true] at hx
    show (_ && _) = true
    rw [Bool.and_eq_true]
    exact ⟨all_sb (f := fun q => q.1.al p) (g := fun r => r.1.al q) (s := psb σ) (fun x e => SN.sb_al h e) hx.1, all_sb (f := fun q => q.1.al p) (g := fun r => r.1.al q) (s := psb σ) (fun x e => SN.sb_al h e) hx.2⟩
  | ifc t x => exact hs x hx
  | yld g => exact SN.sb_al h hx
  | _ => rfl
theorem SX.sb_al {x : SX} (hx : x.al p = true) : (x.sb σ).al q = true := by
  cases x with
  | c x => exact SG.sb_al h (fun x => x.elim) hx
  | a xs => exact all_sb (fun x e => SG.sb_al h (fun x => x.elim) e) hx
theorem SC.sb_al {x : SC} (hx : SC.al p x = true) : SC.al q (SC.sb σ x) = true := SG.sb_al h (fun _ e => SX.sb_al h e) hx
theorem SCs_sbal {xs : List SC} (hx : xs.all (SC.al p) = true) : (xs.map (SC.sb σ)).all (SC.al q) = true := all_sb (fun _ e => SC.sb_al h e) hx
theorem SE.sb_al {x : SE} (hx : x.al p = true) : (x.sb σ).al q = true := by
  cases x with
  | c x => exact SC.sb_al h hx
  | a xs => exact SCs_sbal h hx
theorem SV.sb_al {x : SV} (hx : x.al p = true) : (x.sb σ).al q = true := by
  cases x with
  | e x => exact SE.sb_al h hx
  | t xs => exact all_sb (fun _ e => SE.sb_al h e) hx
theorem SF.sb_al {x : SF} (hx : x.al p = true) : (x.sb σ).al q = true := by
  cases x with
  | blk g t cs =>
    unfold SF.al at hx
    rw [Bool.and_eq_true] at hx
    show (_ && _) = true
    rw [Bool.and_eq_true]
    exact ⟨SN.sb_al h hx.1, SCs_sbal h hx.2⟩
  | gro g t m n c cs =>
    unfold SF.al at hx
    rw [Bool.and_eq_true, Bool.and_eq_true] at hx
    show (_ && _ && _) = true
    rw [Bool.and_eq_true, Bool.and_eq_true]
    exact ⟨⟨SN.sb_al h hx.1.1, SK.sb_al h hx.1.2⟩, SCs_sbal h hx.2⟩
  | ro g cs =>
    unfold SF.al at hx
    rw [Bool.and_eq_true] at hx
    show (_ && _) = true
    rw [Bool.and_eq_true]
    exact ⟨SN.sb_al h hx.1, SCs_sbal h hx.2⟩
  | map g es n =>
    unfold SF.al at hx
    rw [Bool.and_eq_true] at hx
    show (_ && _) = true
    rw [Bool.and_eq_true]
    refine ⟨SN.sb_al h hx.1, all_sb (fun x e => ?_) hx.2⟩
    rw [Bool.and_eq_true] at e ⊢
    exact ⟨SC.sb_al h e.1, SE.sb_al h e.2⟩
  | itr g s n => exact SN.sb_al h hx
theorem SFs_sbal {L : List SF} (hx : L.all (SF.al p) = true) : (L.map (SF.sb σ)).all (SF.al q) = true := all_sb (fun _ e => SF.sb_al h e) hx
end
/-- what a call does: names below nv are any; the facts F become G -/
structure Con where
  f : FuncId
  nv : Nat
  args : List SV
  F : List SF
  v : SV
  nx : Nat
  G : List SF
def Con.holds (P : Program) (Ps : List SF) (c : Con) : Prop := ∀ (ρ : Rho) (w : World), Pre w (Ps.map (SF.den ρ)) (c.F.map (SF.den ρ)) →
  Calls P c.f (c.args.map (SV.den ρ)).toArray w fun e w' => ∃ ρ', e = .returned (c.v.den ρ') ∧ Agr c.nv ρ ρ' ∧ Post w w' (c.F.map (SF.den ρ)) (c.G.map (SF.den ρ'))
def noV0 : Nat → Bool := fun _ => false
def Con.ok (c : Con) : Bool := c.args.all (SV.al (lt c.nv)) && c.F.all (SF.al (lt c.nv)) && c.v.al (lt c.nx) && c.G.all (SF.al (lt c.nx)) && Nat.ble c.nv c.nx
-- names matched
def lkN (i : Nat) : List (Nat × SN) → Option SN
  | [] => none
  | x :: l => match Nat.beq x.1 i with
    | true => some x.2
    | false => lkN i l
abbrev Sg := List (Nat × SN)
def mtN : SN → SN → Sg → Sg
  | .v i, x, s => match lkN i s with
    | some _ => s
    | none => (i, x) :: s
  | .k _, _, s => s
def mtK (a b : SK) (s : Sg) : Sg := match a.v with
  | none => s
  | some i => match b.v with
    | some j => mtN (.v i) (.v j) s
    | none => mtN (.v i) (.k (b.k - a.k)) s
def mtP (a b : SP) (s : Sg) : Sg := mtN a.1 b.1 s
def mtL {α : Type} (q : α → α → Sg → Sg) : List α → List α → Sg → Sg
  | x :: l, y :: m, s => mtL q l m (q x y s)
  | _, _, s => s
def SG.mt {α : Type} (q : α → α → Sg → Sg) : SG α → SG α → Sg → Sg
  | .ptr (some a), .ptr (some b), s => mtP a b s
  | .slice (some a) _ c, .slice (some b) _ d, s => mtP a b (mtK c d s)
  | .slice none _ c, .slice none _ d, s => mtK c d s
  | .emp g o c, .emp g' o' c', s => mtN g g' (mtN o o' (mtK c c' s))
  | .map (some a), .map (some b), s => mtN a b s
  | .func _ x y, .func _ x' y', s => mtL mtP x x' (mtL mtP y y' s)
  | .ifc _ x, .ifc _ y, s => q x y s
  | .yld a, .yld b, s => mtN a b s
  | _, _, s => s
def noM : Empty → Empty → Sg → Sg := fun x => x.elim
def SX.mt : SX → SX → Sg → Sg
  | .c x, .c y, s => SG.mt noM x y s
  | .a x, .a y, s => mtL (SG.mt noM) x y s
  | _, _, s => s
def SC.mt (x y : SC) (s : Sg) : Sg := SG.mt SX.mt x y s
def SE.mt : SE → SE → Sg → Sg
  | .c x, .c y, s => SC.mt x y s
  | .a x, .a y, s => mtL SC.mt x y s
  | _, _, s => s
def SV.mt : SV → SV → Sg → Sg
  | .e x, .e y, s => x.mt y s
  | .t x, .t y, s => mtL SE.mt x y s
  | _, _, s => s
def SF.mt : SF → SF → Sg → Sg
  | .blk _ _ cs, .blk _ _ cs', s => mtL SC.mt cs cs' s
  | .gro _ _ _ _ c cs, .gro _ _ _ _ c' cs', s => mtK c c' (mtL SC.mt cs cs' s)
  | .ro _ cs, .ro _ cs', s => mtL SC.mt cs cs' s
  | .map _ es _, .map _ es' _, s => mtL (fun x y s => SC.mt x.1 y.1 (x.2.1.mt y.2.1 s)) es es' s
  | _, _, s => s
/-- the facts of a contract, looked up one by one -/
def mtF (L : List SF) : List SF → Sg → List Nat → Option (Sg × List Nat)
  | [], s, is => some (s, is.reverse)
  | f :: F, s, is => match keyOf f with
    | none => none
    | some g => match findI (match g with | .k n => .k n | .v i => match lkN i s with | some x => x | none => .v 0) 0 L with
      | some (i, f') => mtF L F (f.mt f' s) (i :: is)
      | none => none
def sgF (nv b : Nat) (s : Sg) (i : Nat) : SN := match Nat.blt i nv with
  | true => match lkN i s with
    | some x => x
    | none => .k 0
  | false => .v (b + (i - nv))
def useC (c : Con) (args : List SV) (L : List SF) (nx : Nat) : Option (SV × List SF × Nat) := match mtF L c.F (mtL SV.mt c.args args []) [] with
  | none => none
  | some (s, is) => match eqL SV.eq (c.args.map (SV.sb (sgF c.nv nx s))) args && eqL SF.eq (c.F.map (SF.sb (sgF c.nv nx s))) (pickA is L) && incN is && s.all (fun x => x.2.al (lt nx)) with
    | true => some (c.v.sb (sgF c.nv nx s), c.G.map (SF.sb (sgF c.nv nx s)) ++ dropA is 0 L, nx + (c.nx - c.nv))
    | false => none
def callT (C : CallR) : List Con → CallR
  | [], f, args, L, nx => C f args L nx
  | c :: T, f, args, L, nx => match Nat.beq c.f f with
    | true => match useC c args L nx with
      | some r => some r
      | none => callT C T f args L nx
    | false => callT C T f args L nx
theorem lkN_mem {i : Nat} {x : SN} : ∀ {s : Sg}, lkN i s = some x → ∃ y ∈ s, y.2 = x
  | [], h => by cases h
  | y :: s, h => by
    unfold lkN at h
    split at h
    · injection h with h
      exact ⟨y, List.mem_cons_self .., h⟩
    · obtain ⟨z, hz, e⟩ := lkN_mem h
      exact ⟨z, List.mem_cons_of_mem _ hz, e⟩
theorem closed_any {q : Nat → Bool} {L : List SF} (h : L.all (SF.al noV0) = true) : L.all (SF.al q) = true := SFs_mono (p := noV0) (fun _ e => by cases e) h
theorem useC_s {X : Cx} {c : Con} (hc : c.holds X.P X.Ps) (ok : c.ok = true) (hps : X.Ps.all (SF.al noV0) = true) {args : List SV} {L : List SF} {nx : Nat} {v : SV} {L' : List SF} {nx' : Nat} (h : useC c args L nx = some (v, L', nx')) {ρ : Rho} {w : World} (hp : Hp X ρ L nx w) :
    Calls X.P c.f (args.map (SV.den ρ)).toArray w fun e w' => ∃ ρ', e = .returned (v.den ρ') ∧ Good X ρ nx v L' nx' w' ρ' := by
  unfold Con.ok at ok
  simp only [Bool.and_eq_true] at ok
  obtain ⟨⟨⟨⟨o1, o2⟩, o3⟩, o4⟩, o5⟩ := ok
  have o5 := Nat.le_of_ble_eq_true o5
  unfold useC at h
  split at h
  · cases h
  · rename_i s is hm
    split at h
    · rename_i hb
      simp only [Bool.and_eq_true] at hb
      obtain ⟨⟨⟨b1, b2⟩, b3⟩, b4⟩ := hb
      have b1 := eqL_s (fun _ _ => SV.eq_s) b1
      have b2 := eqL_s (fun _ _ => SF.eq_s) b2
      injection h with h
      injection h with h1 h
      injection h with h2 h3
      subst h1 h2 h3
      -- the contract's names
      have hσ : ∀ i, Nat.blt i c.nv = true → (sgF c.nv nx s i).al (lt nx) = true := fun i hi => by
        unfold sgF
        rw [hi]
        simp only
        split
        · rename_i x hx
          obtain ⟨y, hy, e⟩ := lkN_mem hx
          rw [← e]
          exact List.all_eq_true.1 b4 y hy
        · rfl
      let ρc : Rho := fun i => (sgF c.nv nx s i).den ρ
      have e1 : args.map (SV.den ρ) = c.args.map (SV.den ρc) := by
        rw [← b1]
        exact SVs_sb (p := lt c.nv) (fun i _ => rfl) o1
      have e2 : (pickA is L).map (SF.den ρ) = c.F.map (SF.den ρc) := by
        rw [← b2]
        exact SFs_sb (p := lt c.nv) (fun i _ => rfl) o2
      have e3 : X.Ps.map (SF.den X.ρ0) = X.Ps.map (SF.den ρc) := SFs_al (p := noV0) (fun _ e => by cases e) hps
      have hpre : Pre w (X.Ps.map (SF.den ρc)) (c.F.map (SF.den ρc)) := by
        have := hp.st.pre (List.range (X.Ps.map (SF.den X.ρ0)).length) [] is b3 rfl
        rw [pick_map _ L is, e2] at this
        have e4 : ∀ (l : List Fac), pick (List.range l.length) l = l := by
          intro l
          have key : ∀ (l : List Fac) (k : Nat) (m : List Fac), m.drop k = l → pick (List.range' k l.length) m = l := by
            intro l
            induction l with
            | nil => intro k m _; rfl
            | cons f l ih =>
              intro k m hm
              show pick (k :: List.range' (k + 1) l.length) m = _
              unfold pick
              have hk : m[k]? = some f := by
                have := List.getElem?_drop (xs := m) (i := k) (j := 0)
                rw [hm] at this
                simpa using this.symm
              rw [nth_eq, hk]
              simp only
              rw [ih (k + 1) m (by rw [← List.tail_drop, hm]; rfl)]
          have := key l 0 l rfl
          rwa [← List.range_eq_range'] at this
        rw [e4] at this
        have e5 : pick [] (L.map (SF.den ρ)) = [] := rfl
        rw [e5, List.append_nil, e3] at this
        exact this
      rw [e1]
      refine (hc ρc w hpre).mono ?_
      rintro e w' ⟨ρ1, rfl, ra, rp⟩
      let ρ' : Rho := updR ρ nx fun j => ρ1 (c.nv + j)
      have agr : Agr nx ρ ρ' := updR_agr ρ nx _
      have hsb : ∀ i, lt c.nx i = true → (sgF c.nv nx s i).den ρ' = ρ1 i := fun i hi => by
        cases hlt : Nat.blt i c.nv with
        | true =>
          rw [SN.den_al agr (hσ i hlt)]
          exact (ra i hlt).symm
        | false =>
          have hge : c.nv ≤ i := by
            rcases Nat.lt_or_ge i c.nv with e | e
            · have := lt_iff.2 e
              unfold lt at this
              rw [this] at hlt
              cases hlt
            · exact e
          unfold sgF
          rw [hlt]
          show ρ' (nx + (i - c.nv)) = ρ1 i
          show updR ρ nx (fun j => ρ1 (c.nv + j)) (nx + (i - c.nv)) = ρ1 i
          rw [updR_at]
          show ρ1 (c.nv + (i - c.nv)) = ρ1 i
          congr 1
          omega
      have hal : ∀ i, lt c.nx i = true → (sgF c.nv nx s i).al (lt (nx + (c.nx - c.nv))) = true := fun i hi => by
        cases hlt : Nat.blt i c.nv with
        | true => exact SN.al_mono (lt_mono (Nat.le_add_right _ _)) (hσ i hlt)
        | false =>
          have hi := lt_iff.1 hi
          have hge : c.nv ≤ i := by
            rcases Nat.lt_or_ge i c.nv with e | e
            · have := lt_iff.2 e
              unfold lt at this
              rw [this] at hlt
              cases hlt
            · exact e
          unfold sgF
          rw [hlt]
          exact lt_iff.2 (by omega)
      refine ⟨ρ', by rw [SV.den_sb hsb o3], agr, Nat.le_add_right _ _, SV.sb_al hal o3, ?_⟩
      refine hp.re agr (Nat.le_add_right _ _) ?_ ?_
      · rw [List.all_append, Bool.and_eq_true]
        refine ⟨SFs_sbal hal o4, SFs_mono (lt_mono (Nat.le_add_right _ _)) (all_dropA hp.fl)⟩
      · rw [List.map_append, SFs_sb hsb o4, ← dropI_map, reL hp agr]
        refine hp.st.step is ?_
        rw [pick_map, e2]
        exact rp
    · cases h
theorem callT_s {X : Cx} {C : CallR} (hC : CallOK X C) (hps : X.Ps.all (SF.al noV0) = true) {T : List Con} (hT : ∀ c ∈ T, c.holds X.P X.Ps) (ok : T.all Con.ok = true) : CallOK X (callT C T) := by
  induction T with
  | nil => exact hC
  | cons c T ih =>
    rw [List.all_cons, Bool.and_eq_true] at ok
    have ih : CallOK X (callT C T) := ih (fun c hc => hT c (List.mem_cons_of_mem _ hc)) ok.2
    intro f args L nx v L' nx' h ha ρ w hp
    unfold callT at h
    split at h
    · rename_i hf
      have hf := Nat.eq_of_beq_eq_true hf
      subst hf
      split at h
      · rename_i r hr
        injection h with h
        subst h
        exact useC_s (hT c (List.mem_cons_self ..)) ok.1 hps hr hp
      · exact ih h ha hp
    · exact ih h ha hp
end Kex
