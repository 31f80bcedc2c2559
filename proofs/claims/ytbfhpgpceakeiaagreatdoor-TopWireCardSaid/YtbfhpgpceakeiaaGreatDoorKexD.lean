/- A walk's state as data; what is loaded and looked up. Over any program; no conditions. -/
import Derived.Test.YtbfhpgpceakeiaaGreatDoorKexC
import Derived.Great.BuildSlice
namespace Kex
open Go Go.RowKit Kin

def pickA {α : Type} : List Nat → List α → List α
  | [], _ => []
  | i :: is, L => match L[i]? with
    | none => pickA is L
    | some f => f :: pickA is L
def dropA {α : Type} (is : List Nat) : Nat → List α → List α
  | _, [] => []
  | n, f :: L => match memN n is with
    | true => dropA is (n + 1) L
    | false => f :: dropA is (n + 1) L
theorem nth_eq : ∀ (L : List Fac) (i : Nat), nth L i = L[i]?
  | [], _ => rfl
  | _ :: _, 0 => rfl
  | _ :: L, i + 1 => nth_eq L i
theorem pick_map {α : Type} (d : α → Fac) (L : List α) : ∀ is, pick is (L.map d) = (pickA is L).map d
  | [] => rfl
  | i :: is => by
    unfold pick pickA
    rw [nth_eq, List.getElem?_map, pick_map d L is]
    cases L[i]? <;> rfl
theorem dropI_map {α : Type} (d : α → Fac) (is : List Nat) : ∀ (L : List α) (n : Nat), dropI is n (L.map d) = (dropA is n L).map d
  | [], _ => rfl
  | f :: L, n => by
    unfold dropA
    rw [List.map_cons]
    unfold dropI
    rw [dropI_map d is L (n + 1)]
    cases memN n is <;> rfl
def lt (n k : Nat) : Bool := Nat.blt k n
theorem lt_iff {n k : Nat} : lt n k = true ↔ k < n := by unfold lt; rw [Nat.blt_eq]
theorem lt_mono {n m : Nat} (h : n ≤ m) (k : Nat) (e : lt n k = true) : lt m k = true := lt_iff.2 (Nat.lt_of_lt_of_le (lt_iff.1 e) h)
section
variable {p q : Nat → Bool} (h : ∀ k, p k = true → q k = true)
include h
theorem SN.al_mono {x : SN} (hx : x.al p = true) : x.al q = true := by
  cases x with
  | k n => rfl
  | v i => exact h i hx
omit h in
theorem all_mono {α : Type} {f g : α → Bool} (hf : ∀ x, f x = true → g x = true) {l : List α} (hl : l.all f = true) : l.all g = true := List.all_eq_true.2 fun x hx => hf x (List.all_eq_true.1 hl x hx)
theorem SK.al_mono {x : SK} (hx : x.al p = true) : x.al q = true := by
  obtain ⟨k, v⟩ := x
  cases v with
  | none => rfl
  | some i => exact h i hx
theorem SG.al_mono {α : Type} {f g : α → Bool} (hf : ∀ x, f x = true → g x = true) {x : SG α} (hx : x.al p f = true) : x.al q g = true := by
  cases x with
  | ptr a =>
    cases a with
    | none => rfl
    | some a => exact SN.al_mono h hx
  | slice a n c =>
    cases a with
    | none => exact SK.al_mono h hx
    | some a =>
      unfold SG.al at hx ⊢
      rw [Bool.and_eq_true] at hx ⊢
      exact ⟨SN.al_mono h hx.1, SK.al_mono h hx.2⟩
  | emp g o c =>
    unfold SG.al at hx ⊢
    rw [Bool.and_eq_true, Bool.and_eq_true] at hx ⊢
    exact ⟨⟨SN.al_mono h hx.1.1, SN.al_mono h hx.1.2⟩, SK.al_mono h hx.2⟩
  | map a =>
    cases a with
    | none => rfl
    | some a => exact SN.al_mono h hx
  | func f first cap =>
    unfold SG.al at hx ⊢
    rw [Bool.and_eq_true] at hx ⊢
    exact ⟨all_mono (fun x e => SN.al_mono h e) hx.1, all_mono (fun x e => SN.al_mono h e) hx.2⟩
  | ifc t x => exact hf x hx
  | yld g => exact SN.al_mono h hx
  | _ => rfl
theorem SX.al_mono {x : SX} (hx : x.al p = true) : x.al q = true := by
  cases x with
  | c x => exact SG.al_mono h (fun x => x.elim) hx
  | a xs => exact all_mono (fun x e => SG.al_mono h (fun x => x.elim) e) hx
theorem SC.al_mono {x : SC} (hx : SC.al p x = true) : SC.al q x = true := SG.al_mono h (fun _ e => SX.al_mono h e) hx
theorem SCs_mono {xs : List SC} (hx : xs.all (SC.al p) = true) : xs.all (SC.al q) = true := all_mono (fun _ e => SC.al_mono h e) hx
theorem SE.al_mono {x : SE} (hx : x.al p = true) : x.al q = true := by
  cases x with
  | c x => exact SC.al_mono h hx
  | a xs => exact SCs_mono h hx
theorem SV.al_mono {x : SV} (hx : x.al p = true) : x.al q = true := by
  cases x with
  | e x => exact SE.al_mono h hx
  | t xs => exact all_mono (fun _ e => SE.al_mono h e) hx
theorem SF.al_mono {x : SF} (hx : x.al p = true) : x.al q = true := by
  cases x with
  | blk g t cs =>
    unfold SF.al at hx ⊢
    rw [Bool.and_eq_true] at hx ⊢
    exact ⟨SN.al_mono h hx.1, SCs_mono h hx.2⟩
  | gro g t m n c cs =>
    unfold SF.al at hx ⊢
    rw [Bool.and_eq_true, Bool.and_eq_true] at hx ⊢
    exact ⟨⟨SN.al_mono h hx.1.1, SK.al_mono h hx.1.2⟩, SCs_mono h hx.2⟩
  | ro g cs =>
    unfold SF.al at hx ⊢
    rw [Bool.and_eq_true] at hx ⊢
    exact ⟨SN.al_mono h hx.1, SCs_mono h hx.2⟩
  | map g es n =>
    unfold SF.al at hx ⊢
    rw [Bool.and_eq_true] at hx ⊢
    refine ⟨SN.al_mono h hx.1, all_mono (fun x e => ?_) hx.2⟩
    rw [Bool.and_eq_true] at e ⊢
    exact ⟨SC.al_mono h e.1, SE.al_mono h e.2⟩
  | itr g s n => exact SN.al_mono h hx
theorem SFs_mono {L : List SF} (hx : L.all (SF.al p) = true) : L.all (SF.al q) = true := all_mono (fun _ e => SF.al_mono h e) hx
end
/-- what a run is about: what it may read, what it takes over -/
structure Cx where
  P : Program
  Ps : List SF
  nv : Nat
  ρ0 : Rho
  w0 : World
  F : List Fac
  D : List Deferred
structure Hp (X : Cx) (ρ : Rho) (L : List SF) (nx : Nat) (w : World) : Prop where
  ag : ∀ k, k < X.nv → ρ k = X.ρ0 k
  le : X.nv ≤ nx
  po : X.Ps.all (SF.al (lt X.nv)) = true
  fl : L.all (SF.al (lt nx)) = true
  st : St X.w0 (X.Ps.map (SF.den X.ρ0)) X.F w (L.map (SF.den ρ))
structure Sl (ρ : Rho) (n : Nat) (sl : TS) (nx : Nat) (a : Act) : Prop where
  sz : a.tmps.size = n
  tm : Slots ρ sl a.tmps
  fs : ∀ p, (getP p sl).al (lt nx) = true
/-- the same names below n -/
def Agr (n : Nat) (ρ ρ' : Rho) : Prop := ∀ k, lt n k = true → ρ' k = ρ k
theorem Agr.refl (n : Nat) (ρ : Rho) : Agr n ρ ρ := fun _ _ => rfl
theorem Agr.trans {n m : Nat} {a b c : Rho} (h : Agr n a b) (h' : Agr m b c) (hm : n ≤ m) : Agr n a c := fun k hk => (h' k (lt_mono hm k hk)).trans (h k hk)
def updR (ρ : Rho) (b : Nat) (f : Nat → Nat) : Rho := fun k => match lt b k with
  | true => ρ k
  | false => f (k - b)
theorem updR_agr (ρ : Rho) (b : Nat) (f : Nat → Nat) : Agr b ρ (updR ρ b f) := fun k hk => by unfold updR; rw [hk]
theorem updR_at (ρ : Rho) (b : Nat) (f : Nat → Nat) (j : Nat) : updR ρ b f (b + j) = f j := by
  have : lt b (b + j) = false := by
    rw [Bool.eq_false_iff]
    intro e
    have := lt_iff.1 e
    omega
  unfold updR
  rw [this]
  show f (b + j - b) = f j
  rw [Nat.add_sub_cancel_left]
section
variable {X : Cx} {ρ ρ' : Rho} {L L' : List SF} {n nx nx' : Nat} {sl : TS} {a : Act} {w w' : World}
theorem Sl.agr (h : Sl ρ n sl nx a) (hr : Agr nx ρ ρ') (hn : nx ≤ nx') : Sl ρ' n sl nx' a :=
  ⟨h.sz, fun t => (h.tm t).trans (SV.den_al hr (h.fs _)).symm, fun p => SV.al_mono (lt_mono hn) (h.fs p)⟩
/-- a value is put down -/
def putS (n : Nat) (d : Option Tmp) (v : SV) (sl : TS) : Option TS := match d with
  | some d => match Nat.blt d n with
    | true => some (setP v (path d) sl)
    | false => none
  | none => some sl
theorem fs_set {v : SV} (hv : v.al (lt nx) = true) : ∀ (p : Pa) (T : TS), (∀ q, (getP q T).al (lt nx) = true) → ∀ q, (getP q (setP v p T)).al (lt nx) = true := by
  intro p T h q
  by_cases e : p = q
  · subst e
    rw [getP_set]
    exact hv
  · rw [getP_ne v p q T e]
    exact h q
theorem Sl.put (h : Sl ρ n sl nx a) {d : Option Tmp} {v : SV} {sl' : TS} (hp : putS n d v sl = some sl') (hv : v.al (lt nx) = true) : Sl ρ n sl' nx (a.put d (v.den ρ)) := by
  unfold putS at hp
  split at hp
  · rename_i d
    split at hp
    · rename_i hd
      injection hp with hp
      subst hp
      have hd : d < n := Nat.blt_eq ▸ hd
      exact ⟨by show (a.tmps.setIfInBounds d _).size = n; rw [Array.size_setIfInBounds]; exact h.sz, h.tm.set d (by rw [h.sz]; exact hd) v, fs_set hv _ _ h.fs⟩
    · cases hp
  · injection hp with hp
    subst hp
    exact h
theorem reL (h : Hp X ρ L nx w) (hr : Agr nx ρ ρ') : L.map (SF.den ρ') = L.map (SF.den ρ) := SFs_al hr h.fl
theorem Hp.re (h : Hp X ρ L nx w) (hr : Agr nx ρ ρ') (hn : nx ≤ nx') (hl : L'.all (SF.al (lt nx')) = true) (hst : St X.w0 (X.Ps.map (SF.den X.ρ0)) X.F w' (L'.map (SF.den ρ'))) : Hp X ρ' L' nx' w' :=
  ⟨fun k hk => (hr k (lt_iff.2 (Nat.lt_of_lt_of_le hk h.le))).trans (h.ag k hk), Nat.le_trans h.le hn, h.po, hl, hst⟩
theorem Hp.says (h : Hp X ρ L nx w) {f : SF} (hf : f ∈ L ∨ f ∈ X.Ps) : (f.den ρ).say w := by
  rcases hf with hf | hf
  · exact says_iff.1 h.st.all _ (List.mem_map_of_mem hf)
  · have := says_iff.1 h.st.ro _ (List.mem_map_of_mem hf)
    rwa [← SF.den_al (p := lt X.nv) (ρ' := ρ) (fun k hk => h.ag k (lt_iff.1 hk)) (List.all_eq_true.1 h.po f hf)] at this
end
/-- the fact of a block -/
def keyOf : SF → Option SN
  | .blk g _ _ => some g
  | .gro g _ _ _ _ _ => some g
  | .ro g _ => some g
  | .map g _ _ => some g
  | .itr g _ _ => some g
def hasKey (g : SN) (f : SF) : Bool := match keyOf f with
  | some g' => g.eq g'
  | none => false
def findK (g : SN) : List SF → Option SF
  | [] => none
  | f :: L => match hasKey g f with
    | true => some f
    | false => findK g L
theorem findK_mem {g : SN} {f : SF} : ∀ {L : List SF}, findK g L = some f → f ∈ L ∧ keyOf f = some g
  | [], h => by cases h
  | x :: L, h => by
    unfold findK at h
    split at h
    · rename_i hk
      injection h with h
      subst h
      refine ⟨List.mem_cons_self .., ?_⟩
      unfold hasKey at hk
      split at hk
      · rename_i g' hg
        rw [hg, SN.eq_s hk]
      · cases hk
    · exact ⟨List.mem_cons_of_mem _ (findK_mem h).1, (findK_mem h).2⟩
def findI (g : SN) : Nat → List SF → Option (Nat × SF)
  | _, [] => none
  | n, f :: L => match hasKey g f with
    | true => some (n, f)
    | false => findI g (n + 1) L
theorem findI_at {g : SN} {f : SF} {i : Nat} : ∀ {L : List SF} {n : Nat}, findI g n L = some (i, f) → ∃ j, i = n + j ∧ L[j]? = some f ∧ keyOf f = some g
  | [], _, h => by cases h
  | x :: L, n, h => by
    unfold findI at h
    split at h
    · rename_i hk
      injection h with h
      injection h with h1 h2
      subst h1 h2
      refine ⟨0, rfl, rfl, ?_⟩
      unfold hasKey at hk
      split at hk
      · rename_i g' hg
        rw [hg, SN.eq_s hk]
      · cases hk
    · obtain ⟨j, h1, h2, h3⟩ := findI_at h
      exact ⟨j + 1, by omega, h2, h3⟩
/-- the facts at hand -/
def facOf (Ps : List SF) (L : List SF) (g : SN) : Option SF := match findK g L with
  | some f => some f
  | none => findK g Ps
theorem facOf_s {Ps L : List SF} {g : SN} {f : SF} (h : facOf Ps L g = some f) : (f ∈ L ∨ f ∈ Ps) ∧ keyOf f = some g := by
  unfold facOf at h
  split at h
  · rename_i f' hf
    injection h with h
    subst h
    exact ⟨.inl (findK_mem hf).1, (findK_mem hf).2⟩
  · exact ⟨.inr (findK_mem h).1, (findK_mem h).2⟩
def cellsF : SF → Option (List SC)
  | .blk _ _ cs => some cs
  | .gro _ _ _ _ _ cs => some cs
  | .ro _ cs => some cs
  | _ => none
theorem cellsF_s {ρ : Rho} {w : World} {f : SF} {g : SN} {xs : List SC} (hs : (f.den ρ).say w) (hk : keyOf f = some g) (hx : cellsF f = some xs) {j : Nat} {v : SC} (hj : xs[j]? = some v) : w.cell? ⟨g.den ρ, j, none⟩ = some (v.den ρ) := by
  cases f with
  | blk g' t cs =>
    injection hk with hk
    injection hx with hx
    subst hk hx
    have h : Blk w (g'.den ρ) t (dens ρ cs).toArray := hs
    rw [h.cell j]
    simp [dens, hj]
  | gro g' t m n c cs =>
    injection hk with hk
    injection hx with hx
    subst hk hx
    obtain ⟨cur, fz, h1, _, h2, h3, h4, h5⟩ : ∃ cur : Array Value, ∃ fz, w.heap[g'.den ρ]? = some (.cells cur t fz) ∧ Soft fz cur.size ∧ (dens ρ cs).length = n * m ∧ cur.size = (n + c.den ρ) * m ∧ n + c.den ρ ≤ maxLen ∧ cur.toList.take (dens ρ cs).length = dens ρ cs := hs
    rw [cell_of_row w _ j cur t fz h1]
    have hl : j < (dens ρ cs).length := by
      unfold dens
      rw [List.length_map]
      exact (List.getElem?_eq_some_iff.1 hj).1
    have : cur.toList[j]? = some (v.den ρ) := by
      have e : (dens ρ cs)[j]? = some (v.den ρ) := by
        unfold dens
        rw [List.getElem?_map, hj]
        rfl
      rw [← h5, List.getElem?_take_of_lt hl] at e
      exact e
    simpa using this
  | ro g' cs =>
    injection hk with hk
    injection hx with hx
    subst hk hx
    have h : g'.den ρ < w.heap.size ∧ ∀ j v, (dens ρ cs)[j]? = some v → w.cell? ⟨g'.den ρ, j, none⟩ = some v := hs
    refine h.2 j _ ?_
    unfold dens
    rw [List.getElem?_map, hj]
    rfl
  | _ => cases hx
/-- what is read -/
inductive Dm where
  | no
  | cs (g : SN) (o : Nat) (xs : List SC)
  | mp (g : SN) (es : List (SC × SE × Nat)) (n : Nat)
def Dm.den (ρ : Rho) (w : World) : Dm → Prop
  | .no => True
  | .cs g o xs => ∀ j v, xs[j]? = some v → w.cell? ⟨g.den ρ, o + j, none⟩ = some (v.den ρ)
  | .mp g es n => MapIs w (g.den ρ) (es.map (eden ρ)).toArray n
def Dm.al (p : Nat → Bool) : Dm → Bool
  | .no => true
  | .cs g _ xs => g.al p && xs.all (SC.al p)
  | .mp g es _ => g.al p && es.all (fun x => x.1.al p && x.2.1.al p)
theorem Dm.den_al {p : Nat → Bool} {ρ ρ' : Rho} (h : ∀ i, p i = true → ρ' i = ρ i) {d : Dm} (hd : d.al p = true) {w : World} : d.den ρ' w ↔ d.den ρ w := by
  cases d with
  | no => exact Iff.rfl
  | cs g o xs =>
    unfold Dm.al at hd
    rw [Bool.and_eq_true] at hd
    simp only [Dm.den]
    rw [SN.den_al h hd.1]
    have hx := fun j v (e : xs[j]? = some v) => SC.den_al h (List.all_eq_true.1 hd.2 v (List.mem_of_getElem? e))
    exact ⟨fun q j v e => by rw [q j v e, hx j v e], fun q j v e => by rw [q j v e, hx j v e]⟩
  | mp g es n =>
    unfold Dm.al at hd
    rw [Bool.and_eq_true] at hd
    simp only [Dm.den]
    rw [SN.den_al h hd.1, map_al (fun x hq => eden_al h hq) hd.2]
def dmOK (Ps L : List SF) : Dm → Bool
  | .no => true
  | .cs g o xs => match facOf Ps L g with
    | some f => match cellsF f with
      | some ys => eqL SC.eq ((ys.drop o).take xs.length) xs
      | none => false
    | none => false
  | .mp g es n => match facOf Ps L g with
    | some (.map _ es' n') => eqL eqE es es' && Nat.beq n n'
    | _ => false
section
variable {X : Cx} {ρ : Rho} {L : List SF} {nx : Nat} {w : World}
theorem dmOK_s (h : Hp X ρ L nx w) {d : Dm} (hd : dmOK X.Ps L d = true) : d.den ρ w := by
  cases d with
  | no => trivial
  | cs g o xs =>
    simp only [dmOK] at hd
    split at hd
    · rename_i f hf
      split at hd
      · rename_i ys hy
        obtain ⟨hm, hk⟩ := facOf_s hf
        have e := eqL_s (fun _ _ => SC.eq_s) hd
        intro j v hj
        refine cellsF_s (h.says hm) hk hy ?_
        have hl : j < xs.length := (List.getElem?_eq_some_iff.1 hj).1
        rw [← e, List.getElem?_take_of_lt hl, List.getElem?_drop] at hj
        exact hj
      · cases hd
    · cases hd
  | mp g es n =>
    simp only [dmOK] at hd
    split at hd
    · rename_i g' es' n' hf
      obtain ⟨hm, hk⟩ := facOf_s hf
      rw [Bool.and_eq_true] at hd
      have e1 := eqL_s (fun _ _ => eqE_s) hd.1
      have e2 := Nat.eq_of_beq_eq_true hd.2
      subst e1 e2
      injection hk with hk
      subst hk
      exact h.says hm
    · cases hd
end
/-- a load: what it reads, what it gives -/
def loadD (P : Program) (Ps L : List SF) (T : TypeId) (p : SV) : Option (Dm × SE) := match p with
  | .e (.c (.ptr (some (g, o)))) => match facOf Ps L g with
    | some f => match cellsF f, P.underlying T with
      | some xs, some d => match d.isRow with
        | true => match szT P T with
          | some n => match Nat.beq ((xs.drop o).take n).length n with
            | true => some (.cs g o ((xs.drop o).take n), .a ((xs.drop o).take n))
            | false => none
          | none => none
        | false => match nthC xs o with
          | some x => some (.cs g o [x], .c x)
          | none => none
      | _, _ => none
    | none => none
  | _ => none
theorem loadD_s {P : Program} {Ps L : List SF} {T : TypeId} {p : SV} {d : Dm} {v : SE} (h : loadD P Ps L T p = some (d, v)) {ρ : Rho} {w : World} (hd : d.den ρ w) : (Instr.loadAt T (p.den ρ)).run P w = .ok (v.den ρ) w := by
  unfold loadD at h
  split at h
  · rename_i g o
    split at h
    · rename_i f hf
      split at h
      · rename_i xs dd hx hu
        split at h
        · rename_i hr
          split at h
          · rename_i n hn
            split at h
            · rename_i hl
              injection h with h
              injection h with h1 h2
              subst h1 h2
              have hl := Nat.eq_of_beq_eq_true hl
              refine run_loadAt_mid w (g.den ρ) o T (dens ρ ((xs.drop o).take n)) dd (fun j v hj => ?_) hu hr (by unfold szT at hn; rw [hn]; simp [dens] at hl ⊢; omega)
              unfold dens at hj
              rw [List.getElem?_map] at hj
              obtain ⟨x, hx, rfl⟩ := Option.map_eq_some_iff.1 hj
              exact hd j x hx
            · cases h
          · cases h
        · rename_i hr
          split at h
          · rename_i x hx
            injection h with h
            injection h with h1 h2
            subst h1 h2
            have hc := hd 0 x rfl
            have ha : (isAgg T).run P w = .ok false w := by
              cases dd <;> first | (simp [isAgg, run_underlying hu]; done) | cases hr
            have hl : (Go.load ⟨g.den ρ, o, none⟩).run P w = .ok (x.den ρ) w := by
              rw [Nat.add_zero] at hc
              simp [Go.load, Sem.run, hc]
            show (Instr.loadAt T (.pointer (some ⟨g.den ρ, o, none⟩))).run P w = _
            simp [Instr.loadAt, Instr.sureAddr, loadVar, ha, hl, Result.andThen]
            rfl
          · cases h
      · cases h
    · cases h
  · cases h
/-- a look-up in a map -/
def cvC (x : SC) : Option Value := cv (.e (.c x))
def isKeyB : TypeDesc → Value → Bool
  | .int k, .int k' _ => decide (k' = k)
  | .string, .string _ => true
  | _, _ => false
theorem isKeyB_s {d : TypeDesc} {v : Value} (h : isKeyB d v = true) : MapKept.IsKey d v := by
  unfold isKeyB at h
  split at h
  · rename_i k k' _
    exact (of_decide_eq_true h : k' = k)
  · trivial
  · cases h
def findS (d : TypeDesc) (k : Value) : List (SC × SE × Nat) → Nat → Option (Option (Nat × SE))
  | [], _ => some none
  | e :: es, i => match cvC e.1 with
    | some v => match Instr.sameNow d k v with
      | some true => some (some (i, e.2.1))
      | some false => findS d k es (i + 1)
      | none => none
    | none => none
theorem findS_s {d : TypeDesc} {k : Value} {ρ : Rho} : ∀ {es : List (SC × SE × Nat)} {i : Nat} {r : Option (Nat × SE)}, findS d k es i = some r → Instr.findNow d k (es.map (eden ρ)) i = some (r.map fun x => (x.1, x.2.den ρ))
  | [], i, r, h => by injection h with h; subst h; rfl
  | e :: es, i, r, h => by
    unfold findS at h
    split at h
    · rename_i v hv
      have hk : (eden ρ e).key = v := cv_s hv
      split at h
      · rename_i hs
        injection h with h
        subst h
        rw [List.map_cons, Instr.findNow, hk, hs]
        rfl
      · rename_i hs
        rw [List.map_cons, Instr.findNow, hk, hs]
        exact findS_s h
      · cases h
    · cases h
def lookD (P : Program) (Ps L : List SF) (T : TypeId) (m k : SV) (ok : Bool) : Option (Dm × SV) := match m, cv k, P.underlying T with
  | .e (.c (.map (some g))), some kv, some (.map kt et) => match facOf Ps L g, P.underlying kt with
    | some (.map _ es n), some d => match isKeyB d kv, findS d kv es 0 with
      | true, some (some (_, x)) => some (.mp g es n, match ok with | true => .t [x, .c (.bool true)] | false => .e x)
      | true, some none => match P.info? et with
        | some i => match i.zero with
          | some z => match ofE z with
            | some x => some (.mp g es n, match ok with | true => .t [x, .c (.bool false)] | false => .e x)
            | none => none
          | none => none
        | none => none
      | _, _ => none
    | _, _ => none
  | _, _, _ => none
theorem lookD_s {P : Program} {Ps L : List SF} {T : TypeId} {m k : SV} {ok : Bool} {d : Dm} {v : SV} (h : lookD P Ps L T m k ok = some (d, v)) {ρ : Rho} {w : World} (hd : d.den ρ w) : (Instr.lookup T (m.den ρ) (k.den ρ) ok).run P w = .ok (v.den ρ) w := by
  unfold lookD at h
  split at h
  · rename_i g kv kt et hk hu
    rw [cv_s hk]
    split at h
    · rename_i g' es n dd hf hd'
      split at h
      · rename_i j x hi hs
        injection h with h
        injection h with h1 h2
        subst h1 h2
        have := run_mapGetK hu hd' (isKeyB_s hi) (show MapIs w (g.den ρ) _ n from hd) (i := j) (v := x.den ρ) (by simpa using findS_s (ρ := ρ) hs) ok
        cases ok <;> simpa [SV.den, SE.den, SC.den, SG.den] using this
      · rename_i hi hs
        split at h
        · rename_i i hin
          split at h
          · rename_i z hz
            split at h
            · rename_i x hx
              injection h with h
              injection h with h1 h2
              subst h1 h2
              have hzv : ∀ w, (zeroValue et).run P w = .ok (x.den ρ) w := fun w => by
                rw [ofE_s hx]
                simp [zeroValue, typeInfo, hin, hz]
              have := run_mapNoneK hu hd' (isKeyB_s hi) (show MapIs w (g.den ρ) _ n from hd) (by simpa using findS_s (ρ := ρ) hs) (hzv w) ok
              cases ok <;> simpa [SV.den, SE.den, SC.den, SG.den] using this
            · cases h
          · cases h
        · cases h
      · cases h
    · cases h
  · cases h
/-- the bytes of cells -/
def bytesC : List SC → Option (List UInt8)
  | [] => some []
  | .int .u8 (.ofNat n) :: l => match Nat.blt n 256, bytesC l with
    | true, some bs => some (UInt8.ofNat n :: bs)
    | _, _ => none
  | _ => none
theorem bytesC_s {ρ : Rho} : ∀ {l : List SC} {bs : List UInt8}, bytesC l = some bs → dens ρ l = bs.map fun b => Value.int .u8 (b.toNat : Int)
  | [], bs, h => by injection h with h; subst h; rfl
  | x :: l, bs, h => by
    unfold bytesC at h
    split at h
    · rename_i e
      cases e
    · rename_i n l' e
      injection e with e1 e2
      subst e1 e2
      split at h
      · rename_i bs' hn hb
        injection h with h
        subst h
        have hn : n < 256 := Nat.blt_eq ▸ hn
        have := bytesC_s (ρ := ρ) hb
        show _ :: dens ρ l = _ :: _
        rw [this]
        congr 1
        show Value.int .u8 (n : Int) = Value.int .u8 ((UInt8.ofNat n).toNat : Int)
        rw [UInt8.toNat_ofNat', Nat.mod_eq_of_lt (by omega)]
      · cases h
    · cases h
/-- text of bytes -/
def strD (P : Program) (Ps L : List SF) (src dst : TypeId) (x : SV) : Option (Dm × SV) := match x, P.underlying src, P.underlying dst with
  | .e (.c (.slice (some (g, o)) n _)), some (.slice e), some .string => match P.underlying e, facOf Ps L g with
    | some (.int .u8), some f => match cellsF f with
      | some xs => match bytesC ((xs.drop o).take n) with
        | some bs => match Nat.beq bs.length n with
          | true => some (.cs g o ((xs.drop o).take n), .e (.c (.str ⟨bs.toArray⟩)))
          | false => none
        | none => none
      | none => none
    | _, _ => none
  | .e (.c (.emp _ _ _)), some (.slice e), some .string => match P.underlying e with
    | some (.int .u8) => some (.no, .e (.c (.str ⟨#[]⟩)))
    | _ => none
  | _, _, _ => none
theorem strD_s {P : Program} {Ps L : List SF} {src dst : TypeId} {x : SV} {d : Dm} {v : SV} (h : strD P Ps L src dst x = some (d, v)) {ρ : Rho} {w : World} (hd : d.den ρ w) : (convert src dst (x.den ρ)).run P w = .ok (v.den ρ) w := by
  unfold strD at h
  split at h
  · rename_i g o n c e hs hdd
    split at h
    · rename_i f he hf
      split at h
      · rename_i xs hx
        split at h
        · rename_i bs hb
          split at h
          · rename_i hl
            injection h with h
            injection h with h1 h2
            subst h1 h2
            have hl := Nat.eq_of_beq_eq_true hl
            have hm := bytesC_s (ρ := ρ) hb
            have := run_convert_bytes_back (P := P) w src dst e ⟨g.den ρ, o, none⟩ (n + c.den ρ) bs hs he hdd (fun j hj => by
              have hj2 : (dens ρ ((xs.drop o).take n))[j]? = some (Value.int .u8 (bs[j].toNat : Int)) := by
                rw [hm, List.getElem?_map, List.getElem?_eq_getElem hj]
                rfl
              unfold dens at hj2
              rw [List.getElem?_map] at hj2
              obtain ⟨y, hy, e2⟩ := Option.map_eq_some_iff.1 hj2
              have h3 := hd j y hy
              rw [add_plain, h3, e2])
            rw [hl] at this
            exact this
          · cases h
        · cases h
      · cases h
    · cases h
  · rename_i g o c e hs hdd
    split at h
    · rename_i he
      injection h with h
      injection h with h1 h2
      subst h1 h2
      exact run_convert_bytes_back (P := P) w src dst e ⟨g.den ρ, o.den ρ, none⟩ (c.den ρ) [] hs he hdd (fun j hj => by simp at hj)
    · cases h
  · cases h
/-- an operation that only reads -/
def readOp (P : Program) (Ps L : List SF) (sl : TS) : Op → Option (Dm × SV)
  | .load T x => match ev sl x with
    | some p => match loadD P Ps L T p with
      | some (d, v) => some (d, .e v)
      | none => none
    | none => none
  | .lookup T m k ok => match ev sl m, ev sl k with
    | some m, some k => lookD P Ps L T m k ok
    | _, _ => none
  | .convert src dst x => match ev sl x with
    | some x => strD P Ps L src dst x
    | none => none
  | _ => none
theorem readOp_s {P : Program} {Ps L : List SF} {sl : TS} {o : Oper} {d : Dm} {v : SV} {ρ : Rho} {a : Act} (ha : Slots ρ sl a.tmps) (h : readOp P Ps L sl o.op = some (d, v)) {w : World} (hd : d.den ρ w) : (execOp a.eval o).run P w = .ok (.value (v.den ρ)) w := by
  unfold execOp
  cases hop : o.op <;> rw [hop] at h <;> first | cases h | simp only [readOp] at h
  case load T x =>
    split at h
    · rename_i p hp
      split at h
      · rename_i d' v' hl
        injection h with h
        injection h with h1 h2
        subst h1 h2
        simp only [ev_s ha hp]
        rw [Sem.run_bind, loadD_s hl hd]
        rfl
      · cases h
    · cases h
  case lookup T m k ok =>
    split at h
    · rename_i hm hk
      simp only [ev_s ha hm, ev_s ha hk]
      rw [Sem.run_bind, lookD_s h hd]
      rfl
    · cases h
  case convert src dst x =>
    split at h
    · rename_i x' hx
      simp only [ev_s ha hx]
      rw [Sem.run_bind, strD_s h hd]
      rfl
    · cases h
/-- bounds -/
theorem run_sliceBounds {P : Program} {w : World} (b : Bool) (n c l h m : Nat) (lo hi mx : Option Value)
    (hm : (mx = none ∧ m = c) ∨ ((∃ k, mx = some (.int k (m : Int))) ∧ m ≤ c ∧ hi ≠ none))
    (hh : (hi = none ∧ h = n) ∨ ((∃ k, hi = some (.int k (h : Int))) ∧ h ≤ m))
    (hl : (lo = none ∧ l = 0) ∨ ((∃ k, lo = some (.int k (l : Int))) ∧ l ≤ h)) : (Instr.sliceBounds b n c lo hi mx).run P w = .ok (l, h, m) w := by
  have sb : ∀ (k : IntKind) (i y : Nat) (code : BoundsCode), i ≤ y → (Instr.sliceBound (.int k (i : Int)) y code).run P w = .ok i w := fun k i y code hi => by
    have h1 : (i : Int) ≤ (y : Int) := by omega
    simp [Instr.sliceBound, asIntOf, h1]
  rcases hm with ⟨rfl, rfl⟩ | ⟨⟨km, rfl⟩, hm, hne⟩
  · rcases hh with ⟨rfl, rfl⟩ | ⟨⟨kh, rfl⟩, hh⟩
    · rcases hl with ⟨rfl, rfl⟩ | ⟨⟨kl, rfl⟩, hl⟩
      · simp [Instr.sliceBounds]
      · simp [Instr.sliceBounds, sb _ _ _ _ hl, Result.andThen]
    · rcases hl with ⟨rfl, rfl⟩ | ⟨⟨kl, rfl⟩, hl⟩
      · simp [Instr.sliceBounds, sb _ _ _ _ hh, Result.andThen]
      · simp [Instr.sliceBounds, sb _ _ _ _ hh, sb _ _ _ _ hl, Result.andThen]
  · rcases hh with ⟨rfl, rfl⟩ | ⟨⟨kh, rfl⟩, hh⟩
    · exact absurd rfl hne
    · rcases hl with ⟨rfl, rfl⟩ | ⟨⟨kl, rfl⟩, hl⟩
      · simp [Instr.sliceBounds, sb _ _ _ _ hm, sb _ _ _ _ hh, Result.andThen]
      · simp [Instr.sliceBounds, sb _ _ _ _ hm, sb _ _ _ _ hh, sb _ _ _ _ hl, Result.andThen]
/-- a bound -/
def bnd (sl : TS) (d : Nat) : Option Operand → Option Nat
  | none => some d
  | some o => match ev sl o with
    | some (.e (.c (.int _ (.ofNat i)))) => some i
    | _ => none
theorem bnd_s {ρ : Rho} {a : Act} {sl : TS} (ha : Slots ρ sl a.tmps) {d i : Nat} {o : Option Operand} (h : bnd sl d o = some i) : (o.map a.eval = none ∧ i = d) ∨ ∃ k, o.map a.eval = some (.int k (i : Int)) := by
  cases o with
  | none => injection h with h; exact .inl ⟨rfl, h.symm⟩
  | some o =>
    simp only [bnd] at h
    split at h
    · rename_i k i' he
      injection h with h
      subst h
      right
      exact ⟨k, by rw [Option.map_some, ev_s ha he]; rfl⟩
    · cases h
/-- what a slice of a slice is: its place, and the room behind it -/
def cutS (nx : Nat) (A : Option SP) (z l h : Nat) (x : SK) : SV × Nat := match A with
  | none => (.e (.c (.slice none (h - l) x)), nx)
  | some (g, o) => match l with
    | 0 => (.e (.c (.slice (some (g, o)) (h - l) x)), nx)
    | l + 1 => match h - (l + 1) + x.k with
      | _ + 1 => (.e (.c (.slice (some (g, o + (l + 1) * z)) (h - (l + 1)) x)), nx)
      | 0 => match x.v with
        | none => (.e (.c (.slice (some (g, o)) (h - (l + 1)) x)), nx)
        | some _ => (.e (.c (.emp g (.v nx) x)), nx + 1)
def cutρ (ρ : Rho) (nx : Nat) (A : Option SP) (z l : Nat) (x : SK) : Rho := match A with
  | none => ρ
  | some (_, o) => updR ρ nx (fun _ => if x.den ρ = 0 then o else o + l * z)
theorem cutρ_agr (ρ : Rho) (nx : Nat) (A : Option SP) (z l : Nat) (x : SK) : Agr nx ρ (cutρ ρ nx A z l x) := by
  cases A with
  | none => exact Agr.refl _ _
  | some a => exact updR_agr ρ nx (fun _ => if x.den ρ = 0 then a.2 else a.2 + l * z)
theorem cutS_s {ρ : Rho} {nx : Nat} {A : Option SP} {z l h : Nat} {x : SK} (ha : (SV.e (.c (.slice A 0 x))).al (lt nx) = true) :
    (cutS nx A z l h x).1.den (cutρ ρ nx A z l x) = .slice (if h - l + x.den ρ = 0 then A.map (pden ρ) else (A.map (pden ρ)).map (·.add (l * z))) (h - l) (h - l + x.den ρ) ∧ nx ≤ (cutS nx A z l h x).2 ∧ (cutS nx A z l h x).1.al (lt (cutS nx A z l h x).2) = true := by
  cases A with
  | none =>
    have hx : x.al (lt nx) = true := ha
    refine ⟨?_, Nat.le_refl _, hx⟩
    show Value.slice none (h - l) (h - l + x.den ρ) = _
    simp
  | some p =>
    obtain ⟨g, o⟩ := p
    have ha2 : (g.al (lt nx) && x.al (lt nx)) = true := ha
    rw [Bool.and_eq_true] at ha2
    have hr := cutρ_agr ρ nx (some (g, o)) z l x
    have eg := SN.den_al hr ha2.1
    have ex := SK.den_al hr ha2.2
    have pd : ∀ k, pden ρ (g, k) = ⟨g.den ρ, k, none⟩ := fun k => rfl
    unfold cutS
    cases l with
    | zero =>
      refine ⟨?_, Nat.le_refl _, ha⟩
      show Value.slice (some ⟨g.den _, o, none⟩) (h - 0) (h - 0 + x.den _) = _
      rw [eg, ex]
      have : (⟨g.den ρ, o, none⟩ : Addr).add 0 = ⟨g.den ρ, o, none⟩ := add_plain _ _ _
      simp [pden, this]
    | succ l =>
      simp only
      split
      · rename_i j hj
        refine ⟨?_, Nat.le_refl _, ha⟩
        show Value.slice (some ⟨g.den _, o + (l + 1) * z, none⟩) (h - (l + 1)) (h - (l + 1) + x.den _) = _
        rw [eg, ex]
        have : ¬ (h - (l + 1) + x.den ρ = 0) := by
          have : x.k ≤ x.den ρ := by
            unfold SK.den
            split <;> omega
          omega
        rw [if_neg this]
        show _ = Value.slice (some ((⟨g.den ρ, o, none⟩ : Addr).add ((l + 1) * z))) _ _
        rw [add_plain]
      · rename_i hj
        split
        · rename_i hv
          refine ⟨?_, Nat.le_refl _, ha⟩
          show Value.slice (some ⟨g.den _, o, none⟩) (h - (l + 1)) (h - (l + 1) + x.den _) = _
          rw [eg, ex]
          have : h - (l + 1) + x.den ρ = 0 := by
            unfold SK.den
            rw [hv]
            omega
          rw [if_pos this]
          rfl
        · rename_i i hv
          refine ⟨?_, Nat.le_succ _, ?_⟩
          · show Value.slice (some ⟨g.den _, (SN.v nx).den (updR ρ nx (fun _ => if x.den ρ = 0 then o else o + (l + 1) * z)), none⟩) 0 (x.den _) = _
            rw [eg, ex, show (SN.v nx).den (updR ρ nx (fun _ => if x.den ρ = 0 then o else o + (l + 1) * z)) = (if x.den ρ = 0 then o else o + (l + 1) * z) from updR_at ρ nx (fun _ => if x.den ρ = 0 then o else o + (l + 1) * z) 0]
            have h0 : h - (l + 1) = 0 := by omega
            rw [h0, Nat.zero_add]
            by_cases hz : x.den ρ = 0
            · rw [if_pos hz, if_pos hz]; rfl
            · rw [if_neg hz, if_neg hz]
              show _ = Value.slice (some ((⟨g.den ρ, o, none⟩ : Addr).add ((l + 1) * z))) _ _
              rw [add_plain]
          · show (g.al (lt (nx + 1)) && lt (nx + 1) nx && x.al (lt (nx + 1))) = true
            rw [SN.al_mono (lt_mono (Nat.le_succ _)) ha2.1, SK.al_mono (lt_mono (Nat.le_succ _)) ha2.2, show lt (nx + 1) nx = true from lt_iff.2 (by omega)]
            rfl
/-- the room left behind bounds, where they fit -/
def roomS (n h : Nat) (x : SK) : Option SK := match Nat.ble h (n + x.k) with
  | true => some ⟨n + x.k - h, x.v⟩
  | false => none
theorem roomS_s {n h : Nat} {x y : SK} (hr : roomS n h x = some y) (ρ : Rho) : h + y.den ρ = n + x.den ρ ∧ (∀ p, y.al p = x.al p) := by
  unfold roomS at hr
  split at hr
  · rename_i hb
    have hb := Nat.le_of_ble_eq_true hb
    injection hr with hr
    subst hr
    refine ⟨?_, fun p => rfl⟩
    obtain ⟨k, v⟩ := x
    have hb : h ≤ n + k := hb
    cases v with
    | none => show h + (n + k - h) = n + k; omega
    | some i => show h + (n + k - h + ρ i) = n + (k + ρ i); omega
  · cases hr
def sliceQ (P : Program) (sl : TS) (nx : Nat) (T : TypeId) (x : SV) (lo hi mx : Option Operand) : Option (SV × Nat) := match P.underlying T, x with
  | some (.slice e), .e (.c (.slice A n c)) => match szT P e, bnd sl 0 lo, bnd sl n hi with
    | some z, some l, some h => match Nat.ble l h, mx with
      | true, none => match roomS n h c with
        | some y => some (cutS nx A z l h y)
        | none => none
      | true, some m => match bnd sl 0 (some m), hi with
        | some m, some _ => match Nat.ble h m, roomS n m c with
          | true, some _ => some (cutS nx A z l h ⟨m - h, none⟩)
          | _, _ => none
        | _, _ => none
      | _, _ => none
    | _, _, _ => none
  | some (.slice e), .e (.c (.emp g o c)) => match szT P e, bnd sl 0 lo, bnd sl 0 hi, mx with
    | some _, some 0, some 0, none => some (.e (.c (.emp g o c)), nx)
    | _, _, _, _ => none
  | some (.array n e), .e (.c (.ptr (some (g, o)))) => match szT P e, bnd sl 0 lo, bnd sl n hi with
    | some z, some l, some h => match Nat.ble l h, mx with
      | true, none => match roomS n h ⟨0, none⟩ with
        | some y => some (cutS nx (some (g, o)) z l h y)
        | none => none
      | _, _ => none
    | _, _, _ => none
  | some .string, .e (.c (.str s)) => match bnd sl 0 lo, bnd sl s.size hi, mx with
    | some l, some h, none => match Nat.ble l h && Nat.ble h s.size with
      | true => some (.e (.c (.str (s.extract l h))), nx)
      | false => none
    | _, _, _ => none
  | _, _ => none
theorem sliceQ_s {P : Program} {ρ : Rho} {n nx : Nat} {sl : TS} {a : Act} (ha : Sl ρ n sl nx a) {T : TypeId} {x : SV} {lo hi mx : Option Operand} (hxa : x.al (lt nx) = true) {v : SV} {nx' : Nat} (hq : sliceQ P sl nx T x lo hi mx = some (v, nx')) :
    ∃ ρ', Agr nx ρ ρ' ∧ nx ≤ nx' ∧ v.al (lt nx') = true ∧ ∀ w, (Instr.sliceAt T (x.den ρ) (lo.map a.eval) (hi.map a.eval) (mx.map a.eval)).run P w = .ok (v.den ρ') w := by
  unfold sliceQ at hq
  split at hq
  · rename_i e A k c hu
    split at hq
    · rename_i z l h hz hl hh
      have kl := bnd_s ha.tm hl
      have kh := bnd_s ha.tm hh
      -- of bounds and room
      have fin : ∀ (m : Nat) (y : SK), l ≤ h → h + y.den ρ = m → y.al (lt nx) = true → cutS nx A z l h y = (v, nx') → ((mx.map a.eval = none ∧ m = k + c.den ρ) ∨ ((∃ q, mx.map a.eval = some (.int q (m : Int))) ∧ m ≤ k + c.den ρ ∧ hi.map a.eval ≠ none)) →
          ∃ ρ', Agr nx ρ ρ' ∧ nx ≤ nx' ∧ v.al (lt nx') = true ∧ ∀ w, (Instr.sliceAt T (.slice (A.map (pden ρ)) k (k + c.den ρ)) (lo.map a.eval) (hi.map a.eval) (mx.map a.eval)).run P w = .ok (v.den ρ') w := by
        intro m y hlh hm hy hcut hmx
        have hA : (SV.e (.c (.slice A 0 y))).al (lt nx) = true := by
          cases A with
          | none => exact hy
          | some p =>
            have h2 : (p.1.al (lt nx) && c.al (lt nx)) = true := hxa
            rw [Bool.and_eq_true] at h2
            show (p.1.al (lt nx) && y.al (lt nx)) = true
            rw [h2.1, hy]
            rfl
        obtain ⟨h1, h2, h3⟩ := cutS_s (ρ := ρ) (z := z) (l := l) (h := h) hA
        rw [hcut] at h1 h2 h3
        refine ⟨_, cutρ_agr ρ nx A z l y, h2, h3, fun w => ?_⟩
        have hb := run_sliceBounds (P := P) (w := w) true k (k + c.den ρ) l h m (lo.map a.eval) (hi.map a.eval) (mx.map a.eval) hmx (by
          rcases kh with kh | kh
          · exact .inl kh
          · exact .inr ⟨kh, by omega⟩) (by
          rcases kl with kl | kl
          · exact .inl kl
          · exact .inr ⟨kl, hlh⟩)
        show _ = Result.ok ((v, nx').1.den _) w
        rw [h1]
        have e1 : m - l = h - l + y.den ρ := by omega
        have e2 : (m = l) = (h - l + y.den ρ = 0) := by
          apply propext
          constructor <;> intro <;> omega
        simp [Instr.sliceAt, Instr.slice, run_underlying hu, hb, szT_s hz, Result.andThen, e1, e2]
      split at hq
      · rename_i hlh
        have hlh := Nat.le_of_ble_eq_true hlh
        split at hq
        · rename_i y hy
          injection hq with hq
          obtain ⟨e1, e2⟩ := roomS_s hy ρ
          exact fin _ y hlh e1 (by rw [e2]; cases A with
            | none => exact hxa
            | some p =>
              have h2 : (p.1.al (lt nx) && c.al (lt nx)) = true := hxa
              rw [Bool.and_eq_true] at h2
              exact h2.2) hq (.inl ⟨rfl, rfl⟩)
        · cases hq
      · rename_i mo hlh
        have hlh := Nat.le_of_ble_eq_true hlh
        split at hq
        · rename_i m ho hm
          split at hq
          · rename_i y hhm hy
            have hhm := Nat.le_of_ble_eq_true hhm
            injection hq with hq
            obtain ⟨e1, e2⟩ := roomS_s hy ρ
            have km := bnd_s ha.tm hm
            rcases km with ⟨km, _⟩ | km
            · cases km
            · exact fin m ⟨m - h, none⟩ hlh (by show h + (m - h) = m; omega) rfl hq (.inr ⟨km, by omega, by simp⟩)
          · cases hq
        · cases hq
      · cases hq
    · cases hq
  · rename_i e g o c hu
    split at hq
    · rename_i z hz hl hh
      injection hq with hq
      injection hq with h1 h2
      subst h1 h2
      refine ⟨ρ, Agr.refl _ _, Nat.le_refl _, hxa, fun w => ?_⟩
      have hb := run_sliceBounds (P := P) (w := w) true 0 (c.den ρ) 0 0 (c.den ρ) (lo.map a.eval) (hi.map a.eval) none (.inl ⟨rfl, rfl⟩) (by
        rcases bnd_s ha.tm hh with kh | kh
        · exact .inl kh
        · exact .inr ⟨kh, Nat.zero_le _⟩) (by
        rcases bnd_s ha.tm hl with kl | kl
        · exact .inl kl
        · exact .inr ⟨kl, Nat.le_refl _⟩)
      show (Instr.sliceAt T (.slice (some ⟨g.den ρ, o.den ρ, none⟩) 0 (c.den ρ)) (lo.map a.eval) (hi.map a.eval) none).run P w = .ok (.slice (some ⟨g.den ρ, o.den ρ, none⟩) 0 (c.den ρ)) w
      have e0 : (⟨g.den ρ, o.den ρ, none⟩ : Addr).add 0 = ⟨g.den ρ, o.den ρ, none⟩ := by rw [add_plain]; rfl
      simp [Instr.sliceAt, Instr.slice, run_underlying hu, hb, szT_s hz, Result.andThen, e0]
    · cases hq
  · rename_i k e g o hu
    split at hq
    · rename_i z l h hz hl hh
      split at hq
      · rename_i hlh
        have hlh := Nat.le_of_ble_eq_true hlh
        split at hq
        · rename_i y hy
          injection hq with hq
          obtain ⟨e1, e2⟩ := roomS_s hy ρ
          have hA : (SV.e (.c (.slice (some (g, o)) 0 y))).al (lt nx) = true := by
            show (g.al (lt nx) && y.al (lt nx)) = true
            rw [e2, Bool.and_eq_true]
            exact ⟨hxa, rfl⟩
          obtain ⟨h1, h2, h3⟩ := cutS_s (ρ := ρ) (z := z) (l := l) (h := h) hA
          rw [hq] at h1 h2 h3
          refine ⟨_, cutρ_agr ρ nx (some (g, o)) z l y, h2, h3, fun w => ?_⟩
          have hb := run_sliceBounds (P := P) (w := w) false k k l h k (lo.map a.eval) (hi.map a.eval) none (.inl ⟨rfl, rfl⟩) (by
            rcases bnd_s ha.tm hh with kh | kh
            · exact .inl kh
            · exact .inr ⟨kh, by
                have : (⟨0, none⟩ : SK).den ρ = 0 := rfl
                omega⟩) (by
            rcases bnd_s ha.tm hl with kl | kl
            · exact .inl kl
            · exact .inr ⟨kl, hlh⟩)
          show _ = Result.ok ((v, nx').1.den _) w
          rw [h1]
          have hk : h + y.den ρ = k := e1
          have e3 : k - l = h - l + y.den ρ := by omega
          have e4 : (k = l) = (h - l + y.den ρ = 0) := by
            apply propext
            constructor <;> intro <;> omega
          show (Instr.sliceAt T (.pointer (some ⟨g.den ρ, o, none⟩)) (lo.map a.eval) (hi.map a.eval) none).run P w = _
          simp [Instr.sliceAt, Instr.sureAddr, run_underlying hu, hb, szT_s hz, Result.andThen, e3, e4, pden]
          split <;> rfl
        · cases hq
      · cases hq
    · cases hq
  · rename_i s hu
    split at hq
    · rename_i l h hl hh
      split at hq
      · rename_i hb
        rw [Bool.and_eq_true] at hb
        have b1 := Nat.le_of_ble_eq_true hb.1
        have b2 := Nat.le_of_ble_eq_true hb.2
        injection hq with hq
        injection hq with h1 h2
        subst h1 h2
        refine ⟨ρ, Agr.refl _ _, Nat.le_refl _, rfl, fun w => ?_⟩
        have hb := run_sliceBounds (P := P) (w := w) false s.size s.size l h s.size (lo.map a.eval) (hi.map a.eval) none (.inl ⟨rfl, rfl⟩) (by
          rcases bnd_s ha.tm hh with kh | kh
          · exact .inl kh
          · exact .inr ⟨kh, b2⟩) (by
          rcases bnd_s ha.tm hl with kl | kl
          · exact .inl kl
          · exact .inr ⟨kl, b1⟩)
        show (Instr.sliceAt T (.string s) (lo.map a.eval) (hi.map a.eval) none).run P w = .ok (.string (s.extract l h)) w
        simp [Instr.sliceAt, Instr.slice, run_underlying hu, hb, Result.andThen]
      · cases hq
    · cases hq
  · cases hq
/-- an operation that writes nothing: what it reads, what it gives, names taken -/
def quietOp (P : Program) (Ps L : List SF) (sl : TS) (nx : Nat) (ty : TypeId) (o : Op) : Option (Dm × SV × Nat) := match pureOp P sl ty o with
  | some v => some (.no, v, nx)
  | none => match readOp P Ps L sl o with
    | some (d, v) => some (d, v, nx)
    | none => match o with
      | .slice T x lo hi mx => match ev sl x with
        | some x => match sliceQ P sl nx T x lo hi mx with
          | some (v, nx') => some (.no, v, nx')
          | none => none
        | none => none
      | _ => none
theorem quietOp_s {P : Program} {Ps L : List SF} {ρ : Rho} {n nx : Nat} {sl : TS} {a : Act} (ha : Sl ρ n sl nx a) {o : Oper} {d : Dm} {v : SV} {nx' : Nat} (h : quietOp P Ps L sl nx o.type o.op = some (d, v, nx')) (hd : d.al (lt nx) = true) (hv : v.al (lt nx') = true) :
    ∃ ρ', Agr nx ρ ρ' ∧ nx ≤ nx' ∧ ∀ w, d.den ρ w → (execOp a.eval o).run P w = .ok (.value (v.den ρ')) w := by
  unfold quietOp at h
  split at h
  · rename_i v' hp
    injection h with h
    injection h with h1 h
    injection h with h2 h3
    subst h1 h2 h3
    exact ⟨ρ, Agr.refl _ _, Nat.le_refl _, fun w _ => pureOp_s ha.tm hp w⟩
  · split at h
    · rename_i d' v' hr
      injection h with h
      injection h with h1 h
      injection h with h2 h3
      subst h1 h2 h3
      exact ⟨ρ, Agr.refl _ _, Nat.le_refl _, fun w hw => readOp_s ha.tm hr hw⟩
    · split at h
      · rename_i T x lo hi mx hop
        split at h
        · rename_i x' hx
          split at h
          · rename_i v' n' hq
            injection h with h
            injection h with h1 h
            injection h with h2 h3
            subst h1 h2 h3
            have hxa : x'.al (lt nx) = true := by
              cases x with
              | tmp t => injection hx with hx; subst hx; exact ha.fs _
              | const c => exact ofV_al hx
              | global g => injection hx with hx; subst hx; rfl
              | func f => injection hx with hx; subst hx; rfl
            obtain ⟨ρ', r1, r2, _, r4⟩ := sliceQ_s ha hxa hq
            refine ⟨ρ', r1, r2, fun w _ => ?_⟩
            unfold execOp
            rw [hop]
            simp only [ev_s ha.tm hx]
            rw [Sem.run_bind, r4]
            rfl
          · cases h
        · cases h
      · cases h
end Kex
