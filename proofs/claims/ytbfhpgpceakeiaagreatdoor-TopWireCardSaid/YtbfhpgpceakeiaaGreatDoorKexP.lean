/- What has no body of its own; runs with a table; a contract out of a run; contracts written short. Over any program; no conditions but the room. -/
import Derived.Test.YtbfhpgpceakeiaaGreatDoorKexO
import Derived.Laws.Externs
namespace Kex
open Go Go.RowKit Kin

/-- a function without a body, and what it does -/
def NatIs (P : Program) (f : FuncId) (e : Array Value → Sem Value) : Prop := ∃ fn, P.funcs[f]? = some fn ∧ (fn.name == "runtime.NumGoroutine") = false ∧ fn.body.isNone = true ∧ Extern.findNext fn = none ∧ Extern.find fn = some e
/-- a hands back what it is given, b finds a byte, c counts one, d doubles a map -/
def natN (P : Program) (Ps : List SF) (a b c d : FuncId) : CallR := fun f args L nx => match args with
  | [x] => match Nat.beq f a with
    | true => some (x, L, nx)
    | false => match Nat.beq f d, x with
      | true, .e (.c (.ifc t (.c (.map (some g))))) => match facOf Ps L g with
        | some (.map _ es n) => some (.e (.c (.ifc t (.c (.map (some (.v nx)))))), .map (.v nx) es n :: L, nx + 1)
        | _ => none
      | _, _ => none
  | [.e (.c (.str s)), .e (.c (.int k n))] => match Nat.beq f b, Nat.beq f c with
    | true, _ => match (pureRun P (Extern.BytealgIndexByte.indexByte #[.string s, .int k n])).bind ofV with
      | some v => match v.al noV0 with
        | true => some (v, L, nx)
        | false => none
      | none => none
    | false, true => match (pureRun P (Extern.BytealgCount.count #[.string s, .int k n])).bind ofV with
      | some v => match v.al noV0 with
        | true => some (v, L, nx)
        | false => none
      | none => none
    | _, _ => none
  | _ => none
theorem clone_run {P : Program} (w : World) (t : TypeId) {g : Nat} {es : Array MapEntry} {n : Nat} (h : (getObj g).run P w = .ok (.map es n) w) : (Extern.MapsClone.clone #[.iface t (.map (some g))]).run P w = .ok (.iface t (.map (some w.heap.size))) (w.alloc (.map es n)) := by
  show ((do
    let .map entries clock ← getObj g | stuck "maps.clone: a map expected"
    pure (.iface t (.map (some (← newObj (.map entries clock))))) : Sem Value).run P w) = _
  simp only [Sem.run_bind, h, Result.andThen]
  rfl
theorem natN_s {P : Program} {Ps : List SF} {a b c d : FuncId} (ha : NatIs P a Extern.AbiNoEscape.same) (hb : NatIs P b Extern.BytealgIndexByte.indexByte) (hc : NatIs P c Extern.BytealgCount.count) (hd : NatIs P d Extern.MapsClone.clone) (X : Cx) (hP : X.P = P) (hPs : X.Ps = Ps) : NatOK X (natN P Ps a b c d) := by
  subst hP hPs
  intro f args L nx v L' nx' h hal ρ w hp
  unfold natN at h
  split at h
  · rename_i x
    split at h
    · rename_i hf
      have hf := Nat.eq_of_beq_eq_true hf
      subst hf
      injection h with h
      injection h with h1 h
      injection h with h2 h3
      subst h1 h2 h3
      obtain ⟨fn, e1, e2, e3, e4, e5⟩ := ha
      rw [List.all_cons, Bool.and_eq_true] at hal
      refine ⟨w, ρ, ?_, Agr.refl _ _, Nat.le_refl _, hal.1, hp⟩
      rw [run_callFunc_extern e1 e2 e3 e4 e5]
      rfl
    · split at h
      · rename_i t g hf
        have hf := Nat.eq_of_beq_eq_true hf
        subst hf
        split at h
        · rename_i g' es n hfac
          injection h with h
          injection h with h1 h
          injection h with h2 h3
          subst h1 h2 h3
          obtain ⟨fn, e1, e2, e3, e4, e5⟩ := hd
          obtain ⟨hmem, hkey⟩ := facOf_s hfac
          injection hkey with hkey
          subst hkey
          have hmap : MapIs w (g'.den ρ) (es.map (eden ρ)).toArray n := hp.says hmem
          have hfa : (SF.map g' es n).al (lt nx) = true := by
            rcases hmem with e | e
            · exact List.all_eq_true.1 hp.fl _ e
            · exact SF.al_mono (lt_mono hp.le) (List.all_eq_true.1 hp.po _ e)
          have hfa := hfa
          unfold SF.al at hfa
          rw [Bool.and_eq_true] at hfa
          have agr := updR_agr ρ nx (fun _ => w.heap.size)
          have e0 : (SN.v nx).den (updR ρ nx (fun _ => w.heap.size)) = w.heap.size := v_new ρ nx _
          have ees : es.map (eden (updR ρ nx (fun _ => w.heap.size))) = es.map (eden ρ) := map_al (fun _ hq => eden_al agr hq) hfa.2
          refine ⟨w.alloc (.map (es.map (eden ρ)).toArray n), updR ρ nx (fun _ => w.heap.size), ?_, agr, Nat.le_succ _, lt_self nx, hp.re agr (Nat.le_succ _) ?_ ?_⟩
          · rw [run_callFunc_extern e1 e2 e3 e4 e5]
            have hg : (getObj (g'.den ρ)).run X.P w = .ok (.map (es.map (eden ρ)).toArray n) w := MapKept.run_getObj_map hmap
            have hc : ((Extern.MapsClone.clone #[.iface t (.map (some (g'.den ρ)))]).run X.P w) = .ok (.iface t (.map (some w.heap.size))) (w.alloc (.map (es.map (eden ρ)).toArray n)) := clone_run w t hg
            show ((Extern.MapsClone.clone #[.iface t (.map (some (g'.den ρ)))]).run X.P w).andThen _ = _
            rw [hc]
            simp [SV.den, SE.den, SC.den, SG.den, SX.den, e0, Result.andThen]
          · rw [List.all_cons, Bool.and_eq_true]
            refine ⟨?_, SFs_mono (lt_mono (Nat.le_succ _)) hp.fl⟩
            show (lt (nx + 1) nx && _) = true
            rw [lt_self, Bool.true_and]
            refine all_mono (fun x e => ?_) hfa.2
            rw [Bool.and_eq_true] at e ⊢
            exact ⟨SC.al_mono (lt_mono (Nat.le_succ _)) e.1, SE.al_mono (lt_mono (Nat.le_succ _)) e.2⟩
          · rw [List.map_cons, reL hp agr]
            have := St_allocm hp.st (g := w.heap.size) rfl (es.map (eden ρ)).toArray n
            have e1 : SF.den (updR ρ nx (fun _ => w.heap.size)) (.map (.v nx) es n) = Fac.map w.heap.size (es.map (eden ρ)).toArray n := by
              simp only [SF.den]
              rw [e0, ees]
            rw [e1]
            exact this
        · cases h
      · cases h
  · rename_i s k n
    have key : ∀ (e : Array Value → Sem Value), NatIs X.P f e → (match (pureRun X.P (e #[.string s, .int k n])).bind ofV with
      | some v => match v.al noV0 with
        | true => some (v, L, nx)
        | false => none
      | none => none) = some (v, L', nx') → ∃ w' ρ', (callFunc f ([SV.e (.c (.str s)), .e (.c (.int k n))].map (SV.den ρ)).toArray).run X.P w = .ok (.value (v.den ρ')) w' ∧ Good X ρ nx v L' nx' w' ρ' := by
      rintro e ⟨fn, e1, e2, e3, e4, e5⟩ h
      split at h
      · rename_i v1 hv
        split at h
        · rename_i hva
          injection h with h
          injection h with h1 h
          injection h with h2 h3
          subst h1 h2 h3
          obtain ⟨v2, h1, h2⟩ := Option.bind_eq_some_iff.1 hv
          refine ⟨w, ρ, ?_, Agr.refl _ _, Nat.le_refl _, SV.al_mono (fun _ e => by cases e) hva, hp⟩
          rw [run_callFunc_extern e1 e2 e3 e4 e5]
          show ((e #[.string s, .int k n]).run X.P w).andThen _ = _
          rw [pureRun_s h1 w, ofV_s h2]
          rfl
        · cases h
      · cases h
    split at h
    · rename_i hf
      have hf := Nat.eq_of_beq_eq_true hf
      subst hf
      exact key _ hb h
    · rename_i _ hf
      have hf := Nat.eq_of_beq_eq_true hf
      subst hf
      exact key _ hc h
    · cases h
  · cases h
/-- runs with a table, to a depth; those of Ms have a loop over a function, or a deferred call -/
def noC : CallR := fun _ _ _ _ => none
theorem noC_s {X : Cx} : CallOK X noC := fun h => by cases h
def runX (P : Program) (Ps : List SF) (C N : CallR) (Ms : List Nat) : CallR := fun f args L nx => match memN f Ms with
  | true => runM P Ps C N f args L nx
  | false => runBody P Ps C N f args L nx
def runT (P : Program) (Ps : List SF) (N : CallR) (Ms : List Nat) (T : List Con) : Nat → CallR
  | 0 => noC
  | k + 1 => runX P Ps (callT (runT P Ps N Ms T k) T) N Ms
theorem runT_s {P : Program} {Ps : List SF} {N : CallR} {Ms : List Nat} (hN : ∀ X : Cx, X.P = P → X.Ps = Ps → NatOK X N) (hm : P.follows .mixedOrders = true) (hps : Ps.all (SF.al noV0) = true) {T : List Con} (hT : ∀ c ∈ T, c.holds P Ps) (ok : T.all Con.ok = true) : ∀ (k : Nat) (X : Cx), X.P = P → X.Ps = Ps → CallOK X (runT P Ps N Ms T k) := by
  intro k
  induction k with
  | zero =>
    intro X _ _
    have h : CallOK X noC := noC_s
    exact @h
  | succ k ih =>
    intro X hP hPs
    subst hP hPs
    have hC : ∀ X' : Cx, X'.P = X.P → X'.Ps = X.Ps → CallOK X' (callT (runT X.P X.Ps N Ms T k) T) := by
      intro X' h1 h2
      have h0 : CallOK X' (runT X.P X.Ps N Ms T k) := ih X' h1 h2
      have h3 : CallOK X' (callT (runT X.P X.Ps N Ms T k) T) := callT_s h0 (by rw [h2]; exact hps) (by rw [h1, h2]; exact hT) ok
      exact @h3
    have a1 : CallOK X (runM X.P X.Ps (callT (runT X.P X.Ps N Ms T k) T) N) := runM_s hC hN hm
    have a2 : CallOK X (runBody X.P X.Ps (callT (runT X.P X.Ps N Ms T k) T) N) := runBody_s (hC X rfl rfl) (hN X rfl rfl) hm
    intro f args L nx v L' nx' h ha ρ w hp
    unfold runT runX at h
    split at h
    · exact a1 h ha hp
    · exact a2 h ha hp
/-- a contract is what the run gives, its names told anew -/
def conB (P : Program) (Ps : List SF) (N : CallR) (Ms : List Nat) (T : List Con) (k : Nat) (c : Con) : Bool := match runT P Ps N Ms T k c.f c.args c.F c.nv with
  | some (v, L, nx) => match canon c.nv ⟨setP v (path 0) .l, L, nx⟩ with
    | some S => SS.eq S ⟨setP c.v (path 0) .l, c.G, c.nx⟩
    | none => false
  | none => false
theorem Post.of_st {w0 w : World} {P F L : List Fac} (h : St w0 P F w L) : Post w0 w F L := ⟨h.all, h.nod, h.dis, h.own, h.rown, h.chg⟩
theorem con_s {P : Program} {Ps : List SF} {N : CallR} {Ms : List Nat} (hN : ∀ X : Cx, X.P = P → X.Ps = Ps → NatOK X N) (hm : P.follows .mixedOrders = true) (hps : Ps.all (SF.al noV0) = true) {T : List Con} (hT : ∀ c ∈ T, c.holds P Ps) (okT : T.all Con.ok = true) (k : Nat) {c : Con} (ok : c.ok = true) (h : conB P Ps N Ms T k c = true) : c.holds P Ps := by
  intro ρ w hpre
  have ok' := ok
  unfold Con.ok at ok'
  simp only [Bool.and_eq_true] at ok'
  obtain ⟨⟨⟨⟨o1, o2⟩, o3⟩, o4⟩, o5⟩ := ok'
  let X : Cx := ⟨P, Ps, c.nv, ρ, w, c.F.map (SF.den ρ), []⟩
  have hp : Hp X ρ c.F c.nv w := ⟨fun _ _ => rfl, Nat.le_refl _, closed_any hps, o2, hpre.start⟩
  unfold conB at h
  split at h
  · rename_i v L nx hr
    split at h
    · rename_i S hS
      have hS' := SS.eq_s h
      subst hS'
      have hrun : CallOK X (runT P Ps N Ms T k) := runT_s hN hm hps hT okT k X rfl rfl
      refine (hrun hr o1 hp).mono ?_
      rintro e w' ⟨ρ1, rfl, hg⟩
      have h0 : Slots ρ1 .l #[undef] := fun t => by
        rw [getP_l]
        rcases t with _ | t <;> rfl
      have hsat : Sat X ρ1 1 ⟨setP v (path 0) .l, L, nx⟩ ⟨#[undef].setIfInBounds 0 (v.den ρ1), []⟩ w' :=
        ⟨hg.hp, ⟨rfl, h0.set 0 (Nat.zero_lt_one) v, fs_set hg.al _ _ (fun q => by rw [getP_l]; rfl)⟩, rfl⟩
      obtain ⟨ρ', r1, r2, r3⟩ := canon_s hS (Nat.le_refl c.nv) hsat
      have e1 := hsat.hs.tm 0
      have e2 := r3.hs.tm 0
      rw [getP_set] at e1 e2
      exact ⟨ρ', by rw [← e2, e1], hg.agr.trans r1 (Nat.le_refl _), Post.of_st r3.hp.st⟩
    · cases h
  · cases h
-- contracts written short
section
variable {α : Type}
def Sh.i (n : Nat) : SG α := .int .i64 (.ofNat n)
def Sh.j (n : Nat) : SG α := .int .i64 (.negSucc n)
def Sh.b (n : Nat) : SG α := .int .u8 (.ofNat n)
def Sh.w (k : IntKind) (n : Nat) : SG α := .int k (.ofNat n)
def Sh.x (k : IntKind) (n : Nat) : SG α := .int k (.negSucc n)
def Sh.tt : SG α := .bool true
def Sh.ff : SG α := .bool false
def Sh.by (l : List Nat) : ByteArray := ⟨(l.map UInt8.ofNat).toArray⟩
def Sh.st (l : List Nat) : SG α := .str (Sh.by l)
def Sh.pn : SG α := .ptr none
def Sh.p (i o : Nat) : SG α := .ptr (some (.v i, o))
def Sh.pk (i o : Nat) : SG α := .ptr (some (.k i, o))
def Sh.sn : SG α := .slice none 0 ⟨0, none⟩
def Sh.sl (i o n k : Nat) : SG α := .slice (some (.v i, o)) n ⟨k, none⟩
def Sh.sv (i o n k v : Nat) : SG α := .slice (some (.v i, o)) n ⟨k, some v⟩
def Sh.mn : SG α := .map none
end
def Sh.e (x : SC) : SV := .e (.c x)
def Sh.k (g t : Nat) (cs : List SC) : SF := .blk (.v g) t cs
def Sh.rp (n : Nat) (x : SC) (l : List SC) : List SC := match n with
  | 0 => l
  | n + 1 => x :: Sh.rp n x l
def Sh.bs : List Nat → List SC → List SC
  | [], l => l
  | n :: r, l => Sh.b n :: Sh.bs r l
def Sh.is : List Nat → List SC → List SC
  | [], l => l
  | n :: r, l => Sh.i n :: Sh.is r l
end Kex
