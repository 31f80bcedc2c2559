/- One operation, one region, on a state as data: whatever order is drawn. Over any program; no conditions but the room. -/
import Derived.Test.YtbfhpgpceakeiaaGreatDoorKexK
namespace Kex
open Go Go.RowKit Kin

/-- a call's run, as data: value, facts, names taken -/
abbrev CallR := FuncId → List SV → List SF → Nat → Option (SV × List SF × Nat)
structure Good (X : Cx) (ρ : Rho) (nx : Nat) (v : SV) (L' : List SF) (nx' : Nat) (w' : World) (ρ' : Rho) : Prop where
  agr : Agr nx ρ ρ'
  le : nx ≤ nx'
  al : v.al (lt nx') = true
  hp : Hp X ρ' L' nx' w'
def CallOK (X : Cx) (C : CallR) : Prop := ∀ {f : FuncId} {args : List SV} {L : List SF} {nx : Nat} {v : SV} {L' : List SF} {nx' : Nat}, C f args L nx = some (v, L', nx') → args.all (SV.al (lt nx)) = true → ∀ {ρ : Rho} {w : World}, Hp X ρ L nx w →
  Calls X.P f (args.map (SV.den ρ)).toArray w fun e w' => ∃ ρ', e = .returned (v.den ρ') ∧ Good X ρ nx v L' nx' w' ρ'
/-- what has no body of its own -/
def NatOK (X : Cx) (N : CallR) : Prop := ∀ {f : FuncId} {args : List SV} {L : List SF} {nx : Nat} {v : SV} {L' : List SF} {nx' : Nat}, N f args L nx = some (v, L', nx') → args.all (SV.al (lt nx)) = true → ∀ {ρ : Rho} {w : World}, Hp X ρ L nx w →
  ∃ w' ρ', (callFunc f (args.map (SV.den ρ)).toArray).run X.P w = .ok (.value (v.den ρ')) w' ∧ Good X ρ nx v L' nx' w' ρ'
structure SS where
  sl : TS
  L : List SF
  nx : Nat
structure Sat (X : Cx) (ρ : Rho) (n : Nat) (S : SS) (a : Act) (w : World) : Prop where
  hp : Hp X ρ S.L S.nx w
  hs : Sl ρ n S.sl S.nx a
  df : a.defers = X.D
-- the demand of what is read is met now
section
variable {X : Cx} {ρ : Rho} {L : List SF} {n nx : Nat} {sl : TS} {a : Act} {w : World}
theorem cut_dm (h : Hp X ρ L nx w) {g : SN} {f : SF} {xs : List SC} (hf : facOf X.Ps L g = some f) (hx : cellsF f = some xs) (o k : Nat) : (Dm.cs g o ((xs.drop o).take k)).den ρ w ∧ (Dm.cs g o ((xs.drop o).take k)).al (lt nx) = true := by
  refine ⟨fun j v hj => fac_cells h hf hx (cut_at hj), ?_⟩
  have hg : g.al (lt nx) = true := by
    have hfa : f.al (lt nx) = true := by
      rcases (facOf_s hf).1 with e | e
      · exact List.all_eq_true.1 h.fl f e
      · exact SF.al_mono (lt_mono h.le) (List.all_eq_true.1 h.po f e)
    have hk := (facOf_s hf).2
    cases f with
    | blk g' t cs => injection hk with hk; subst hk; unfold SF.al at hfa; rw [Bool.and_eq_true] at hfa; exact hfa.1
    | gro g' t m n c cs => injection hk with hk; subst hk; unfold SF.al at hfa; rw [Bool.and_eq_true, Bool.and_eq_true] at hfa; exact hfa.1.1
    | ro g' cs => injection hk with hk; subst hk; unfold SF.al at hfa; rw [Bool.and_eq_true] at hfa; exact hfa.1
    | map g' es n => injection hk with hk; subst hk; unfold SF.al at hfa; rw [Bool.and_eq_true] at hfa; exact hfa.1
    | itr g' s n => injection hk with hk; subst hk; exact hfa
  show (g.al (lt nx) && _) = true
  rw [hg, all_cut (fac_al h hf hx)]
  rfl
theorem nth_cut {xs : List SC} {o : Nat} {x : SC} (h : nthC xs o = some x) : [x] = (xs.drop o).take 1 := by
  rw [nthC_eq] at h
  obtain ⟨hl, he⟩ := List.getElem?_eq_some_iff.1 h
  rw [List.drop_eq_getElem_cons hl, he]
  rfl
theorem loadD_dm (h : Hp X ρ L nx w) {T : TypeId} {p : SV} {d : Dm} {v : SE} (hl : loadD X.P X.Ps L T p = some (d, v)) : (d.den ρ w ∧ d.al (lt nx) = true) ∧ v.al (lt nx) = true := by
  unfold loadD at hl
  split at hl
  · rename_i g o
    split at hl
    · rename_i f hf
      split at hl
      · rename_i xs dd hx hu
        split at hl
        · split at hl
          · rename_i k hk
            split at hl
            · injection hl with hl
              injection hl with h1 h2
              subst h1 h2
              exact ⟨cut_dm h hf hx o k, all_cut (fac_al h hf hx) o k⟩
            · cases hl
          · cases hl
        · split at hl
          · rename_i x hn
            injection hl with hl
            injection hl with h1 h2
            subst h1 h2
            rw [nth_cut hn]
            refine ⟨cut_dm h hf hx o 1, ?_⟩
            have := all_cut (fac_al h hf hx) o 1
            rw [← nth_cut hn] at this
            exact (Bool.and_true _).symm.trans this
          · cases hl
      · cases hl
    · cases hl
  · cases hl
theorem lookD_dm (h : Hp X ρ L nx w) {T : TypeId} {m k : SV} {ok : Bool} {d : Dm} {v : SV} (hl : lookD X.P X.Ps L T m k ok = some (d, v)) : d.den ρ w ∧ d.al (lt nx) = true := by
  have key : ∀ {g g' : SN} {es : List (SC × SE × Nat)} {n : Nat}, facOf X.Ps L g = some (.map g' es n) → (Dm.mp g es n).den ρ w ∧ (Dm.mp g es n).al (lt nx) = true := fun {g g' es n} hf => by
    have hk := (facOf_s hf).2
    injection hk with hk
    subst hk
    refine ⟨h.says (facOf_s hf).1, ?_⟩
    rcases (facOf_s hf).1 with e | e
    · exact List.all_eq_true.1 h.fl _ e
    · exact SF.al_mono (lt_mono h.le) (List.all_eq_true.1 h.po _ e)
  unfold lookD at hl
  split at hl
  · split at hl
    · rename_i hf _
      split at hl
      · injection hl with hl
        injection hl with h1 h2
        subst h1
        exact key hf
      · split at hl
        · split at hl
          · split at hl
            · injection hl with hl
              injection hl with h1 h2
              subst h1
              exact key hf
            · cases hl
          · cases hl
        · cases hl
      · cases hl
    · cases hl
  · cases hl
theorem strD_dm (h : Hp X ρ L nx w) {src dst : TypeId} {x : SV} {d : Dm} {v : SV} (hl : strD X.P X.Ps L src dst x = some (d, v)) : d.den ρ w ∧ d.al (lt nx) = true := by
  unfold strD at hl
  split at hl
  · split at hl
    · rename_i hf
      split at hl
      · rename_i xs hx
        split at hl
        · split at hl
          · injection hl with hl
            injection hl with h1 h2
            subst h1
            exact cut_dm h hf hx _ _
          · cases hl
        · cases hl
      · cases hl
    · cases hl
  · split at hl
    · injection hl with hl
      injection hl with h1 h2
      subst h1
      exact ⟨trivial, rfl⟩
    · cases hl
  · cases hl
theorem quietOp_dm (h : Hp X ρ L nx w) {ty : TypeId} {o : Op} {d : Dm} {v : SV} {nx' : Nat} (hq : quietOp X.P X.Ps L sl nx ty o = some (d, v, nx')) : d.den ρ w ∧ d.al (lt nx) = true := by
  unfold quietOp at hq
  split at hq
  · injection hq with hq
    injection hq with h1 _
    subst h1
    exact ⟨trivial, rfl⟩
  · split at hq
    · rename_i d' v' hr
      injection hq with hq
      injection hq with h1 _
      subst h1
      unfold readOp at hr
      split at hr
      · split at hr
        · split at hr
          · rename_i hl
            injection hr with hr
            injection hr with h1 _
            subst h1
            exact (loadD_dm h hl).1
          · cases hr
        · cases hr
      · split at hr
        · exact lookD_dm h hr
        · cases hr
      · split at hr
        · exact strD_dm h hr
        · cases hr
      · cases hr
    · split at hq
      · split at hq
        · split at hq
          · injection hq with hq
            injection hq with h1 _
            subst h1
            exact ⟨trivial, rfl⟩
          · cases hq
        · cases hq
      · cases hq
end
/-- a guard -/
def wantS (n : Nat) (ops : Array Oper) (sl : TS) (o : Oper) : Option Bool := match o.guard with
  | none => some true
  | some (j, want) => match (ops[j]?).bind (·.dst) with
    | none => some false
    | some t => match Nat.blt t n, getP (path t) sl with
      | true, .e (.c (.bool b)) => some (b == want)
      | true, .t [] => some false
      | _, _ => none
theorem wantS_s {ρ : Rho} {n : Nat} {ops : Array Oper} {sl : TS} {nx : Nat} {a : Act} (hs : Sl ρ n sl nx a) {o : Oper} {b : Bool} (h : wantS n ops sl o = some b) : Region.wanted o (yielded ops a.tmps) = b := by
  unfold wantS at h
  unfold Region.wanted
  split at h
  · rename_i hg
    injection h with h
    subst h
    rw [hg]
  · rename_i j want hg
    rw [hg]
    simp only
    unfold yielded
    split at h
    · rename_i hd
      injection h with h
      subst h
      rw [hd]
      rfl
    · rename_i t hd
      rw [hd]
      split at h
      · rename_i b' hlt hv
        injection h with h
        subst h
        have hlt : t < a.tmps.size := by rw [hs.sz]; exact Nat.blt_eq ▸ hlt
        have ht := hs.tm t
        rw [hv] at ht
        have : a.tmps[t]? = some (.bool b') := by
          rw [Array.getElem?_eq_getElem hlt]
          have e : a.tmps.getD t undef = a.tmps[t] := by simp [hlt]
          rw [← e, ht]
          rfl
        simp only [Option.bind_some, this]
        cases b' <;> cases want <;> rfl
      · rename_i hlt hv
        injection h with h
        subst h
        have hlt : t < a.tmps.size := by rw [hs.sz]; exact Nat.blt_eq ▸ hlt
        have ht := hs.tm t
        rw [hv] at ht
        have : a.tmps[t]? = some (.tuple #[]) := by
          rw [Array.getElem?_eq_getElem hlt]
          have e : a.tmps.getD t undef = a.tmps[t] := by simp [hlt]
          rw [← e, ht]
          rfl
        simp only [Option.bind_some, this]
        cases want <;> rfl
      · cases h
/-- operands -/
def evs (sl : TS) : List Operand → Option (List SV)
  | [] => some []
  | o :: l => match ev sl o, evs sl l with
    | some v, some r => some (v :: r)
    | _, _ => none
theorem evs_s {ρ : Rho} {n nx : Nat} {sl : TS} {a : Act} (hs : Sl ρ n sl nx a) : ∀ {l : List Operand} {r : List SV}, evs sl l = some r → l.map a.eval = r.map (SV.den ρ) ∧ r.all (SV.al (lt nx)) = true
  | [], r, h => by injection h with h; subst h; exact ⟨rfl, rfl⟩
  | o :: l, r, h => by
    unfold evs at h
    split at h
    · rename_i hv hr
      injection h with h
      subst h
      obtain ⟨h1, h2⟩ := evs_s hs hr
      refine ⟨by rw [List.map_cons, List.map_cons, h1, ev_s hs.tm hv], by rw [List.all_cons, ev_al hs hv, h2]; rfl⟩
    · cases h
def ptrV (p : SP) : SV := .e (.c (.ptr (some p)))
/-- who is called, with what -/
def callee (P : Program) (Ps L : List SF) (sl : TS) (c : Call) : Option (FuncId × List SV) := match c.callee with
  | .value f => match ev sl f, evs sl c.args.toList with
    | some (.e (.c (.func (.func fn) first cap))), some args => some (fn, first.map ptrV ++ args ++ cap.map ptrV)
    | _, _ => none
  | .invoke r name => match ev sl r, evs sl c.args.toList with
    | some (.e (.c (.ifc t p))), some args => match P.info? t, Nat.blt 0 P.types.size with
      | some i, true => match i.methods.find? (·.name == name) with
        | some m => match m.path.toList, m.func, P.underlying t with
          | [], some (f, true), some (.pointer _) => some (f, .e (ofX p) :: args)
          | [], some (f, false), some (.pointer e) => match ofX p, loadD P Ps L e (.e (ofX p)) with
            | .c (.ptr (some _)), some (_, v) => some (f, .e v :: args)
            | _, _ => none
          | _, _, _ => none
        | none => none
      | _, _ => none
    | _, _ => none
  | .builtin _ => none
theorem ofX_al {p : Nat → Bool} {x : SX} (h : x.al p = true) : (ofX x).al p = true := by
  have key : ∀ y : S0, SG.al p noB y = true → SC.al p (ofA y) = true := fun y hy => by
    cases y <;> first | exact hy | (rename_i a; cases a <;> exact hy) | (rename_i a _ _; cases a <;> exact hy) | (rename_i z; exact z.elim)
  cases x with
  | c y => exact key y h
  | a ys =>
    show (ys.map ofA).all (SC.al p) = true
    rw [List.all_map, List.all_eq_true]
    exact fun y hy => key y (List.all_eq_true.1 h y hy)
section
variable {X : Cx} {ρ : Rho} {L : List SF} {n nx : Nat} {sl : TS} {a : Act} {w : World}
theorem map_ptrV (l : List SP) : (l.map ptrV).map (SV.den ρ) = l.map fun p => Value.pointer (some (pden ρ p)) := by
  rw [List.map_map]
  rfl
theorem all_ptrV {p : Nat → Bool} (l : List SP) : (l.map ptrV).all (SV.al p) = l.all (fun q => q.1.al p) := by
  rw [List.all_map]
  rfl
theorem callee_s (h : Hp X ρ L nx w) (hs : Sl ρ n sl nx a) {o : Oper} {c : Call} {f : FuncId} {args : List SV} (hop : o.op = .call c) (hc : callee X.P X.Ps L sl c = some (f, args)) :
    (execOp a.eval o).run X.P w = (callFunc f (args.map (SV.den ρ)).toArray).run X.P w ∧ args.all (SV.al (lt nx)) = true := by
  unfold callee at hc
  unfold execOp
  rw [hop]
  simp only
  split at hc
  · rename_i fo hcal
    split at hc
    · rename_i fn first cap args' hf hargs
      injection hc with hc
      injection hc with h1 h2
      subst h1 h2
      obtain ⟨e1, e2⟩ := evs_s hs hargs
      have hfv := ev_s hs.tm hf
      have hfa := ev_al hs hf
      have hfa : (first.all (fun q => q.1.al (lt nx)) && cap.all (fun q => q.1.al (lt nx))) = true := hfa
      rw [Bool.and_eq_true] at hfa
      refine ⟨?_, by rw [List.all_append, List.all_append, all_ptrV, all_ptrV, hfa.1, hfa.2, e2]; rfl⟩
      have ha : c.args.map a.eval = (args'.map (SV.den ρ)).toArray := Array.toList_inj.1 (by rw [Array.toList_map, e1])
      have hv : a.eval fo = .func (.func fn) (first.map fun p => .pointer (some (pden ρ p))).toArray (cap.map fun p => .pointer (some (pden ρ p))).toArray := hfv
      have hr : (resolve a.eval c o.type) = pure { target := .fn (.func fn) (cap.map fun p => .pointer (some (pden ρ p))).toArray, args := (first.map fun p => .pointer (some (pden ρ p))).toArray ++ (args'.map (SV.den ρ)).toArray } := by
        simp only [resolve, hcal, hv, ha, Deferred.ofValue]
      rw [hr]
      simp only [Sem.run_bind, Sem.run_pure, Result.andThen_ok, invoke]
      rw [List.map_append, List.map_append, map_ptrV, map_ptrV]
      congr 2
      simp
    · cases hc
  · rename_i r name hcal
    split at hc
    · rename_i t p args' hr hargs
      obtain ⟨e1, e2⟩ := evs_s hs hargs
      have hrv : a.eval r = .iface t (p.den ρ) := ev_s hs.tm hr
      have hra : p.al (lt nx) = true := ev_al hs hr
      have ha : c.args.map a.eval = (args'.map (SV.den ρ)).toArray := Array.toList_inj.1 (by rw [Array.toList_map, e1])
      split at hc
      · rename_i i hi hpos
        have hpos : 0 < X.P.types.size := Nat.blt_eq ▸ hpos
        have hfuel : X.P.types.size + Made.depth = (X.P.types.size + Made.depth - 1) + 1 := by omega
        have hres : (resolve a.eval c o.type) = pure { target := .fn (.method name) #[], args := #[.iface t (p.den ρ)] ++ (args'.map (SV.den ρ)).toArray } := by
          simp only [resolve, hcal, hrv, ha]
        have hext : (#[Value.iface t (p.den ρ)] ++ (args'.map (SV.den ρ)).toArray).extract 1 (#[Value.iface t (p.den ρ)] ++ (args'.map (SV.den ρ)).toArray).size = (args'.map (SV.den ρ)).toArray := by
          apply Array.toList_inj.1
          simp
          rw [List.take_of_length_le (by simp)]
        have hget : (#[Value.iface t (p.den ρ)] ++ (args'.map (SV.den ρ)).toArray)[0]? = some (Value.iface t (p.den ρ)) := by simp
        rw [hres]
        simp only [Sem.run_bind, Sem.run_pure, Result.andThen_ok, invoke, hget, hext, callMethod]
        split at hc
        · rename_i m hm
          have hm' : i.methods.find? (fun x => x.name == name) = some m := hm
          -- the method's row
          have key : ∀ (g : FuncId) (v : SE) (pr : Bool), m.path.toList = [] → m.func = some (g, pr) → (∀ nm : String, (receiverAt t (.val (p.den ρ)) pr (some nm)).run X.P w = .ok (v.den ρ) w) →
              (method (X.P.types.size + Made.depth) t (p.den ρ) name).run X.P w = .ok (g, v.den ρ) w := by
            intro g v pr hp hfn hrec
            rw [hfuel]
            have hpe : m.path = #[] := Array.toList_inj.1 hp
            simp [method, typeInfo, hi, hm', Go.follow, hfn, hpe, hrec, Result.andThen]
          split at hc
          · rename_i g e hp hfn hu
            injection hc with hc
            injection hc with h1 h2
            subst h1 h2
            have hk := key g (ofX p) true hp hfn (fun nm => by
              rw [ofX_s]
              simp [receiverAt, run_underlying hu, Place.get])
            refine ⟨?_, by rw [List.all_cons, e2]; show ((ofX p).al (lt nx) && true) = true; rw [ofX_al hra]; rfl⟩
            show (((method (X.P.types.size + Made.depth) t (p.den ρ) name).run X.P w).andThen fun x w' => (callFunc x.1 (#[x.2] ++ (args'.map (SV.den ρ)).toArray)).run X.P w') = _
            rw [hk]
            show (callFunc _ (#[_] ++ _)).run X.P w = _
            congr 2
            apply Array.toList_inj.1
            simp [SV.den]
          · rename_i g e hp hfn hu
            split at hc
            · rename_i q d v hq hl
              injection hc with hc
              injection hc with h1 h2
              subst h1 h2
              obtain ⟨⟨hd, _⟩, hva⟩ := loadD_dm h hl
              have hpd : p.den ρ = .pointer (some (pden ρ q)) := by
                rw [← ofX_s, hq]
                rfl
              have hld := loadD_s hl hd
              have hld : (loadVar e (pden ρ q)).run X.P w = .ok (v.den ρ) w := by
                have e3 : (SV.e (ofX p)).den ρ = .pointer (some (pden ρ q)) := by rw [hq]; rfl
                rw [e3] at hld
                simpa [Instr.loadAt, Instr.sureAddr] using hld
              have hk := key g v false hp hfn (fun nm => by
                rw [hpd]
                have hchk : Builtin.ssaWrapNilChk_ #[t] t #[.pointer (some (pden ρ q)), strVal "", strVal nm] = pure (.pointer (some (pden ρ q))) := rfl
                simp [receiverAt, run_underlying hu, Place.get, hchk, asAddr, hld])
              refine ⟨?_, by rw [List.all_cons, e2]; show (v.al (lt nx) && true) = true; rw [hva]; rfl⟩
              show (((method (X.P.types.size + Made.depth) t (p.den ρ) name).run X.P w).andThen fun x w' => (callFunc x.1 (#[x.2] ++ (args'.map (SV.den ρ)).toArray)).run X.P w') = _
              rw [hk]
              show (callFunc _ (#[_] ++ _)).run X.P w = _
              congr 2
              apply Array.toList_inj.1
              simp [SV.den]
            · cases hc
          · cases hc
        · cases hc
      · cases hc
    · cases hc
  · cases hc
end
/-- a function that is entered -/
def enters (P : Program) (f : FuncId) : Bool := match P.funcs[f]? with
  | some fn => match fn.body with
    | some _ => !(fn.name == "runtime.NumGoroutine")
    | none => false
  | none => false
theorem enters_s {P : Program} {f : FuncId} (h : enters P f = true) (args : Array Value) (w : World) : (callFunc f args).run P w = .ok (.enter f args) w := by
  unfold enters at h
  split at h
  · rename_i fn hf
    split at h
    · rename_i c hb
      have h1 : fn.name ≠ "runtime.NumGoroutine" := by simpa using h
      simp [callFunc, hf, h1, hb]
    · cases h
  · cases h
/-- an operation that is no quiet one -/
def loudOp (P : Program) (Ps : List SF) (C N : CallR) (L : List SF) (sl : TS) (nx : Nat) (op : Op) : Option (SV × List SF × Nat) := match effOp P Ps L sl nx op with
  | some r => some r
  | none => match moreOp P Ps L sl nx op with
    | some r => some r
    | none => match op with
      | .call c => match callee P Ps L sl c with
        | some (f, args) => match enters P f with
          | true => C f args L nx
          | false => N f args L nx
        | none => none
      | _ => none
section
variable {X : Cx} {C N : CallR} {ρ : Rho} {L : List SF} {n nx : Nat} {sl : TS} {a : Act} {w : World}
theorem loudOp_s (hC : CallOK X C) (hN : NatOK X N) (h : Hp X ρ L nx w) (hs : Sl ρ n sl nx a) {o : Oper} {v : SV} {L' : List SF} {nx' : Nat} (hl : loudOp X.P X.Ps C N L sl nx o.op = some (v, L', nx')) {K : Act → World → Prop} {Q : Exit → Act → World → Prop}
    (hk : ∀ ρ' w', Good X ρ nx v L' nx' w' ρ' → K (a.put o.dst (v.den ρ')) w') : o.wp X.P a w K Q := by
  unfold loudOp at hl
  unfold Oper.wp
  have key : Eff X ρ nx a w o v L' nx' → o.upon X.P a K Q ((execOp a.eval o).run X.P w) := by
    rintro ⟨w', ρ', nxt, hrun, hv, h1, h2, h3, h4⟩
    rw [hrun]
    rcases hv with rfl | ⟨rfl, rfl⟩
    · exact hk ρ' w' ⟨h1, h2, h3, h4⟩
    · exact hk ρ' w' ⟨h1, h2, h3, h4⟩
  split at hl
  · rename_i r he
    injection hl with hl
    subst hl
    exact key (effOp_s h hs he)
  · split at hl
    · rename_i r he
      injection hl with hl
      subst hl
      exact key (moreOp_s h hs he)
    · split at hl
      · rename_i c hop
        split at hl
        · rename_i f args hc
          obtain ⟨e1, e2⟩ := callee_s h hs hop hc
          rw [e1]
          split at hl
          · rename_i hen
            rw [enters_s hen]
            show Calls X.P f _ w _
            refine (hC hl e2 h).mono ?_
            rintro e w' ⟨ρ', rfl, hg⟩
            exact hk ρ' w' hg
          · obtain ⟨w', ρ', hrun, hg⟩ := hN hl e2 h
            rw [hrun]
            exact hk ρ' w' hg
        · cases hl
      · cases hl
end
end Kex
