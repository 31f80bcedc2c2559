/- Pointers seen as no type's, bytes seen as text, a walk over a text's letters. Over any program; no conditions. -/
import Derived.Test.YtbfhpgpceakeiaaGreatDoorKexG
import Derived.Lib.UnsafeStr
namespace Kex
open Go Go.RowKit Kin

section
variable {P : Program} {w : World}
theorem seen_cells {a : Addr} {e : TypeId} {n : Nat} (hs : w.shape? a.block = some (e, n)) : (Conv.seenAt a).run P w = .ok a w := by
  simp [Conv.seenAt, viewAt, hs]
theorem run_toUnsafe {src dst t e : TypeId} {a : Addr} {n m : Nat} (h1 : P.underlying src = some (.pointer t)) (h2 : P.underlying dst = some .unsafePointer) (hs : w.shape? a.block = some (e, n)) (hz : (Go.sizeOf t).run P w = .ok (m + 1) w) (ho : a.off < n) : (convert src dst (.pointer (some a))).run P w = .ok (.pointer (some a)) w := by
  have hn : ¬ (n ≤ a.off) := by omega
  simp [convert, run_underlying h1, run_underlying h2, Conv.unsafePointer, seen_cells hs, cellsIn, hs, hz, hn, Result.andThen]
theorem run_ofUnsafe {src dst u e : TypeId} {a : Addr} {n m : Nat} (h1 : P.underlying src = some .unsafePointer) (h2 : P.underlying dst = some (.pointer u)) (hs : w.shape? a.block = some (e, n)) (hz : (Go.sizeOf u).run P w = .ok (m + 1) w) (ho : liesAt P P.depth e (n / P.cellsOf e) a.off u 1 = true) : (convert src dst (.pointer (some a))).run P w = .ok (.pointer (some a)) w := by
  simp [convert, run_underlying h1, run_underlying h2, Conv.unsafePointer, seen_cells hs, variablesAt, hs, hz, ho, Result.andThen]
theorem chg_frz {S : Nat → Prop} {p : Addr} {n : Nat} (hp : S p.block) : Chg S w (w.freeze p n) := by
  unfold World.freeze
  split
  · exact Chg.refl _ _
  · refine ⟨rfl, rfl, rfl, ?_, fun i hi hn => ?_⟩
    · show _ ≤ (w.heap.modify _ _).size
      rw [Array.size_modify]
      exact Nat.le_refl _
    · show (w.heap.modify p.block _)[i]? = _
      have : p.block ≠ i := fun e => hn (by rw [← e]; exact hp)
      rw [Array.getElem?_modify, if_neg this]
end
/-- pointers: no type's, and back -/
def unsC (P : Program) (Ps L : List SF) (src dst : TypeId) (x : SV) : Option SV := match x with
  | .e (.c (.ptr (some (g, o)))) => match facOf Ps L g with
    | some (.blk _ e cs) => match P.underlying src, P.underlying dst with
      | some (.pointer t), some .unsafePointer => match szT P t, Nat.blt o cs.length with
        | some (_ + 1), true => some x
        | _, _ => none
      | some .unsafePointer, some (.pointer u) => match szT P u, liesAt P P.depth e (cs.length / P.cellsOf e) o u 1 with
        | some (_ + 1), true => some x
        | _, _ => none
      | _, _ => none
    | _ => none
  | _ => none
/-- a walk over text: begun, a step -/
def rangeS (P : Program) (L : List SF) (nx : Nat) (T : TypeId) (x : SV) : Option (SV × List SF × Nat) := match P.underlying T, x with
  | some .string, .e (.c (.str s)) => some (.e (.c (.ptr (some (.v nx, 0)))), .itr (.v nx) s 0 :: L, nx + 1)
  | _, _ => none
def nextS (L : List SF) (nx : Nat) (x : SV) : Option (SV × List SF × Nat) := match x with
  | .e (.c (.ptr (some (g, 0)))) => match findI g 0 L with
    | some (i, .itr g' s pos) => match Nat.blt pos s.size with
      | true => match Utf8.decode s pos with
        | (c, k) => some (.t [.c (.bool true), .c (.int .i64 (pos : Nat)), .c (.int .i32 c)], .itr g' s (pos + k) :: dropA [i] 0 L, nx)
      | false => some (.t [.c (.bool false)], L, nx)
    | _ => none
  | _ => none
/-- text of bytes that are given up -/
def unsS (P : Program) (L : List SF) (nx : Nat) (pt : TypeId) (p n : SV) : Option (SV × List SF × Nat) := match p, n, P.underlying pt with
  | .e (.c (.ptr (some (g, 0)))), .e (.c (.int .i64 (.ofNat (k + 1)))), some (.pointer e) => match findI g 0 L with
    | some (i, .gro _ t 1 m _ cs) => match bytesC cs with
      | some l => match Nat.beq t e && Nat.beq (P.cellsOf e) 1 && Nat.beq l.length (k + 1) && Nat.beq m (k + 1) with
        | true => some (.e (.c (.str ⟨l.toArray⟩)), dropA [i] 0 L, nx)
        | false => none
      | none => none
    | _ => none
  | _, _, _ => none
def moreOp (P : Program) (Ps L : List SF) (sl : TS) (nx : Nat) : Op → Option (SV × List SF × Nat)
  | .convert src dst x => match ev sl x with
    | some x => match unsC P Ps L src dst x with
      | some v => some (v, L, nx)
      | none => none
    | none => none
  | .range T x => match ev sl x with
    | some x => rangeS P L nx T x
    | none => none
  | .next x true => match ev sl x with
    | some x => nextS L nx x
    | none => none
  | .buildSlice T 0 ps => match P.underlying T, ps.toList with
    | some (.slice e), [] => match szT P e with
      | some _ => some (.e (.c (.slice (some (.v nx, 0)) 0 ⟨0, none⟩)), .blk (.v nx) e [] :: L, nx + 1)
      | none => none
    | _, _ => none
  | .call c => match c.callee, c.args.toList, c.argTypes.toList with
    | .builtin .unsafeSliceData, [x], _ => match ev sl x with
      | some (.e (.c (.slice (some p) (_ + 1) _))) => some (.e (.c (.ptr (some p))), L, nx)
      | _ => none
    | .builtin .unsafeString, [p, n], [pt, _] => match ev sl p, ev sl n with
      | some p, some n => unsS P L nx pt p n
      | _, _ => none
    | _, _, _ => none
  | _ => none
section
variable {X : Cx} {ρ : Rho} {L : List SF} {n nx : Nat} {sl : TS} {a : Act} {w : World}
theorem blk_shape {g : Nat} {t : TypeId} {cs : Array Value} (h : Blk w g t cs) : w.shape? g = some (t, cs.size) := by
  have h : w.heap[g]? = some (.cells cs t (0, 0)) := h
  unfold World.shape?
  rw [h]
theorem unsC_s (h : Hp X ρ L nx w) {src dst : TypeId} {x v : SV} (hu : unsC X.P X.Ps L src dst x = some v) : v = x ∧ (convert src dst (x.den ρ)).run X.P w = .ok (x.den ρ) w := by
  unfold unsC at hu
  split at hu
  · rename_i g o
    split at hu
    · rename_i g' e cs hf
      obtain ⟨hm, hk⟩ := facOf_s hf
      injection hk with hk
      subst hk
      have hb : Blk w (g'.den ρ) e (dens ρ cs).toArray := h.says hm
      have hs := blk_shape hb
      rw [List.size_toArray, dens_len] at hs
      split at hu
      · rename_i t h1 h2
        split at hu
        · rename_i m hz ho
          injection hu with hu
          have ho : o < cs.length := Nat.blt_eq ▸ ho
          exact ⟨hu.symm, run_toUnsafe (a := ⟨g'.den ρ, o, none⟩) h1 h2 hs (szT_s hz w) ho⟩
        · cases hu
      · rename_i u h1 h2
        split at hu
        · rename_i m hz ho
          injection hu with hu
          exact ⟨hu.symm, run_ofUnsafe (a := ⟨g'.den ρ, o, none⟩) h1 h2 hs (szT_s hz w) ho⟩
        · cases hu
      · cases hu
    · cases hu
  · cases hu
theorem rangeS_s (h : Hp X ρ L nx w) {T : TypeId} {x v : SV} {L' : List SF} {nx' : Nat} (hr : rangeS X.P L nx T x = some (v, L', nx')) :
    ∃ w' ρ', (Instr.range T (x.den ρ)).run X.P w = .ok (v.den ρ') w' ∧ Agr nx ρ ρ' ∧ nx ≤ nx' ∧ v.al (lt nx') = true ∧ Hp X ρ' L' nx' w' := by
  unfold rangeS at hr
  split at hr
  · rename_i s hu
    injection hr with hr
    injection hr with h1 hr
    injection hr with h2 h3
    subst h1 h2 h3
    have e0 : (SN.v nx).den (updR ρ nx (fun _ => w.heap.size)) = w.heap.size := v_new ρ nx _
    refine ⟨w.alloc (.stringIter s 0), updR ρ nx (fun _ => w.heap.size), ?_, updR_agr ρ nx _, Nat.le_succ _, lt_self nx, h.re (updR_agr ρ nx _) (Nat.le_succ _) ?_ ?_⟩
    · show (Instr.range T (.string s)).run X.P w = .ok (.pointer (some ⟨(SN.v nx).den _, 0, none⟩)) _
      rw [e0]
      simp [Instr.range, run_underlying hu]
    · rw [List.all_cons, Bool.and_eq_true]
      exact ⟨lt_self nx, SFs_mono (lt_mono (Nat.le_succ _)) h.fl⟩
    · rw [List.map_cons, reL h (updR_agr ρ nx _)]
      have e1 : SF.den (updR ρ nx (fun _ => w.heap.size)) (.itr (.v nx) s 0) = Fac.of (Fact.itr w.heap.size s 0) := by
        simp only [SF.den]
        rw [e0]
      rw [e1]
      exact h.st.fresh (G := [Fac.of (Fact.itr w.heap.size s 0)]) ⟨⟨heap_alloc_new w _, trivial⟩, by simp [owns], fun k hk => by simp [rds] at hk, fun k hk => by simp [owns] at hk; right; omega, fun k hk => by simp [rds] at hk, Chg.of_below ((Below.refl _ w).alloc (Nat.le_refl _) _)⟩
  · cases hr
theorem nextS_s (h : Hp X ρ L nx w) {ty : TypeId} {x v : SV} {L' : List SF} {nx' : Nat} (hr : nextS L nx x = some (v, L', nx')) :
    ∃ w', (Instr.next (x.den ρ) true ty).run X.P w = .ok (v.den ρ) w' ∧ nx = nx' ∧ v.al (lt nx') = true ∧ Hp X ρ L' nx' w' := by
  unfold nextS at hr
  split at hr
  · rename_i g
    split at hr
    · rename_i i g' s pos hfi
      obtain ⟨j', hj, hat, hkey⟩ := findI_at hfi
      rw [Nat.zero_add] at hj
      subst hj
      injection hkey with hkey
      subst hkey
      have hfa : g'.al (lt nx) = true := List.all_eq_true.1 h.fl _ (List.mem_of_getElem? hat)
      have hnth := nth_map (ρ := ρ) hat
      have hit : w.heap[g'.den ρ]? = some (.stringIter s pos) := h.st.get i hnth
      have hget : (getObj (g'.den ρ)).run X.P w = .ok (.stringIter s pos) w := by
        simp [getObj, Sem.run, hit]
      split at hr
      · rename_i hlt
        have hlt : pos < s.size := Nat.blt_eq ▸ hlt
        split at hr
        rename_i c k hdec
        injection hr with hr
        injection hr with h1 hr
        injection hr with h2 h3
        subst h1 h2 h3
        have hset : (setObj (g'.den ρ) (.stringIter s (pos + k))).run X.P w = .ok () { w with heap := w.heap.setIfInBounds (g'.den ρ) (.stringIter s (pos + k)) } := by
          simp [setObj, Sem.run, hit]
        refine ⟨{ w with heap := w.heap.setIfInBounds (g'.den ρ) (.stringIter s (pos + k)) }, ?_, rfl, rfl, h.re (Agr.refl _ _) (Nat.le_refl _) ?_ ?_⟩
        · show (Instr.next (.pointer (some ⟨g'.den ρ, 0, none⟩)) true ty).run X.P w = .ok (.tuple #[.bool true, .int .i64 (pos : Nat), .int .i32 c]) _
          simp [Instr.next, hget, hlt, hdec, hset, Result.andThen, goInt]
        · rw [List.all_cons, Bool.and_eq_true]
          exact ⟨hfa, all_dropA h.fl⟩
        · have hp : pick [i] (L.map (SF.den ρ)) = [Fac.of (Fact.itr (g'.den ρ) s pos)] := by
            simp only [pick, hnth]
            rfl
          have hs2 := MapKept.heap_set (o' := .stringIter s (pos + k)) hit
          have hst := h.st.step (G := [Fac.of (Fact.itr (g'.den ρ) s (pos + k))]) [i] (w' := { w with heap := w.heap.setIfInBounds (g'.den ρ) (.stringIter s (pos + k)) }) (by
            rw [hp]
            refine ⟨⟨hs2.1, trivial⟩, by simp [owns], fun k hk => by simp [rds] at hk, fun k hk => .inl hk, fun k hk => by simp [rds] at hk, ⟨rfl, rfl, rfl, ?_, fun q hq hn => hs2.2 q (fun e => hn (by simp [owns, e]))⟩⟩
            show _ ≤ (w.heap.setIfInBounds _ _).size
            rw [Array.size_setIfInBounds]
            exact Nat.le_refl _)
          rw [dropI_map] at hst
          exact hst
      · rename_i hlt
        have hlt : ¬ pos < s.size := fun e => by
          rw [show Nat.blt pos s.size = true by rw [Nat.blt_eq]; exact e] at hlt
          cases hlt
        injection hr with hr
        injection hr with h1 hr
        injection hr with h2 h3
        subst h1 h2 h3
        refine ⟨w, ?_, rfl, rfl, h⟩
        show (Instr.next (.pointer (some ⟨g'.den ρ, 0, none⟩)) true ty).run X.P w = .ok (.tuple #[.bool false]) _
        simp [Instr.next, hget, hlt, Result.andThen]
    · cases hr
  · cases hr
theorem unsS_s (h : Hp X ρ L nx w) {pt it ty : TypeId} {p m v : SV} {L' : List SF} {nx' : Nat} (hr : unsS X.P L nx pt p m = some (v, L', nx')) :
    ∃ w', (Builtin.unsafeString_ #[pt, it] ty #[p.den ρ, m.den ρ]).run X.P w = .ok (v.den ρ) w' ∧ nx = nx' ∧ v.al (lt nx') = true ∧ Hp X ρ L' nx' w' := by
  unfold unsS at hr
  split at hr
  · rename_i g k e hpt
    split at hr
    · rename_i i g' t m' x cs hfi
      obtain ⟨j', hj, hat, hkey⟩ := findI_at hfi
      rw [Nat.zero_add] at hj
      subst hj
      injection hkey with hkey
      subst hkey
      have hnth := nth_map (ρ := ρ) hat
      obtain ⟨cur, fz, c1, cf, c2, c3, c4, c5⟩ : ∃ cur : Array Value, ∃ fz, w.heap[g'.den ρ]? = some (.cells cur t fz) ∧ Soft fz cur.size ∧ (dens ρ cs).length = m' * 1 ∧ cur.size = (m' + x.den ρ) * 1 ∧ m' + x.den ρ ≤ maxLen ∧ cur.toList.take (dens ρ cs).length = dens ρ cs := h.st.get i hnth
      split at hr
      · rename_i l hl
        split at hr
        · rename_i hb
          rw [Bool.and_eq_true, Bool.and_eq_true, Bool.and_eq_true] at hb
          have q1 := Nat.eq_of_beq_eq_true hb.1.1.1
          have q2 := Nat.eq_of_beq_eq_true hb.1.1.2
          have q3 := Nat.eq_of_beq_eq_true hb.1.2
          have q4 := Nat.eq_of_beq_eq_true hb.2
          subst q1
          injection hr with hr
          injection hr with h1 hr
          injection hr with h2 h3
          subst h1 h2 h3
          have hsh : w.shape? (g'.den ρ) = some (t, cur.size) := by
            unfold World.shape?
            rw [c1]
          have hd := bytesC_s (ρ := ρ) hl
          have hrun := Lib.run_unsafeString_row (P := X.P) w pt it ty t hpt q2 (g'.den ρ) cur.size hsh l (by intro e0; rw [e0] at q3; cases q3) (by rw [c3, q3, q4]; omega) (by unfold maxLen at c4; omega) (fun j y hj => by
            rw [add_plain, Nat.zero_add]
            have hl2 : j < l.length := (List.getElem?_eq_some_iff.1 hj).1
            have : (dens ρ cs)[j]? = some (.int .u8 (y.toNat : Int)) := by
              rw [hd, List.getElem?_map, hj]
              rfl
            rw [cell_of_row w _ j cur t fz c1]
            rw [← c5, List.getElem?_take] at this
            split at this
            · simpa using this
            · cases this)
          refine ⟨w.freeze ⟨g'.den ρ, 0, none⟩ l.length, ?_, rfl, rfl, h.re (Agr.refl _ _) (Nat.le_refl _) (all_dropA h.fl) ?_⟩
          · show (Builtin.unsafeString_ #[pt, it] ty #[.pointer (some ⟨g'.den ρ, 0, none⟩), .int .i64 ((k + 1 : Nat) : Int)]).run X.P w = .ok (.string ⟨l.toArray⟩) _
            rw [← q3]
            exact hrun
          · have hp : pick [i] (L.map (SF.den ρ)) = [Fac.of (Fact.gro (g'.den ρ) t 1 m' (x.den ρ) (dens ρ cs))] := by
              simp only [pick, hnth]
              rfl
            have hst := h.st.step (G := []) [i] (w' := w.freeze ⟨g'.den ρ, 0, none⟩ l.length) (by
              rw [hp]
              exact ⟨trivial, List.nodup_nil, fun k hk => by simp [rds] at hk, fun k hk => by simp [owns] at hk, fun k hk => by simp [rds] at hk, chg_frz (by simp [owns])⟩)
            rw [dropI_map, List.nil_append] at hst
            exact hst
        · cases hr
      · cases hr
    · cases hr
  · cases hr
theorem moreOp_s (h : Hp X ρ L nx w) (hs : Sl ρ n sl nx a) {o : Oper} {v : SV} {L' : List SF} {nx' : Nat} (hn : moreOp X.P X.Ps L sl nx o.op = some (v, L', nx')) : Eff X ρ nx a w o v L' nx' := by
  unfold moreOp at hn
  split at hn
  · rename_i src dst x hop
    split at hn
    · rename_i x' hx
      split at hn
      · rename_i v' hu
        injection hn with hn
        injection hn with h1 hn
        injection hn with h2 h3
        subst h1 h2 h3
        obtain ⟨e1, e2⟩ := unsC_s h hu
        subst e1
        refine ⟨w, ρ, .value (v'.den ρ), ?_, .inl rfl, Agr.refl _ _, Nat.le_refl _, ev_al hs hx, h⟩
        unfold execOp
        rw [hop]
        simp only [ev_s hs.tm hx]
        rw [Sem.run_bind, e2]
        rfl
      · cases hn
    · cases hn
  · rename_i T x hop
    split at hn
    · rename_i x' hx
      obtain ⟨w', ρ', h1, h2, h3, h4, h5⟩ := rangeS_s h hn
      refine ⟨w', ρ', .value (v.den ρ'), ?_, .inl rfl, h2, h3, h4, h5⟩
      unfold execOp
      rw [hop]
      simp only [ev_s hs.tm hx]
      rw [Sem.run_bind, h1]
      rfl
    · cases hn
  · rename_i x hop
    split at hn
    · rename_i x' hx
      obtain ⟨w', h1, h2, h3, h4⟩ := nextS_s (ty := o.type) h hn
      subst h2
      refine ⟨w', ρ, .value (v.den ρ), ?_, .inl rfl, Agr.refl _ _, Nat.le_refl _, h3, h4⟩
      unfold execOp
      rw [hop]
      simp only [ev_s hs.tm hx]
      rw [Sem.run_bind, h1]
      rfl
    · cases hn
  · rename_i T ps hop
    split at hn
    · rename_i e hu hps
      split at hn
      · rename_i z hz
        injection hn with hn
        injection hn with h1 hn
        injection hn with h2 h3
        subst h1 h2 h3
        have e0 : (SN.v nx).den (updR ρ nx (fun _ => w.heap.size)) = w.heap.size := v_new ρ nx _
        have hps : ps = #[] := Array.toList_inj.1 hps
        refine ⟨_, _, .value (SV.den (updR ρ nx (fun _ => w.heap.size)) (.e (.c (.slice (some (.v nx, 0)) 0 ⟨0, none⟩)))), ?_, .inl rfl, updR_agr ρ nx _, Nat.le_succ _, ?_, h.new e [] rfl⟩
        · unfold execOp
          rw [hop]
          have hsz := szT_s hz w
          simp [Instr.buildSlice, run_underlying hu, hsz, hps, Instr.fill, newRow, Result.andThen, SV.den, SE.den, SC.den, SG.den, SK.den, pden, e0, dens, Array.range_zero']
        · show (lt (nx + 1) nx && true) = true
          rw [lt_self]
          rfl
      · cases hn
    · cases hn
  · rename_i c hop
    split at hn
    · rename_i x hc hargs
      have ha : c.args.map a.eval = #[a.eval x] := by
        rw [← Array.toList_inj]; simp [hargs]
      split at hn
      · rename_i p m c' hx
        injection hn with hn
        injection hn with h1 hn
        injection hn with h2 h3
        subst h1 h2 h3
        have hal := ev_al hs hx
        refine ⟨w, ρ, .value ((SV.e (.c (.ptr (some p)))).den ρ), ?_, .inl rfl, Agr.refl _ _, Nat.le_refl _, ?_, h⟩
        · rw [run_builtin X.P a o c .unsafeSliceData hop hc, ha, ev_s hs.tm hx]
          simp only [builtin]
          have := Lib.run_unsafeSliceData_row (P := X.P) w c.argTypes o.type (pden ρ p) (m + 1) (m + 1 + c'.den ρ) (by omega)
          rw [Sem.run_bind]
          refine (congrArg (fun r => Result.andThen r _) this).trans ?_
          rfl
        · have hal : (p.1.al (lt nx) && c'.al (lt nx)) = true := hal
          rw [Bool.and_eq_true] at hal
          exact hal.1
      · cases hn
    · rename_i p m pt it hc hargs hats
      have ha : c.args.map a.eval = #[a.eval p, a.eval m] := by
        rw [← Array.toList_inj]; simp [hargs]
      have hat : c.argTypes = #[pt, it] := Array.toList_inj.1 hats
      split at hn
      · rename_i p' m' hp' hm'
        obtain ⟨w', h1, h2, h3, h4⟩ := unsS_s (it := it) (ty := o.type) h hn
        subst h2
        refine ⟨w', ρ, .value (v.den ρ), ?_, .inl rfl, Agr.refl _ _, Nat.le_refl _, h3, h4⟩
        rw [run_builtin X.P a o c .unsafeString hop hc, ha, hat, ev_s hs.tm hp', ev_s hs.tm hm']
        simp only [builtin]
        rw [Sem.run_bind, h1]
        rfl
      · cases hn
    · cases hn
  · cases hn
end
end Kex
