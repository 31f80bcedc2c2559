/- Text appended, copies, cleared rows, bytes of text; what any operation that writes makes of a state. Over any program; no conditions but the room. -/
import Derived.Test.YtbfhpgpceakeiaaGreatDoorKexF
import Derived.Lib.AppendZeros
namespace Kex
open Go Go.RowKit Kin

/-- copy from a slice -/
def copyS (P : Program) (Ps L : List SF) (nx : Nat) (t : TypeId) (s x : SV) : Option (SV × List SF × Nat) := match P.underlying t with
  | some (.slice e) => match szT P e with
    | some m => match srcC Ps L m x, s with
      | some (k, news), .e (.c (.slice (some (g, o)) n _)) => match wrAt L g o (news.take (Nat.min k n * m)) with
        | some L' => some (.e (.c (.int .i64 ((Nat.min k n : Nat) : Int))), L', nx)
        | none => none
      | _, _ => none
    | none => none
  | _ => none
section
variable {X : Cx} {ρ : Rho} {L : List SF} {n nx : Nat} {sl : TS} {a : Act} {w : World}
theorem copyS_s (h : Hp X ρ L nx w) {t u ty : TypeId} {s x : SV} {v : SV} {L' : List SF} {nx' : Nat} (ha : copyS X.P X.Ps L nx t s x = some (v, L', nx')) :
    ∃ w', (Builtin.copy_ #[t, u] ty #[s.den ρ, x.den ρ]).run X.P w = .ok (v.den ρ) w' ∧ nx = nx' ∧ v.al (lt nx') = true ∧ Hp X ρ L' nx' w' := by
  unfold copyS at ha
  split at ha
  · rename_i e hu
    split at ha
    · rename_i m hm
      split at ha
      · rename_i k news g o n c hsrc
        split at ha
        · rename_i L2 hwr
          injection ha with ha
          injection ha with h1 ha
          injection ha with h2 h3
          subst h1 h2 h3
          obtain ⟨hal, hlen, hx⟩ := srcC_s h hsrc
          obtain ⟨w', hst, hh⟩ := wrAt_s h hwr (by rw [List.all_eq_true] at *; exact fun y hy => hal y (List.mem_of_mem_take hy))
          refine ⟨w', ?_, rfl, rfl, hh⟩
          have hle : Nat.min k n * m ≤ k * m := Nat.mul_le_mul_right _ (Nat.min_le_left _ _)
          have hdl : (dens ρ (news.take (Nat.min k n * m))).length = Nat.min k n * m := by
            rw [dens_len, List.length_take, hlen, Nat.min_eq_left hle]
          have hsz := szT_s hm w
          rcases hx with ⟨c2, hx, hk⟩ | ⟨a', cx, hx, hsp, hcells⟩
          · subst hk
            have hz : (dens ρ (news.take (Nat.min 0 n * m))) = [] := by
              apply List.eq_nil_of_length_eq_zero
              rw [hdl]
              simp
            rw [hz] at hst
            rw [hx]
            show (Builtin.copy_ #[t, u] ty #[.slice (some ⟨g.den ρ, o, none⟩) n (n + c.den ρ), .slice none 0 c2]).run X.P w = .ok (.int .i64 ((Nat.min 0 n : Nat) : Int)) w'
            have hf : (Builtin.firstCells m (Nat.min 0 n) (.slice none 0 c2)).run X.P w = .ok #[] w := by simp [Builtin.firstCells]
            simp [Builtin.copy_, run_underlying hu, hsz, Builtin.lenOf, hst, Result.andThen, goInt, Builtin.firstCells]
          · have hf := run_firstCells_some (P := X.P) w m (Nat.min k n) a' k cx (dens ρ (news.take (Nat.min k n * m))) hdl (fun j u hu => by
              rw [dens_take, List.getElem?_take] at hu
              split at hu
              · exact hcells j u hu
              · cases hu)
            rw [hx]
            show (Builtin.copy_ #[t, u] ty #[.slice (some ⟨g.den ρ, o, none⟩) n (n + c.den ρ), .slice (some a') k cx]).run X.P w = .ok (.int .i64 ((Nat.min k n : Nat) : Int)) w'
            unfold Builtin.copy_
            simp [run_underlying hu, hsz, Builtin.lenOf, hf, hst, Result.andThen, goInt]
        · cases ha
      · cases ha
    · cases ha
  · cases ha
/-- clear of a slice -/
def clearS (P : Program) (L : List SF) (nx : Nat) (t : TypeId) (s : SV) : Option (SV × List SF × Nat) := match P.underlying t, s with
  | some (.slice e), .e (.c (.slice (some (g, o)) (n + 1) _)) => match zcells P e with
    | some z => match wrAt L g o (repl z (n + 1)) with
      | some L' => some (.t [], L', nx)
      | none => none
    | none => none
  | some (.slice _), .e (.c (.slice _ 0 _)) => some (.t [], L, nx)
  | some (.slice _), .e (.c (.emp _ _ _)) => some (.t [], L, nx)
  | _, _ => none
theorem repl_al {p : SC → Bool} {z : List SC} (h : z.all p = true) : ∀ n, (repl z n).all p = true
  | 0 => rfl
  | n + 1 => by
    show (z ++ repl z n).all p = true
    rw [List.all_append, h, repl_al h n]
    rfl
theorem zcells_al {p : Nat → Bool} {P : Program} {T : TypeId} {z : List SC} (h : zcells P T = some z) : z.all (SC.al p) = true := by
  unfold zcells at h
  split at h
  · split at h
    · exact ofCs_al h
    · cases h
  · cases h
theorem clearS_s (h : Hp X ρ L nx w) {t ty : TypeId} {s : SV} {v : SV} {L' : List SF} {nx' : Nat} (ha : clearS X.P L nx t s = some (v, L', nx')) :
    ∃ w', (Builtin.clear_ #[t] ty #[s.den ρ]).run X.P w = .ok (v.den ρ) w' ∧ nx = nx' ∧ v.al (lt nx') = true ∧ Hp X ρ L' nx' w' := by
  unfold clearS at ha
  split at ha
  · rename_i e g o n c hu
    split at ha
    · rename_i z hz
      split at ha
      · rename_i L2 hwr
        injection ha with ha
        injection ha with h1 ha
        injection ha with h2 h3
        subst h1 h2 h3
        obtain ⟨w', hst, hh⟩ := wrAt_s h hwr (repl_al (zcells_al hz) _)
        refine ⟨w', ?_, rfl, rfl, hh⟩
        obtain ⟨i, zv, hi, hzv, hc⟩ := zcells_s (ρ := ρ) hz
        have hrep := repl_s zv.cells (fun l n => Nat.rec (motive := fun _ => List Value) [] (fun _ r => l ++ r) n) (fun _ => rfl) (fun _ _ => rfl) (n + 1)
        have e2 : (Builtin.zeroCells zv.cells (n + 1)).toList = dens ρ (repl z (n + 1)) := by
          unfold Builtin.zeroCells
          rw [hrep, repl_dens, show dens ρ z = zv.cells.toList by rw [hc]]
        show (Builtin.clear_ #[t] ty #[.slice (some ⟨g.den ρ, o, none⟩) (n + 1) (n + 1 + c.den ρ)]).run X.P w = .ok (.tuple #[]) w'
        simp [Builtin.clear_, run_underlying hu, zeroValue, typeInfo, hi, hzv, e2, hst, Result.andThen]
      · cases ha
    · cases ha
  · rename_i e A c hu
    injection ha with ha
    injection ha with h1 ha
    injection ha with h2 h3
    subst h1 h2 h3
    refine ⟨w, ?_, rfl, rfl, h⟩
    show (Builtin.clear_ #[t] ty #[.slice (A.map (pden ρ)) 0 (0 + c.den ρ)]).run X.P w = .ok (.tuple #[]) w
    cases A <;> simp [Builtin.clear_, run_underlying hu]
  · rename_i e g o c hu
    injection ha with ha
    injection ha with h1 ha
    injection ha with h2 h3
    subst h1 h2 h3
    refine ⟨w, ?_, rfl, rfl, h⟩
    show (Builtin.clear_ #[t] ty #[.slice (some ⟨g.den ρ, o.den ρ, none⟩) 0 (c.den ρ)]).run X.P w = .ok (.tuple #[]) w
    simp [Builtin.clear_, run_underlying hu]
  · cases ha
/-- append of zeros to none -/
def appZ (P : Program) (L : List SF) (nx : Nat) (t u : TypeId) (s x : SV) : Option (SV × List SF × Nat) := match P.underlying t, P.underlying u, s, x with
  | some (.slice e), some (.int _), .e (.c (.slice none 0 ⟨0, none⟩)), .e (.c (.int _ (.ofNat (n + 1)))) => match P.info? e, zcells P e with
    | some i, some z => match Nat.beq z.length i.size && Nat.blt 0 i.size && roomy (n + 1) i.bytes with
      | true => some (.e (.c (.slice (some (.v nx, 0)) (n + 1) ⟨0, some (nx + 1)⟩)), .gro (.v nx) e i.size (n + 1) ⟨0, some (nx + 1)⟩ (repl z (n + 1)) :: L, nx + 2)
      | false => none
    | _, _ => none
  | _, _, _, _ => none
theorem repl_len (z : List SC) : ∀ n, (repl z n).length = n * z.length
  | 0 => by rw [Nat.zero_mul]; rfl
  | n + 1 => by
    show (z ++ repl z n).length = _
    rw [List.length_append, repl_len z n, Nat.succ_mul, Nat.add_comm]
theorem zeros_repl {ρ : Rho} {z : List SC} {zv : Value} (hc : zv.cells = (dens ρ z).toArray) (n : Nat) : (Builtin.zeroCells zv.cells n).toList = dens ρ (repl z n) := by
  have hrep := repl_s zv.cells (fun l n => Nat.rec (motive := fun _ => List Value) [] (fun _ r => l ++ r) n) (fun _ => rfl) (fun _ _ => rfl) n
  unfold Builtin.zeroCells
  rw [hrep, repl_dens, show dens ρ z = zv.cells.toList by rw [hc]]
theorem appZ_s (h : Hp X ρ L nx w) {t u ty : TypeId} {s x : SV} {v : SV} {L' : List SF} {nx' : Nat} (ha : appZ X.P L nx t u s x = some (v, L', nx')) :
    ∃ w' ρ', (Builtin.append_ #[t, u] ty #[s.den ρ, x.den ρ]).run X.P w = .ok (v.den ρ') w' ∧ Agr nx ρ ρ' ∧ nx ≤ nx' ∧ v.al (lt nx') = true ∧ Hp X ρ' L' nx' w' := by
  unfold appZ at ha
  split at ha
  · rename_i e kn kk n hu hun
    split at ha
    · rename_i i z hi hz
      split at ha
      · rename_i hb
        rw [Bool.and_eq_true, Bool.and_eq_true] at hb
        have hzl := Nat.eq_of_beq_eq_true hb.1.1
        have hpos : 0 < i.size := Nat.blt_eq ▸ hb.1.2
        obtain ⟨hby, hsm⟩ := roomy_s hb.2
        injection ha with ha
        injection ha with h1 ha
        injection ha with h2 h3
        subst h1 h2 h3
        obtain ⟨i', zv, hi', hzv, hc⟩ := zcells_s (ρ := ρ) hz
        rw [hi] at hi'
        injection hi' with hi'
        subst hi'
        have hzs : zv.cells.size = i.size := by rw [hc]; simp [dens, hzl]
        have hrun := Lib.run_append_nil_zeros (P := X.P) w t u ty e i zv kk kn hu hun hi hzv (n + 1) (by omega) hpos (by omega) (by omega)
        have hge := grownCap_ge w (n + 1) 0 e
        have hz2 := zeros_repl hc (n + 1)
        have hl2 : (dens ρ (repl z (n + 1))).length = (n + 1) * i.size := by rw [dens_len, repl_len, hzl]
        refine ⟨_, updR ρ nx (two w.heap.size (grownCap w (n + 1) 0 e - (n + 1))), ?_, updR_agr ρ nx _, by omega, two_al nx, h.grow0 (t := e) (m := i.size) (n := n + 1) (repl_al (zcells_al hz) _) ?_ (((Below.refl _ w).drew).alloc (Nat.le_refl _) (.cells (Builtin.zeroCells zv.cells (n + 1) ++ Builtin.zeroCells zv.cells (grownCap w (n + 1) 0 e - (n + 1))) e)) (Nat.le_refl _)⟩
        · show (Builtin.append_ #[t, u] ty #[.slice none 0 0, .int kk ((n + 1 : Nat) : Int)]).run X.P w = .ok (.slice (some ⟨(SN.v nx).den _, 0, none⟩) (n + 1) (n + 1 + SK.den _ ⟨0, some (nx + 1)⟩)) _
          rw [(v_two ρ nx w.heap.size (grownCap w (n + 1) 0 e - (n + 1))).1, k_two, Nat.add_sub_cancel' hge]
          exact hrun
        · refine ⟨_, (0, 0), heap_alloc_new w.drew _, .inl rfl, hl2, ?_, ?_, ?_⟩
          · rw [Array.size_append, size_zeroCells, size_zeroCells, hzs, ← Nat.add_mul]
          · rw [Nat.add_sub_cancel' hge]
            exact grownCap_le_maxLen w (n + 1) 0 e (by unfold maxLen; omega)
          · rw [Array.toList_append, hz2, List.take_left]
      · cases ha
    · cases ha
  · cases ha
/-- bytes of text -/
def strB (P : Program) (L : List SF) (nx : Nat) (src dst : TypeId) (x : SV) : Option (SV × List SF × Nat) := match P.underlying src, P.underlying dst, x with
  | some .string, some (.slice e), .e (.c (.str s)) => match P.underlying e, Nat.ble s.size 16777216 with
    | some (.int .u8), true => some (.e (.c (.slice (some (.v nx, 0)) s.size ⟨0, some (nx + 1)⟩)), .gro (.v nx) e 1 s.size ⟨0, some (nx + 1)⟩ (strC s) :: L, nx + 2)
    | _, _ => none
  | _, _, _ => none
theorem strB_s (h : Hp X ρ L nx w) {src dst : TypeId} {x : SV} {v : SV} {L' : List SF} {nx' : Nat} (ha : strB X.P L nx src dst x = some (v, L', nx')) :
    ∃ w' ρ', (convert src dst (x.den ρ)).run X.P w = .ok (v.den ρ') w' ∧ Agr nx ρ ρ' ∧ nx ≤ nx' ∧ v.al (lt nx') = true ∧ Hp X ρ' L' nx' w' := by
  unfold strB at ha
  split at ha
  · rename_i e s hs hd
    split at ha
    · rename_i he hsz
      injection ha with ha
      injection ha with h1 ha
      injection ha with h2 h3
      subst h1 h2 h3
      have hrun := run_bytes_of_string (P := X.P) w src dst e s hs hd he
      have hge := grownCap_ge w s.size 0 e
      have hlen : (dens ρ (strC s)).length = s.size * 1 := by
        rw [strC_den, Nat.mul_one]
        show (List.map _ _).length = _
        rw [List.length_map]
        rfl
      have hbr : (bytesRow s (grownCap w s.size 0 e)).toList = dens ρ (strC s) ++ List.replicate (grownCap w s.size 0 e - s.size) (.int .u8 0) := by
        rw [strC_den]
        unfold bytesRow B8
        simp
      have hbs : (bytesRow s (grownCap w s.size 0 e)).size = grownCap w s.size 0 e := by
        rw [← Array.length_toList, hbr, List.length_append, hlen, List.length_replicate]
        omega
      refine ⟨w.drew.alloc (.cells (bytesRow s (grownCap w s.size 0 e)) e ((bytesRow s (grownCap w s.size 0 e)).size, (bytesRow s (grownCap w s.size 0 e)).size + 1)), updR ρ nx (two w.heap.size (grownCap w s.size 0 e - s.size)), ?_, updR_agr ρ nx _, by omega, two_al nx, h.grow0 (strC_al _ s) ?_ (((Below.refl _ w).drew).alloc (Nat.le_refl _) _) (Nat.le_refl _)⟩
      · show (convert src dst (.string s)).run X.P w = .ok (.slice (some ⟨(SN.v nx).den _, 0, none⟩) s.size (s.size + SK.den _ ⟨0, some (nx + 1)⟩)) _
        rw [(v_two ρ nx w.heap.size (grownCap w s.size 0 e - s.size)).1, k_two, Nat.add_sub_cancel' hge]
        exact hrun
      · refine ⟨_, _, heap_alloc_new w.drew _, .inr (Nat.le_refl _), hlen, ?_, ?_, ?_⟩
        · rw [hbs, Nat.add_sub_cancel' hge, Nat.mul_one]
        · rw [Nat.add_sub_cancel' hge]
          exact grownCap_le_maxLen w s.size 0 e (by have := Nat.le_of_ble_eq_true hsz; unfold maxLen; omega)
        · rw [hbr, List.take_left]
    · cases ha
  · cases ha
end
/-- an operation that writes -/
def effOp (P : Program) (Ps L : List SF) (sl : TS) (nx : Nat) (op : Op) : Option (SV × List SF × Nat) := match op with
  | .store T p x => match stOp P L sl (.store T p x) with
    | some L' => some (.t [], L', nx)
    | none => none
  | .makeMap T r => mapOp P Ps L sl nx (.makeMap T r)
  | .mapUpdate T m k x => mapOp P Ps L sl nx (.mapUpdate T m k x)
  | .convert src dst x => match ev sl x with
    | some x => strB P L nx src dst x
    | none => none
  | .call c => match c.callee, c.args.toList, c.argTypes.toList with
    | .builtin .append, [s, x], [t, u] => match ev sl s, ev sl x with
      | some s, some x => match appS P Ps L nx t u s x with
        | some r => some r
        | none => appZ P L nx t u s x
      | _, _ => none
    | .builtin .copy, [s, x], [t, _] => match ev sl s, ev sl x with
      | some s, some x => copyS P Ps L nx t s x
      | _, _ => none
    | .builtin .clear, [s], [t] => match ev sl s with
      | some s => clearS P L nx t s
      | none => none
    | .builtin .len, _, _ => mapOp P Ps L sl nx (.call c)
    | _, _, _ => none
  | op => match newOp P sl nx op with
    | some (T, xs, v) => match xs.all (SC.al (lt nx)) with
      | true => some (.e v, .blk (.v nx) T xs :: L, nx + 1)
      | false => none
    | none => none
section
variable {X : Cx} {ρ : Rho} {L : List SF} {n nx : Nat} {sl : TS} {a : Act} {w : World}
theorem run_builtin (P : Program) (a : Act) (o : Oper) (c : Call) (b : Builtin) (hop : o.op = .call c) (hc : c.callee = .builtin b) (w : World) :
    (execOp a.eval o).run P w = (builtin b c.argTypes o.type (c.args.map fun | .const _ => true | _ => false) (c.args.map a.eval)).run P w := by
  unfold execOp
  rw [hop]
  simp only [resolve, hc]
  rfl
theorem effOp_s (h : Hp X ρ L nx w) (hs : Sl ρ n sl nx a) {o : Oper} {v : SV} {L' : List SF} {nx' : Nat} (hn : effOp X.P X.Ps L sl nx o.op = some (v, L', nx')) : Eff X ρ nx a w o v L' nx' := by
  unfold effOp at hn
  split at hn
  · rename_i T p x hop
    split at hn
    · rename_i L2 hst
      injection hn with hn
      injection hn with h1 hn
      injection hn with h2 h3
      subst h1 h2 h3
      exact stOp_s h hs (by rw [hop]; exact hst)
    · cases hn
  · rename_i T r hop
    exact mapOp_s h hs (by rw [hop]; exact hn)
  · rename_i T m k x hop
    exact mapOp_s h hs (by rw [hop]; exact hn)
  · rename_i src dst x hop
    split at hn
    · rename_i x' hx
      obtain ⟨w', ρ', h1, h2, h3, h4, h5⟩ := strB_s h hn
      refine ⟨w', ρ', .value (v.den ρ'), ?_, .inl rfl, h2, h3, h4, h5⟩
      unfold execOp
      rw [hop]
      simp only [ev_s hs.tm hx]
      rw [Sem.run_bind, h1]
      rfl
    · cases hn
  · rename_i c hop
    split at hn
    · rename_i s x t u hc hargs hats
      have ha : c.args.map a.eval = #[a.eval s, a.eval x] := by
        rw [← Array.toList_inj]; simp [hargs]
      have hat : c.argTypes = #[t, u] := Array.toList_inj.1 hats
      split at hn
      · rename_i s' x' hs' hx'
        have key : ∃ w' ρ', (Builtin.append_ #[t, u] o.type #[s'.den ρ, x'.den ρ]).run X.P w = .ok (v.den ρ') w' ∧ Agr nx ρ ρ' ∧ nx ≤ nx' ∧ v.al (lt nx') = true ∧ Hp X ρ' L' nx' w' := by
          split at hn
          · rename_i r hr
            injection hn with hn
            subst hn
            exact appS_s (ty := o.type) h (ev_al hs hs') hr
          · exact appZ_s (ty := o.type) h hn
        obtain ⟨w', ρ', h1, h2, h3, h4, h5⟩ := key
        refine ⟨w', ρ', .value (v.den ρ'), ?_, .inl rfl, h2, h3, h4, h5⟩
        rw [run_builtin X.P a o c .append hop hc, ha, hat, ev_s hs.tm hs', ev_s hs.tm hx']
        simp only [builtin]
        rw [Sem.run_bind, h1]
        rfl
      · cases hn
    · rename_i s x t u hc hargs hats
      have ha : c.args.map a.eval = #[a.eval s, a.eval x] := by
        rw [← Array.toList_inj]; simp [hargs]
      have hat : c.argTypes = #[t, u] := Array.toList_inj.1 hats
      split at hn
      · rename_i s' x' hs' hx'
        obtain ⟨w', h1, h2, h3, h4⟩ := copyS_s (u := u) (ty := o.type) h hn
        subst h2
        refine ⟨w', ρ, .value (v.den ρ), ?_, .inl rfl, Agr.refl _ _, Nat.le_refl _, h3, h4⟩
        rw [run_builtin X.P a o c .copy hop hc, ha, hat, ev_s hs.tm hs', ev_s hs.tm hx']
        simp only [builtin]
        rw [Sem.run_bind, h1]
        rfl
      · cases hn
    · rename_i s t hc hargs hats
      have ha : c.args.map a.eval = #[a.eval s] := by
        rw [← Array.toList_inj]; simp [hargs]
      have hat : c.argTypes = #[t] := Array.toList_inj.1 hats
      split at hn
      · rename_i s' hs'
        obtain ⟨w', h1, h2, h3, h4⟩ := clearS_s (ty := o.type) h hn
        subst h2
        refine ⟨w', ρ, .value (v.den ρ), ?_, .inl rfl, Agr.refl _ _, Nat.le_refl _, h3, h4⟩
        rw [run_builtin X.P a o c .clear hop hc, ha, hat, ev_s hs.tm hs']
        simp only [builtin]
        rw [Sem.run_bind, h1]
        rfl
      · cases hn
    · exact mapOp_s h hs (by rw [hop]; exact hn)
    · cases hn
  · split at hn
    · rename_i T xs v' hno
      split at hn
      · rename_i hal
        injection hn with hn
        injection hn with h1 hn
        injection hn with h2 h3
        subst h1 h2 h3
        exact newOp_s h hs hno hal
      · cases hn
    · cases hn
end
end Kex
