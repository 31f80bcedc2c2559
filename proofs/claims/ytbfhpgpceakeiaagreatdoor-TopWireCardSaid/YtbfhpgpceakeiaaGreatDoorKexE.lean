/- What an operation that writes makes of a state: new blocks, stores, maps. Over any program; no conditions but the room. -/
import Derived.Test.YtbfhpgpceakeiaaGreatDoorKexD
import Derived.Laws.MakeOwn
import Derived.WideMake
namespace Kex
open Go Go.RowKit Kin

/-- an operation was run: a value, facts told anew, names taken -/
def Eff (X : Cx) (ρ : Rho) (nx : Nat) (a : Act) (w : World) (o : Oper) (v : SV) (L' : List SF) (nx' : Nat) : Prop :=
  ∃ w' ρ' nxt, (execOp a.eval o).run X.P w = .ok nxt w' ∧ (nxt = .value (v.den ρ') ∨ (nxt = .skip ∧ v = .t [])) ∧ Agr nx ρ ρ' ∧ nx ≤ nx' ∧ v.al (lt nx') = true ∧ Hp X ρ' L' nx' w'
theorem zcells_s {P : Program} {ρ : Rho} {T : TypeId} {z : List SC} (h : zcells P T = some z) : ∃ i v, P.info? T = some i ∧ i.zero = some v ∧ v.cells = (dens ρ z).toArray := by
  unfold zcells at h
  split at h
  · rename_i i hi
    split at h
    · rename_i v hv
      exact ⟨i, v, hi, hv, by rw [ofCs_s h]⟩
    · cases h
  · cases h
theorem dens_one (ρ : Rho) (xs : List SC) : ∀ v ∈ dens ρ xs, v.oneCell' = true := by
  unfold dens
  intro v hv
  obtain ⟨x, _, rfl⟩ := List.mem_map.1 hv
  cases x <;> rfl
theorem dens_len (ρ : Rho) (xs : List SC) : (dens ρ xs).length = xs.length := by unfold dens; rw [List.length_map]
theorem dens_app (ρ : Rho) (xs ys : List SC) : dens ρ (xs ++ ys) = dens ρ xs ++ dens ρ ys := by unfold dens; rw [List.map_append]
theorem dens_take (ρ : Rho) (n : Nat) (xs : List SC) : dens ρ (xs.take n) = (dens ρ xs).take n := by unfold dens; rw [List.map_take]
theorem dens_drop (ρ : Rho) (n : Nat) (xs : List SC) : dens ρ (xs.drop n) = (dens ρ xs).drop n := by unfold dens; rw [List.map_drop]
theorem ecells_den (ρ : Rho) (v : SE) : (v.den ρ).cells = (dens ρ (ecells v)).toArray := ecells_s (fun y _ => SC.den_cell y)
theorem all_ecells {p : Nat → Bool} {v : SE} (h : v.al p = true) : (ecells v).all (SC.al p) = true := by
  cases v with
  | c x => show (SC.al p x && true) = true; rw [Bool.and_true]; exact h
  | a xs => exact h
theorem all_dropA {p : SF → Bool} {is : List Nat} : ∀ {L : List SF} {n : Nat}, L.all p = true → (dropA is n L).all p = true
  | [], _, _ => rfl
  | f :: L, n, h => by
    rw [List.all_cons, Bool.and_eq_true] at h
    unfold dropA
    split
    · exact all_dropA h.2
    · rw [List.all_cons, h.1, Bool.true_and]
      exact all_dropA h.2
theorem nth_map {ρ : Rho} {L : List SF} {i : Nat} {f : SF} (h : L[i]? = some f) : nth (L.map (SF.den ρ)) i = some (f.den ρ) := by
  rw [nth_eq, List.getElem?_map, h]
  rfl
theorem v_new (ρ : Rho) (nx : Nat) (f : Nat → Nat) : (SN.v nx).den (updR ρ nx f) = f 0 := updR_at ρ nx f 0
theorem lt_self (nx : Nat) : lt (nx + 1) nx = true := lt_iff.2 (Nat.lt_succ_self nx)
section
variable {X : Cx} {ρ : Rho} {L : List SF} {nx : Nat} {w : World}
/-- a new block -/
theorem Hp.new (h : Hp X ρ L nx w) (T : TypeId) (xs : List SC) (hx : xs.all (SC.al (lt nx)) = true) :
    Hp X (updR ρ nx (fun _ => w.heap.size)) (.blk (.v nx) T xs :: L) (nx + 1) (w.alloc (.cells (dens ρ xs).toArray T)) := by
  refine h.re (updR_agr ρ nx _) (Nat.le_succ _) ?_ ?_
  · rw [List.all_cons, Bool.and_eq_true]
    refine ⟨?_, SFs_mono (lt_mono (Nat.le_succ _)) h.fl⟩
    show (lt (nx + 1) nx && xs.all (SC.al (lt (nx + 1)))) = true
    rw [lt_self, Bool.true_and]
    exact SCs_mono (lt_mono (Nat.le_succ _)) hx
  · rw [List.map_cons, reL h (updR_agr ρ nx _)]
    have hs := h.st.alloc T (dens ρ xs).toArray (g := w.heap.size) rfl
    have e1 : SF.den (updR ρ nx (fun _ => w.heap.size)) (.blk (.v nx) T xs) = Fac.blk w.heap.size T (dens ρ xs).toArray := by
      simp only [SF.den]
      rw [v_new, dens_al (updR_agr ρ nx _) hx]
    rw [e1]
    exact hs
end
/-- the room for the cells of a slice that is written out -/
def repl (z : List SC) : Nat → List SC
  | 0 => []
  | n + 1 => z ++ repl z n
theorem repl_s {α : Type} [Inhabited α] (z : Array α) (r : List α → Nat → List α) (h0 : ∀ l, r l 0 = []) (h1 : ∀ l n, r l (n + 1) = l ++ r l n) : ∀ n, (Array.range (n * z.size)).map (z[· % z.size]!) = (r z.toList n).toArray := by
  have key : ∀ n, ∀ i, (hi : i < n * z.size) → (r z.toList n)[i]? = some (z[i % z.size]!) := by
    intro n
    induction n with
    | zero => intro i hi; simp at hi
    | succ n ih =>
      intro i hi
      rw [h1]
      by_cases hl : i < z.size
      · rw [List.getElem?_append_left (by simpa using hl), Nat.mod_eq_of_lt hl]
        simp [hl]
      · rw [List.getElem?_append_right (by simpa using hl)]
        have hn : z.toList.length = z.size := by simp
        rw [hn, ih (i - z.size) (by rw [Nat.succ_mul] at hi; omega)]
        congr 2
        rw [Nat.mod_eq_sub_mod (Nat.le_of_not_lt hl)]
  intro n
  have hlen : ∀ n, (r z.toList n).length = n * z.size := by
    intro n
    induction n with
    | zero => rw [h0]; simp
    | succ n ih => rw [h1, List.length_append, ih, Nat.succ_mul]; simp; omega
  apply Array.ext
  · simp [hlen n]
  · intro i hi1 hi2
    have hi : i < n * z.size := by simpa using hi1
    have := key n i hi
    simp at hi1 hi2
    rw [List.getElem?_eq_getElem hi2] at this
    injection this with this
    simp [this]
theorem repl_dens {ρ : Rho} (z : List SC) : ∀ n, dens ρ (repl z n) = (fun l n => Nat.rec (motive := fun _ => List Value) [] (fun _ r => l ++ r) n) (dens ρ z) n
  | 0 => rfl
  | n + 1 => by
    have := repl_dens (ρ := ρ) z n
    unfold repl
    simp only [dens, List.map_append] at this ⊢
    rw [this]
/-- operations that make a new block -/
def newOp (P : Program) (sl : TS) (b : Nat) : Op → Option (TypeId × List SC × SE)
  | .alloc T => match zcells P T with
    | some z => some (T, z, .c (.ptr (some (.v b, 0))))
    | none => none
  | .box T x => match ev sl x with
    | some (.e v) => some (T, ecells v, .c (.ptr (some (.v b, 0))))
    | _ => none
  | .buildSlice T n ps => match P.underlying T, parts sl ps.toList with
    | some (.slice e), some r => match zcells P e, szT P e with
      | some z, some k => match Nat.ble (n * k) 16777216 && Nat.blt 0 (n * k) && Nat.beq z.length k with
        | true => match fillS (fun i => some (i * k, k)) (repl z n) r with
          | some xs => some (e, xs, .c (.slice (some (.v b, 0)) n ⟨0, none⟩))
          | none => none
        | false => none
      | _, _ => none
    | _, _ => none
  | .makeSlice T l c => match ev sl l, ev sl c, P.underlying T with
    | some (.e (.c (.int _ (.ofNat l)))), some (.e (.c (.int _ (.ofNat c)))), some (.slice e) => match zcells P e, P.info? e with
      | some z, some i => match Nat.ble (i.bytes * c) 16777216 && Nat.ble l c && Nat.beq z.length i.size && Nat.ble c 16777216 with
        | true => some (e, repl z c, .c (.slice (some (.v b, 0)) l ⟨c - l, none⟩))
        | false => none
      | _, _ => none
    | _, _, _ => none
  | _ => none
section
variable {X : Cx} {ρ : Rho} {L : List SF} {n nx : Nat} {sl : TS} {a : Act} {w : World}
theorem newOp_s (h : Hp X ρ L nx w) (hs : Sl ρ n sl nx a) {o : Oper} {T : TypeId} {xs : List SC} {v : SE} (hn : newOp X.P sl nx o.op = some (T, xs, v)) (hx : xs.all (SC.al (lt nx)) = true) : Eff X ρ nx a w o (.e v) (.blk (.v nx) T xs :: L) (nx + 1) := by
  have e0 : (SN.v nx).den (updR ρ nx (fun _ => w.heap.size)) = w.heap.size := v_new ρ nx _
  suffices hq : (execOp a.eval o).run X.P w = .ok (.value (SV.den (updR ρ nx (fun _ => w.heap.size)) (.e v))) (w.alloc (.cells (dens ρ xs).toArray T)) ∧ (SV.e v).al (lt (nx + 1)) = true by
    exact ⟨_, _, _, hq.1, .inl rfl, updR_agr ρ nx _, Nat.le_succ _, hq.2, h.new T xs hx⟩
  unfold execOp
  cases hop : o.op <;> rw [hop] at hn <;> first | cases hn | simp only [newOp] at hn
  case alloc T' =>
    split at hn
    · rename_i z hz
      injection hn with hn
      injection hn with h1 hn
      injection hn with h2 h3
      subst h1 h2 h3
      obtain ⟨i, zv, hi, hzv, hc⟩ := zcells_s (ρ := ρ) hz
      refine ⟨?_, lt_self nx⟩
      simp [Instr.alloc, zeroValue, typeInfo, hi, hzv, newVar, newRow, hc, Result.andThen, SV.den, SE.den, SC.den, SG.den, pden, e0]
    · cases hn
  case box T' x =>
    split at hn
    · rename_i y hy
      injection hn with hn
      injection hn with h1 hn
      injection hn with h2 h3
      subst h1 h2 h3
      have hv := ev_s hs.tm hy
      have hb : (Instr.box T' (y.den ρ)).run X.P w = .ok (.pointer (some ⟨w.heap.size, 0, none⟩)) (w.alloc (.cells (dens ρ (ecells y)).toArray T')) := by
        simp [Instr.box, newVar, newRow, ecells_den, Result.andThen]
      refine ⟨?_, lt_self nx⟩
      simp only [hv, SV.den]
      rw [Sem.run_bind, hb]
      simp [Result.andThen, SE.den, SC.den, SG.den, pden, e0]
    · cases hn
  case buildSlice T' m ps =>
    split at hn
    · rename_i e r hu hp
      split at hn
      · rename_i z k hz hk
        split at hn
        · rename_i hb
          simp only [Bool.and_eq_true] at hb
          obtain ⟨⟨hb1, hb2⟩, hb3⟩ := hb
          have hb1 := Nat.le_of_ble_eq_true hb1
          have hb2 : 0 < m * k := Nat.blt_eq ▸ hb2
          have hb3 := Nat.eq_of_beq_eq_true hb3
          split at hn
          · rename_i ys hys
            injection hn with hn
            injection hn with h1 hn
            injection hn with h2 h3
            subst h1 h2 h3
            obtain ⟨i, zv, hi, hzv, hc⟩ := zcells_s (ρ := ρ) hz
            unfold szT at hk
            rw [hi] at hk
            injection hk with hk
            have hk : i.size = k := hk
            subst hk
            have hp2 := parts_s hs.tm hp
            have hzs : zv.cells.size = i.size := by rw [hc]; simp [dens, hb3]
            have hrep := repl_s zv.cells (fun l n => Nat.rec (motive := fun _ => List Value) [] (fun _ r => l ++ r) n) (fun _ => rfl) (fun _ _ => rfl) m
            rw [hzs] at hrep
            have hfill := fillS_s (ρ := ρ) hys
            rw [repl_dens] at hfill
            rw [show dens ρ z = zv.cells.toList by rw [hc]] at hfill
            rw [← hrep] at hfill
            have := run_buildSlice (P := X.P) w T' e m (ps.map fun (i, x) => (i, a.eval x)) (dens ρ ys).toArray i zv hu hi hzv (by simp at hb1 ⊢; omega) (by omega) (by
              rw [hzs]
              have : (ps.map fun (i, x) => (i, a.eval x)).toList = List.map (fun x => (x.1, x.2.den ρ)) r := by
                rw [Array.toList_map, ← hp2]
              rw [this]
              exact hfill)
            refine ⟨?_, by show (lt (nx + 1) nx && true) = true; rw [lt_self]; rfl⟩
            rw [Sem.run_bind, this]
            simp [Result.andThen, SV.den, SE.den, SC.den, SG.den, SK.den, pden]
          · cases hn
        · cases hn
      · cases hn
    · cases hn
  case makeSlice T' l c =>
    split at hn
    · rename_i kl ln kc cn e hl hcv hu
      split at hn
      · rename_i z i hz hi
        split at hn
        · rename_i hb
          simp only [Bool.and_eq_true] at hb
          obtain ⟨⟨⟨hb1, hb2⟩, hb3⟩, hb4⟩ := hb
          have hb1 := Nat.le_of_ble_eq_true hb1
          have hb2 := Nat.le_of_ble_eq_true hb2
          have hb3 := Nat.eq_of_beq_eq_true hb3
          have hb4 := Nat.le_of_ble_eq_true hb4
          injection hn with hn
          injection hn with h1 hn
          injection hn with h2 h3
          subst h1 h2 h3
          obtain ⟨i', zv, hi', hzv, hc⟩ := zcells_s (ρ := ρ) hz
          rw [hi] at hi'
          injection hi' with hi'
          subst hi'
          have hvl := ev_s hs.tm hl
          have hvc := ev_s hs.tm hcv
          have hzs : zv.cells.size = i.size := by rw [hc]; simp [dens, hb3]
          have hrep := repl_s zv.cells (fun l n => Nat.rec (motive := fun _ => List Value) [] (fun _ r => l ++ r) n) (fun _ => rfl) (fun _ _ => rfl) cn
          rw [hzs] at hrep
          have hbb : (i.bytes : Int) * (cn : Int) ≤ 281474976710656 := by
            have : ((i.bytes * cn : Nat) : Int) ≤ 281474976710656 := by omega
            rwa [Int.natCast_mul] at this
          have := run_make (P := X.P) w T' e i zv hu hi hzv kl kc ln cn (by omega) (by omega) hbb (by omega)
          refine ⟨?_, by show (lt (nx + 1) nx && true) = true; rw [lt_self]; rfl⟩
          simp only [hvl, hvc]
          have hm : madeCells zv.cells ((cn : Int).toNat * i.size) = (dens ρ (repl z cn)).toArray := by
            rw [repl_dens, show dens ρ z = zv.cells.toList by rw [hc], ← hrep]
            unfold madeCells
            rw [hzs, Int.toNat_natCast]
          rw [hm] at this
          rw [Sem.run_bind]
          have e2 : (Instr.makeSlice T' (SV.den ρ (.e (.c (.int kl (.ofNat ln))))) (SV.den ρ (.e (.c (.int kc (.ofNat cn)))))).run X.P w = .ok (.slice (some ⟨w.heap.size, 0, none⟩) (ln : Int).toNat (cn : Int).toNat) (w.alloc (.cells (dens ρ (repl z cn)).toArray e)) := this
          rw [e2]
          have e3 : ln + (cn - ln) = cn := by omega
          simp [Result.andThen, SV.den, SE.den, SC.den, SG.den, SK.den, pden, e3]
        · cases hn
      · cases hn
    · cases hn
end
/-- cells written over others -/
def ovr : List SC → List SC → Option (List SC)
  | cs, [] => some cs
  | [], _ :: _ => none
  | _ :: cs, x :: xs => match ovr cs xs with
    | some l => some (x :: l)
    | none => none
def wrL : List SC → Nat → List SC → Option (List SC)
  | cs, 0, xs => ovr cs xs
  | [], _ + 1, _ => none
  | c :: cs, o + 1, xs => match wrL cs o xs with
    | some l => some (c :: l)
    | none => none
theorem ovr_s : ∀ {cs xs out : List SC}, ovr cs xs = some out → xs.length ≤ cs.length ∧ out = xs ++ cs.drop xs.length
  | cs, [], out, h => by
    unfold ovr at h
    injection h with h
    subst h
    exact ⟨Nat.zero_le _, rfl⟩
  | [], _ :: _, _, h => by cases h
  | c :: cs, x :: xs, out, h => by
    unfold ovr at h
    split at h
    · rename_i l hl
      injection h with h
      subst h
      obtain ⟨h1, h2⟩ := ovr_s hl
      exact ⟨Nat.succ_le_succ h1, by rw [h2]; rfl⟩
    · cases h
theorem wrL_s : ∀ {cs : List SC} {o : Nat} {xs out : List SC}, wrL cs o xs = some out → o + xs.length ≤ cs.length ∧ out = cs.take o ++ xs ++ cs.drop (o + xs.length)
  | cs, 0, xs, out, h => by
    have h : ovr cs xs = some out := by cases cs <;> exact h
    obtain ⟨h1, h2⟩ := ovr_s h
    exact ⟨by omega, by rw [h2, Nat.zero_add]; rfl⟩
  | [], _ + 1, _, _, h => by cases h
  | c :: cs, o + 1, xs, out, h => by
    unfold wrL at h
    split at h
    · rename_i l hl
      injection h with h
      subst h
      obtain ⟨h1, h2⟩ := wrL_s hl
      exact ⟨by simp only [List.length_cons]; omega, by rw [h2, show o + 1 + xs.length = (o + xs.length) + 1 by omega]; rfl⟩
    · cases h
theorem all_wrL {p : SC → Bool} {cs : List SC} {o : Nat} {xs out : List SC} (h : wrL cs o xs = some out) (hc : cs.all p = true) (hx : xs.all p = true) : out.all p = true := by
  rw [(wrL_s h).2]
  rw [List.all_eq_true] at *
  intro x hm
  rcases List.mem_append.1 hm with hm | hm
  · rcases List.mem_append.1 hm with hm | hm
    · exact hc x (List.mem_of_mem_take hm)
    · exact hx x hm
  · exact hc x (List.mem_of_mem_drop hm)
theorem take_wr {α : Type} (cur xs : List α) (o k : Nat) (h : o + xs.length ≤ k) (hk : k ≤ cur.length) : (cur.take o ++ xs ++ cur.drop (o + xs.length)).take k = (cur.take k).take o ++ xs ++ (cur.take k).drop (o + xs.length) := by
  have e1 : (cur.take o ++ xs).length = o + xs.length := by
    rw [List.length_append, List.length_take, Nat.min_eq_left (by omega)]
  rw [List.take_append, e1, List.take_of_length_le (by rw [e1]; exact h), List.take_take, Nat.min_eq_left (by omega), List.drop_take]
def wrF : SF → Nat → List SC → Option SF
  | .blk g t cs, o, xs => match wrL cs o xs with
    | some cs => some (.blk g t cs)
    | none => none
  | .gro g t m n c cs, o, xs => match wrL cs o xs with
    | some cs => some (.gro g t m n c cs)
    | none => none
  | _, _, _ => none
/-- the facts with one written over -/
def wrAt (L : List SF) (g : SN) (o : Nat) (xs : List SC) : Option (List SF) := match findI g 0 L with
  | some (i, f) => match wrF f o xs with
    | some f' => some (f' :: dropA [i] 0 L)
    | none => none
  | none => none
section
variable {X : Cx} {ρ : Rho} {L : List SF} {n nx : Nat} {sl : TS} {a : Act} {w : World}
theorem wrAt_s (h : Hp X ρ L nx w) {g : SN} {o : Nat} {xs : List SC} {L' : List SF} (hw : wrAt L g o xs = some L') (hx : xs.all (SC.al (lt nx)) = true) : ∃ w', (storeCells ⟨g.den ρ, o, none⟩ (dens ρ xs)).run X.P w = .ok () w' ∧ Hp X ρ L' nx w' := by
  unfold wrAt at hw
  split at hw
  · rename_i i f hi
    split at hw
    · rename_i f' hf'
      injection hw with hw
      subst hw
      obtain ⟨j, hj, hat, hk⟩ := findI_at hi
      rw [Nat.zero_add] at hj
      subst hj
      have hfa := List.all_eq_true.1 h.fl f (List.mem_of_getElem? hat)
      have hnth := nth_map (ρ := ρ) hat
      unfold wrF at hf'
      split at hf'
      · rename_i g' t cs
        split at hf'
        · rename_i cs' hcs
          injection hf' with hf'
          subst hf'
          injection hk with hk
          subst hk
          obtain ⟨h1, h2⟩ := wrL_s hcs
          have hblk : Blk w (g'.den ρ) t (dens ρ cs).toArray := h.st.get i hnth
          have hst := h.st.setw i hnth (dens ρ cs').toArray
          rw [dropI_map] at hst
          have hrun := run_storeCells_at X.P (g'.den ρ) o t (dens ρ xs) 0 (dens ρ cs).toArray w hblk (by rw [dens_len]; simp [dens_len]; omega) (dens_one ρ xs)
          rw [Nat.add_zero, dens_len] at hrun
          have e : List.take o (dens ρ cs).toArray.toList ++ dens ρ xs ++ List.drop (o + xs.length) (dens ρ cs).toArray.toList = dens ρ cs' := by
            rw [h2, dens_app, dens_app, dens_take, dens_drop]
          rw [e] at hrun
          refine ⟨_, hrun, h.re (Agr.refl _ _) (Nat.le_refl _) ?_ hst⟩
          unfold SF.al at hfa
          rw [Bool.and_eq_true] at hfa
          rw [List.all_cons, Bool.and_eq_true]
          refine ⟨?_, all_dropA h.fl⟩
          show (g'.al (lt nx) && cs'.all (SC.al (lt nx))) = true
          rw [hfa.1, all_wrL hcs hfa.2 hx]
          rfl
        · cases hf'
      · rename_i g' t m n c cs
        split at hf'
        · rename_i cs' hcs
          injection hf' with hf'
          subst hf'
          injection hk with hk
          subst hk
          obtain ⟨h1, h2⟩ := wrL_s hcs
          obtain ⟨cur, fz, c1, cf, c2, c3, c4, c5⟩ : ∃ cur : Array Value, ∃ fz, w.heap[g'.den ρ]? = some (.cells cur t fz) ∧ Soft fz cur.size ∧ (dens ρ cs).length = n * m ∧ cur.size = (n + c.den ρ) * m ∧ n + c.den ρ ≤ maxLen ∧ cur.toList.take (dens ρ cs).length = dens ρ cs := h.st.get i hnth
          rw [dens_len] at c2 c5
          have hsz : cs.length ≤ cur.size := by
            rw [c2, c3]
            exact Nat.mul_le_mul_right _ (Nat.le_add_right _ _)
          have hrun := run_storeCells_soft X.P (g'.den ρ) o t fz (dens ρ xs) 0 cur w c1 cf (by rw [dens_len]; omega) (dens_one ρ xs)
          rw [Nat.add_zero, dens_len] at hrun
          have hcl : cs'.length = cs.length := by
            rw [h2]
            simp only [List.length_append, List.length_take, List.length_drop]
            omega
          have hp : pick [i] (L.map (SF.den ρ)) = [Fac.of (Fact.gro (g'.den ρ) t m n (c.den ρ) (dens ρ cs))] := by
            simp only [pick, hnth]
            rfl
          have hnew : (Fac.of (Fact.gro (g'.den ρ) t m n (c.den ρ) (dens ρ cs'))).say (w.setRow (g'.den ρ) (List.take o cur.toList ++ dens ρ xs ++ List.drop (o + xs.length) cur.toList).toArray) := by
            have hls : (List.take o cur.toList ++ dens ρ xs ++ List.drop (o + xs.length) cur.toList).length = cur.size := by
              simp only [List.length_append, List.length_take, List.length_drop, dens_len, Array.length_toList]
              omega
            refine ⟨_, fz, setRow_heap w _ cur _ t _ c1, by rw [List.size_toArray, hls]; exact cf, ?_, ?_, c4, ?_⟩
            · rw [dens_len, hcl]
              exact c2
            · rw [List.size_toArray, hls]
              exact c3
            · rw [dens_len, hcl]
              have := take_wr cur.toList (dens ρ xs) o cs.length (by rw [dens_len]; omega) (by rw [Array.length_toList]; omega)
              rw [dens_len, c5] at this
              rw [h2, dens_app, dens_app, dens_take, dens_drop]
              exact this
          have hst := h.st.step (G := [Fac.of (Fact.gro (g'.den ρ) t m n (c.den ρ) (dens ρ cs'))]) [i] (w' := w.setRow (g'.den ρ) (List.take o cur.toList ++ dens ρ xs ++ List.drop (o + xs.length) cur.toList).toArray) (by
            rw [hp]
            exact ⟨⟨hnew, trivial⟩, by simp [owns], fun k hk => by simp [rds] at hk, fun k hk => .inl hk, fun k hk => by simp [rds] at hk, (Chg.refl _ w).setRow (.inl (by simp [owns])) _⟩)
          rw [dropI_map] at hst
          refine ⟨_, hrun, h.re (Agr.refl _ _) (Nat.le_refl _) ?_ hst⟩
          unfold SF.al at hfa
          rw [Bool.and_eq_true] at hfa
          rw [List.all_cons, Bool.and_eq_true]
          refine ⟨?_, all_dropA h.fl⟩
          show (g'.al (lt nx) && c.al (lt nx) && cs'.all (SC.al (lt nx))) = true
          rw [hfa.1, all_wrL hcs hfa.2 hx]
          rfl
        · cases hf'
      · cases hf'
    · cases hw
  · cases hw
end
/-- a store -/
def stOp (P : Program) (L : List SF) (sl : TS) : Op → Option (List SF)
  | .store T p x => match ev sl p, ev sl x with
    | some (.e (.c (.ptr (some (g, o))))), some (.e v) => match szT P T with
      | some n => match Nat.beq (ecells v).length n with
        | true => wrAt L g o (ecells v)
        | false => none
      | none => none
    | _, _ => none
  | _ => none
section
variable {X : Cx} {ρ : Rho} {L : List SF} {n nx : Nat} {sl : TS} {a : Act} {w : World}
theorem ev_al (hs : Sl ρ n sl nx a) {x : Operand} {v : SV} (h : ev sl x = some v) : v.al (lt nx) = true := by
  cases x with
  | tmp t => injection h with h; subst h; exact hs.fs _
  | const c => exact ofV_al h
  | global g => injection h with h; subst h; rfl
  | func f => injection h with h; subst h; rfl
theorem stOp_s (h : Hp X ρ L nx w) (hs : Sl ρ n sl nx a) {o : Oper} {L' : List SF} (hn : stOp X.P L sl o.op = some L') : Eff X ρ nx a w o (.t []) L' nx := by
  unfold stOp at hn
  split at hn
  · rename_i T p x hop
    split at hn
    · rename_i g o' v hp hx
      split at hn
      · rename_i m hz
        split at hn
        · rename_i hb
          have h1 := Nat.eq_of_beq_eq_true hb
          obtain ⟨w', hrun, hh⟩ := wrAt_s h hn (all_ecells (ev_al hs hx))
          refine ⟨w', ρ, .skip, ?_, .inr ⟨rfl, rfl⟩, Agr.refl _ _, Nat.le_refl _, rfl, hh⟩
          have hvp := ev_s hs.tm hp
          have hvx := ev_s hs.tm hx
          unfold execOp
          rw [hop]
          simp only [hvp, hvx]
          have hsz := szT_s hz w
          have : (Instr.storeAt T (SV.den ρ (.e (.c (.ptr (some (g, o')))))) (SV.den ρ (.e v))).run X.P w = .ok () w' := by
            show (Instr.storeAt T (.pointer (some ⟨g.den ρ, o', none⟩)) (v.den ρ)).run X.P w = _
            simp [Instr.storeAt, Instr.sureAddr, storeVar, hsz, Result.andThen, ecells_den, dens_len, h1, hrun]
          rw [Sem.run_bind, this]
          rfl
        · cases hn
      · cases hn
    · cases hn
  · cases hn
end
/-- a new map; a map's new entry; its length -/
def mapOp (P : Program) (Ps L : List SF) (sl : TS) (b : Nat) : Op → Option (SV × List SF × Nat)
  | .makeMap _ none => some (.e (.c (.map (some (.v b)))), .map (.v b) [] 0 :: L, b + 1)
  | .mapUpdate T m k x => match ev sl m, ev sl k, ev sl x, P.underlying T with
    | some (.e (.c (.map (some g)))), some (.e (.c k)), some (.e v), some (.map kt _) => match findI g 0 L, cvC k, P.underlying kt with
      | some (i, .map g' es n), some kv, some d => match isKeyB d kv, findS d kv es 0 with
        | true, some none => some (.t [], .map g' (es ++ [(k, v, n)]) (n + 1) :: dropA [i] 0 L, b)
        | _, _ => none
      | _, _, _ => none
    | _, _, _, _ => none
  | .call c => match c.callee, c.args.toList, c.argTypes.toList with
    | .builtin .len, [x], [t] => match ev sl x, P.underlying t with
      | some (.e (.c (.map (some g)))), some (.map _ _) => match facOf Ps L g with
        | some (.map _ es _) => some (.e (.c (.int .i64 (es.length : Nat))), L, b)
        | _ => none
      | _, _ => none
    | _, _, _ => none
  | _ => none
section
variable {X : Cx} {ρ : Rho} {L : List SF} {n nx : Nat} {sl : TS} {a : Act} {w : World}
theorem mapOp_s (h : Hp X ρ L nx w) (hs : Sl ρ n sl nx a) {o : Oper} {v : SV} {L' : List SF} {nx' : Nat} (hn : mapOp X.P X.Ps L sl nx o.op = some (v, L', nx')) : Eff X ρ nx a w o v L' nx' := by
  unfold mapOp at hn
  split at hn
  · rename_i T hop
    injection hn with hn
    injection hn with h1 h2
    injection h2 with h2 h3
    subst h1 h2 h3
    have e0 : (SN.v nx).den (updR ρ nx (fun _ => w.heap.size)) = w.heap.size := v_new ρ nx _
    refine ⟨w.alloc (.map #[] 0), updR ρ nx (fun _ => w.heap.size), .value (.map (some w.heap.size)), ?_, .inl ?_, updR_agr ρ nx _, Nat.le_succ _, lt_self nx, h.re (updR_agr ρ nx _) (Nat.le_succ _) ?_ ?_⟩
    · unfold execOp
      rw [hop]
      simp [run_makeMap_plain]
    · simp [SV.den, SE.den, SC.den, SG.den, e0]
    · rw [List.all_cons, Bool.and_eq_true]
      exact ⟨by show (lt (nx + 1) nx && true) = true; rw [lt_self]; rfl, SFs_mono (lt_mono (Nat.le_succ _)) h.fl⟩
    · rw [List.map_cons, reL h (updR_agr ρ nx _)]
      have := St_allocm h.st (g := w.heap.size) rfl #[] 0
      have e1 : SF.den (updR ρ nx (fun _ => w.heap.size)) (.map (.v nx) [] 0) = Fac.map w.heap.size #[] 0 := by
        simp only [SF.den]
        rw [e0]
        rfl
      rw [e1]
      exact this
  · rename_i T m k x hop
    split at hn
    · rename_i g k' v' kt et hm hk hx hu
      split at hn
      · rename_i i g' es n kv d hi hkv hd
        split at hn
        · rename_i hkb hfs
          injection hn with hn
          injection hn with h1 h2
          injection h2 with h2 h3
          subst h1 h2 h3
          obtain ⟨j, hj, hat, hkey⟩ := findI_at hi
          rw [Nat.zero_add] at hj
          subst hj
          injection hkey with hkey
          subst hkey
          have hfa := List.all_eq_true.1 h.fl _ (List.mem_of_getElem? hat)
          have hnth := nth_map (ρ := ρ) hat
          have hmap : MapIs w (g'.den ρ) (es.map (eden ρ)).toArray n := h.st.get i hnth
          have e1 : k'.den ρ = kv := cv_s hkv
          have hput := run_mapPutK hu hd (isKeyB_s hkb) hmap (by simpa using findS_s (ρ := ρ) hfs) (v'.den ρ)
          have hst := St_setm h.st i hnth ((es.map (eden ρ)).toArray.push { key := kv, val := v'.den ρ, born := n }) (n + 1)
          rw [dropI_map] at hst
          refine ⟨setMapW w (g'.den ρ) ((es.map (eden ρ)).toArray.push { key := kv, val := v'.den ρ, born := n }) (n + 1), ρ, .skip, ?_, .inr ⟨rfl, rfl⟩, Agr.refl _ _, Nat.le_refl _, rfl, h.re (L' := .map g' (es ++ [(k', v', n)]) (n + 1) :: dropA [i] 0 L) (Agr.refl _ _) (Nat.le_refl _) ?_ ?_⟩
          · unfold execOp
            rw [hop]
            simp only [ev_s hs.tm hm, ev_s hs.tm hk, ev_s hs.tm hx]
            rw [Sem.run_bind]
            have : (Instr.mapUpdate T (SV.den ρ (.e (.c (.map (some g'))))) (SV.den ρ (.e (.c k'))) (SV.den ρ (.e v'))).run X.P w = .ok () (setMapW w (g'.den ρ) ((es.map (eden ρ)).toArray.push { key := kv, val := v'.den ρ, born := n }) (n + 1)) := by
              rw [← hput, ← e1]
              rfl
            rw [this]
            rfl
          · rw [List.all_cons, Bool.and_eq_true]
            refine ⟨?_, all_dropA h.fl⟩
            unfold SF.al at hfa ⊢
            rw [Bool.and_eq_true] at hfa ⊢
            refine ⟨hfa.1, ?_⟩
            rw [List.all_append, hfa.2, Bool.true_and]
            show (SC.al (lt nx) k' && v'.al (lt nx) && true) = true
            rw [Bool.and_true, Bool.and_eq_true]
            exact ⟨ev_al hs hk, ev_al hs hx⟩
          · rw [List.map_cons]
            have e2 : SF.den ρ (.map g' (es ++ [(k', v', n)]) (n + 1)) = Fac.map (g'.den ρ) ((es.map (eden ρ)).toArray.push { key := kv, val := v'.den ρ, born := n }) (n + 1) := by
              simp only [SF.den]
              rw [List.map_append, List.map_cons, List.map_nil]
              simp [eden, e1]
            rw [e2]
            exact hst
        · cases hn
      · cases hn
    · cases hn
  · rename_i c hop
    split at hn
    · rename_i x t hc hargs hats
      split at hn
      · rename_i g kt et hx hu
        split at hn
        · rename_i g' es n hfac
          injection hn with hn
          injection hn with h1 h2
          injection h2 with h2 h3
          subst h1 h2 h3
          obtain ⟨hmem, hkey⟩ := facOf_s hfac
          injection hkey with hkey
          subst hkey
          have hmap : MapIs w (g'.den ρ) (es.map (eden ρ)).toArray n := h.says hmem
          refine ⟨w, ρ, _, ?_, .inl rfl, Agr.refl _ _, Nat.le_refl _, rfl, h⟩
          unfold execOp
          rw [hop]
          have hr : ∀ w, (resolve a.eval c o.type).run X.P w = .ok { target := .builtin .len c.argTypes o.type (c.args.map fun | .const _ => true | _ => false), args := c.args.map a.eval } w := fun w => by
            simp only [resolve, hc]
            rfl
          simp only
          rw [Sem.run_bind, hr]
          simp only [Result.andThen, invoke]
          have ha : c.args.map a.eval = #[a.eval x] := by
            rw [← Array.toList_inj]; simp [hargs]
          have hat : c.argTypes = #[t] := Array.toList_inj.1 hats
          have hv := ev_s hs.tm hx
          have hg : (getObj (g'.den ρ)).run X.P w = .ok (.map (es.map (eden ρ)).toArray n) w := MapKept.run_getObj_map hmap
          simp only [builtin, ha, hv, hat]
          simp [Builtin.len_, run_underlying hu, SV.den, SE.den, SC.den, SG.den, hg, Result.andThen, goInt]
        · cases hn
      · cases hn
    · cases hn
  · cases hn
end
end Kex
