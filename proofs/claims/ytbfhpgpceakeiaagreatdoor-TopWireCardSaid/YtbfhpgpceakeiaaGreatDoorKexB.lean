/- Operations that look at no world, run on values as data. Over any program; no conditions. -/
import Derived.Test.YtbfhpgpceakeiaaGreatDoorKexA
namespace Kex
open Go Go.RowKit Kin

/-- what a run that looks at no world gives -/
def pureRun (P : Program) {α : Type} : Sem α → Option α
  | .pure a => some a
  | .program k => pureRun P (k P)
  | .mark _ k => pureRun P k
  | _ => none
theorem pureRun_s {P : Program} {α : Type} : ∀ {s : Sem α} {v : α}, pureRun P s = some v → ∀ w, s.run P w = .ok v w
  | .pure a, v, h, w => by injection h with h; rw [h]; rfl
  | .program k, v, h, w => pureRun_s (s := k P) h w
  | .mark _ k, v, h, w => pureRun_s (s := k) h w
  | .load .., _, h, _ => by cases h
  | .store .., _, h, _ => by cases h
  | .new .., _, h, _ => by cases h
  | .shape .., _, h, _ => by cases h
  | .freeze .., _, h, _ => by cases h
  | .frozen .., _, h, _ => by cases h
  | .getObj .., _, h, _ => by cases h
  | .setObj .., _, h, _ => by cases h
  | .choose .., _, h, _ => by cases h
  | .sys .., _, h, _ => by cases h
  | .halt .., _, h, _ => by cases h
/-- a value as data -/
def ofC : Value → Option SC
  | .int k n => some (.int k n)
  | .bool b => some (.bool b)
  | .string s => some (.str s)
  | .pointer none => some (.ptr none)
  | .slice none n c => match Nat.ble n c with
    | true => some (.slice none n ⟨c - n, none⟩)
    | false => none
  | .map none => some (.map none)
  | .nilFunc => some .nilFunc
  | .nilIface => some .nilIface
  | _ => none
theorem ofC_s {ρ : Rho} : ∀ {v : Value} {x : SC}, ofC v = some x → x.den ρ = v := by
  intro v x h
  unfold ofC at h
  split at h <;> first | (injection h with h; subst h; rfl) | cases h | skip
  rename_i n c
  split at h
  · rename_i hb
    have hb := Nat.le_of_ble_eq_true hb
    injection h with h
    subst h
    show Value.slice none n (n + (c - n)) = Value.slice none n c
    rw [Nat.add_sub_cancel' hb]
  · cases h
def ofCs : List Value → Option (List SC)
  | [] => some []
  | v :: l => match ofC v with
    | some x => match ofCs l with
      | some xs => some (x :: xs)
      | none => none
    | none => none
theorem ofCs_s {ρ : Rho} : ∀ {l : List Value} {xs : List SC}, ofCs l = some xs → dens ρ xs = l
  | [], xs, h => by injection h with h; subst h; rfl
  | v :: l, xs, h => by
    unfold ofCs at h
    split at h
    · split at h
      · injection h with h
        subst h
        rename_i x hx _ ys hy
        show _ :: dens ρ ys = _
        rw [ofC_s hx, ofCs_s hy]
      · cases h
    · cases h
def ofE : Value → Option SE
  | .agg cs => (ofCs cs.toList).map SE.a
  | v => (ofC v).map SE.c
theorem ofE_s {ρ : Rho} {v : Value} {s : SE} (h : ofE v = some s) : s.den ρ = v := by
  unfold ofE at h
  split at h
  · obtain ⟨xs, hx, rfl⟩ := Option.map_eq_some_iff.1 h
    show Value.agg _ = _
    rw [ofCs_s hx]
  · obtain ⟨x, hx, rfl⟩ := Option.map_eq_some_iff.1 h
    exact ofC_s hx
def ofV : Value → Option SV
  | .tuple vs => match vs.toList with
    | [] => some (.t [])
    | _ => none
  | v => (ofE v).map SV.e
theorem ofV_s {ρ : Rho} {v : Value} {s : SV} (h : ofV v = some s) : s.den ρ = v := by
  unfold ofV at h
  split at h
  · split at h
    · injection h with h
      subst h
      rename_i hv
      show Value.tuple #[] = _
      congr 1
      exact (Array.toList_eq_nil_iff.1 hv).symm
    · cases h
  · obtain ⟨x, hx, rfl⟩ := Option.map_eq_some_iff.1 h
    exact ofE_s hx
theorem ofC_al {p : Nat → Bool} : ∀ {v : Value} {x : SC}, ofC v = some x → SC.al p x = true := by
  intro v x h
  unfold ofC at h
  split at h <;> first | (injection h with h; subst h; rfl) | cases h | skip
  split at h
  · injection h with h
    subst h
    rfl
  · cases h
theorem ofCs_al {p : Nat → Bool} : ∀ {l : List Value} {xs : List SC}, ofCs l = some xs → xs.all (SC.al p) = true
  | [], xs, h => by injection h with h; subst h; rfl
  | v :: l, xs, h => by
    unfold ofCs at h
    split at h
    · split at h
      · injection h with h
        subst h
        rename_i x hx _ ys hy
        rw [List.all_cons, ofC_al hx, ofCs_al hy]
        rfl
      · cases h
    · cases h
theorem ofV_al {p : Nat → Bool} {v : Value} {s : SV} (h : ofV v = some s) : s.al p = true := by
  unfold ofV at h
  split at h
  · split at h
    · injection h with h
      subst h
      rfl
    · cases h
  · obtain ⟨x, hx, rfl⟩ := Option.map_eq_some_iff.1 h
    unfold ofE at hx
    split at hx
    · obtain ⟨xs, h2, h3⟩ := Option.map_eq_some_iff.1 hx
      rw [← h3]
      exact ofCs_al h2
    · obtain ⟨x, h2, h3⟩ := Option.map_eq_some_iff.1 hx
      rw [← h3]
      exact ofC_al h2
/-- the slots, as a tree; where a slot is -/
inductive TS where
  | l
  | n (a : TS) (v : SV) (b : TS)
inductive Pa where
  | e
  | a (p : Pa)
  | b (p : Pa)
def pathF : Nat → Nat → Pa
  | 0, _ => .e
  | f + 1, t => match t with
    | 0 => .e
    | t + 1 => match t % 2 with
      | 0 => .a (pathF f (t / 2))
      | _ => .b (pathF f (t / 2))
def path (t : Nat) : Pa := pathF (t + 1) t
def Pa.ix : Pa → Nat
  | .e => 0
  | .a p => 2 * p.ix + 1
  | .b p => 2 * p.ix + 2
theorem pathF_ix : ∀ (f t : Nat), t < f → (pathF f t).ix = t
  | 0, _, h => by omega
  | f + 1, 0, _ => rfl
  | f + 1, t + 1, h => by
    unfold pathF
    simp only
    split
    · rename_i h0
      show 2 * (pathF f (t / 2)).ix + 1 = t + 1
      rw [pathF_ix f (t / 2) (by omega)]
      omega
    · rename_i h0
      show 2 * (pathF f (t / 2)).ix + 2 = t + 1
      rw [pathF_ix f (t / 2) (by omega)]
      have h1 : ¬ t % 2 = 0 := fun e => h0 e
      omega
theorem path_inj {t u : Nat} (h : path t = path u) : t = u := by
  have h1 := pathF_ix (t + 1) t (by omega)
  have h2 := pathF_ix (u + 1) u (by omega)
  unfold path at h
  rw [h] at h1
  omega
def getP : Pa → TS → SV
  | _, .l => .t []
  | .e, .n _ v _ => v
  | .a p, .n x _ _ => getP p x
  | .b p, .n _ _ y => getP p y
def setP (v : SV) : Pa → TS → TS
  | .e, .l => .n .l v .l
  | .e, .n x _ y => .n x v y
  | .a p, .l => .n (setP v p .l) (.t []) .l
  | .a p, .n x u y => .n (setP v p x) u y
  | .b p, .l => .n .l (.t []) (setP v p .l)
  | .b p, .n x u y => .n x u (setP v p y)
theorem getP_l (p : Pa) : getP p .l = .t [] := by cases p <;> rfl
theorem getP_set (v : SV) : ∀ (p : Pa) (T : TS), getP p (setP v p T) = v
  | .e, .l => rfl
  | .e, .n _ _ _ => rfl
  | .a p, .l => getP_set v p .l
  | .a p, .n x _ _ => getP_set v p x
  | .b p, .l => getP_set v p .l
  | .b p, .n _ _ y => getP_set v p y
theorem getP_ne (v : SV) : ∀ (p q : Pa) (T : TS), p ≠ q → getP q (setP v p T) = getP q T
  | .e, .e, _, h => absurd rfl h
  | .e, .a q, .l, _ => getP_l q
  | .e, .b q, .l, _ => getP_l q
  | .e, .a _, .n _ _ _, _ => rfl
  | .e, .b _, .n _ _ _, _ => rfl
  | .a _, .e, .l, _ => rfl
  | .a _, .e, .n _ _ _, _ => rfl
  | .b _, .e, .l, _ => rfl
  | .b _, .e, .n _ _ _, _ => rfl
  | .a p, .a q, .l, h => (getP_ne v p q .l (fun e => h (by rw [e]))).trans (getP_l q)
  | .a p, .a q, .n x _ _, h => getP_ne v p q x (fun e => h (by rw [e]))
  | .b p, .b q, .l, h => (getP_ne v p q .l (fun e => h (by rw [e]))).trans (getP_l q)
  | .b p, .b q, .n _ _ y, h => getP_ne v p q y (fun e => h (by rw [e]))
  | .a _, .b q, .l, _ => getP_l q
  | .a _, .b _, .n _ _ _, _ => rfl
  | .b _, .a q, .l, _ => getP_l q
  | .b _, .a _, .n _ _ _, _ => rfl
/-- the slots' values are these -/
def Slots (ρ : Rho) (sl : TS) (tmps : Array Value) : Prop := ∀ t, tmps.getD t undef = (getP (path t) sl).den ρ
theorem Slots.set {ρ : Rho} {sl : TS} {tmps : Array Value} (h : Slots ρ sl tmps) (d : Nat) (hd : d < tmps.size) (v : SV) : Slots ρ (setP v (path d) sl) (tmps.setIfInBounds d (v.den ρ)) := by
  intro t
  by_cases e : d = t
  · subst e
    rw [getP_set]
    simp [hd]
  · rw [getP_ne v _ _ _ (fun x => e (path_inj x)), ← h t]
    simp [Array.getD_eq_getD_getElem?, Array.getElem?_setIfInBounds_ne e]
/-- an operand -/
def ev (sl : TS) : Operand → Option SV
  | .tmp t => some (getP (path t) sl)
  | .const v => ofV v
  | .global g => some (.e (.c (.ptr (some (.k g, 0)))))
  | .func f => some (.e (.c (.func (.func f) [] [])))
theorem ev_s {ρ : Rho} {a : Act} {sl : TS} (h : Slots ρ sl a.tmps) {x : Operand} {s : SV} (hs : ev sl x = some s) : a.eval x = s.den ρ := by
  cases x with
  | tmp t =>
    injection hs with hs
    subst hs
    exact h t
  | const v => exact (ofV_s hs).symm
  | global g => injection hs with hs; subst hs; rfl
  | func f => injection hs with hs; subst hs; rfl
/-- a value without names -/
def cv (s : SV) : Option Value := match s.al (fun _ => false) with
  | true => some (s.den (fun _ => 0))
  | false => none
theorem cv_s {ρ : Rho} {s : SV} {v : Value} (h : cv s = some v) : s.den ρ = v := by
  unfold cv at h
  split at h
  · rename_i ha
    injection h with h
    subst h
    exact SV.den_al (p := fun _ => false) (fun _ e => by cases e) ha
  · cases h
def szT (P : Program) (T : TypeId) : Option Nat := (P.info? T).map (·.size)
theorem szT_s {P : Program} {T : TypeId} {n : Nat} (h : szT P T = some n) (w : World) : (Go.sizeOf T).run P w = .ok n w := by
  unfold szT at h
  obtain ⟨i, hi, rfl⟩ := Option.map_eq_some_iff.1 h
  simp [Go.sizeOf, typeInfo, hi]
/-- equal to nil? -/
def nilEq (P : Program) (T : TypeId) (x y : SC) : Option Bool := match P.underlying T, x, y with
  | some (.pointer _), .ptr a, .ptr none => some a.isNone
  | some (.pointer elem), .ptr (some (g, o)), .ptr (some (g', o')) => match szT P elem, g.eq g' with
    | some (_ + 1), true => some (Nat.beq o o')
    | _, _ => none
  | some (.slice _), .slice a _ _, .slice none _ _ => some a.isNone
  | some (.slice _), .emp _ _ _, .slice none _ _ => some false
  | some (.map _ _), .map a, .map none => some a.isNone
  | some (.func _ _ _), .func _ _ _, .nilFunc => some false
  | _, _, _ => none
theorem equal_nilD {P : Program} {ρ : Rho} {T : TypeId} {x y : SC} {b : Bool} (h : nilEq P T x y = some b) (w : World) (d : Nat) : (Op.equalIn (d + 1) T (x.den ρ) (y.den ρ)).run P w = .ok b w := by
  unfold nilEq at h
  split at h <;> first | cases h | (injection h with h; subst h) | skip
  · rename_i hu
    rename_i a
    cases a <;> simp [SC.den, SG.den, Op.equalIn, run_underlying hu]
  · rename_i elem g o g' o' hu
    split at h
    · rename_i m hz hg
      injection h with h
      subst h
      have hg := SN.eq_s hg
      subst hg
      have hz := szT_s hz w
      have hb : ((⟨g.den ρ, o, none⟩ : Addr) == ⟨g.den ρ, o', none⟩) = Nat.beq o o' := by
        by_cases e : o = o'
        · subst e
          rw [Nat.beq_refl]
          simp
        · have : Nat.beq o o' = false := by
            cases hq : Nat.beq o o' with
            | true => exact absurd (Nat.eq_of_beq_eq_true hq) e
            | false => rfl
          rw [this]
          simp
      have hd : (decide ((⟨g.den ρ, o, none⟩ : Addr) = ⟨g.den ρ, o', none⟩)) = Nat.beq o o' := hb
      simp [SC.den, SG.den, Op.equalIn, run_underlying hu, hz, sameAddr, pden, Result.andThen]
      rw [← hd]
      by_cases e : o = o' <;> simp [e]
    · cases h
  · rename_i hu
    rename_i a _ _ _ _
    cases a <;> simp [SC.den, SG.den, Op.equalIn, run_underlying hu]
  · rename_i hu
    simp [SC.den, SG.den, Op.equalIn, run_underlying hu]
  · rename_i hu
    rename_i a
    cases a <;> simp [SC.den, SG.den, Op.equalIn, run_underlying hu]
  · rename_i hu
    simp [SC.den, SG.den, Op.equalIn, run_underlying hu]
theorem equal_nil {P : Program} {ρ : Rho} {T : TypeId} {x y : SC} {b : Bool} (h : nilEq P T x y = some b) (w : World) : (Op.equal T (x.den ρ) (y.den ρ)).run P w = .ok b w := equal_nilD h w 9999
/-- what nilEq is of -/
def isPlainC : SC → Bool
  | .ptr _ | .slice _ _ _ | .emp _ _ _ | .map _ | .func _ _ _ | .nilFunc => true
  | _ => false
theorem nilEq_plain {P : Program} {T : TypeId} {x y : SC} {b : Bool} (h : nilEq P T x y = some b) : isPlainC x = true ∧ isPlainC y = true := by
  unfold nilEq at h
  split at h <;> first | (injection h with h; exact ⟨rfl, rfl⟩) | exact ⟨rfl, rfl⟩ | cases h
def bin (P : Program) (op : BinOp) (T : TypeId) (ox oy : Operand) (x y : SV) : Option SV :=
  match cv x, cv y with
  | some vx, some vy => (pureRun P (do eqGuard op T ox oy vx vy; binOp op T vx vy)).bind ofV
  | _, _ => match op, x, y with
    | .eql, .e (.c x), .e (.c y) => (nilEq P T x y).map fun b => .e (.c (.bool b))
    | .neq, .e (.c x), .e (.c y) => (nilEq P T x y).map fun b => .e (.c (.bool (!b)))
    | _, _, _ => none
theorem bin_s {P : Program} {ρ : Rho} {op : BinOp} {T : TypeId} {ox oy : Operand} {x y s : SV} (h : bin P op T ox oy x y = some s) (w : World) :
    Sem.run P (do eqGuard op T ox oy (x.den ρ) (y.den ρ); binOp op T (x.den ρ) (y.den ρ)) w = .ok (s.den ρ) w := by
  unfold bin at h
  split at h
  · rename_i vx vy hx hy
    rw [cv_s hx, cv_s hy]
    obtain ⟨v, h1, h2⟩ := Option.bind_eq_some_iff.1 h
    rw [ofV_s h2]
    exact pureRun_s h1 w
  · split at h
    · rename_i x y _
      obtain ⟨b, h1, rfl⟩ := Option.map_eq_some_iff.1 h
      have he := equal_nil (ρ := ρ) h1 w
      obtain ⟨p1, p2⟩ := nilEq_plain h1
      cases x <;> cases p1 <;> cases y <;> cases p2 <;> simp [SV.den, SE.den, SC.den, SG.den, eqGuard, binOp, Result.andThen] at he ⊢ <;> simp [he]
    · rename_i x y _
      obtain ⟨b, h1, rfl⟩ := Option.map_eq_some_iff.1 h
      have he := equal_nil (ρ := ρ) h1 w
      obtain ⟨p1, p2⟩ := nilEq_plain h1
      cases x <;> cases p1 <;> cases y <;> cases p2 <;> simp [SV.den, SE.den, SC.den, SG.den, eqGuard, binOp, Result.andThen] at he ⊢ <;> simp [he]
    · cases h
/-- a part of a struct or array -/
def nthC : List SC → Nat → Option SC
  | [], _ => none
  | x :: _, 0 => some x
  | _ :: l, n + 1 => nthC l n
theorem nthC_eq : ∀ (l : List SC) (n : Nat), nthC l n = l[n]?
  | [], _ => rfl
  | _ :: _, 0 => rfl
  | _ :: l, n + 1 => nthC_eq l n
def partS (P : Program) (T : TypeId) (xs : List SC) (off : Nat) : Option SE := match P.underlying T with
  | none => none
  | some d => match d.isRow with
    | true => (szT P T).map fun n => .a ((xs.drop off).take n)
    | false => (nthC xs off).map SE.c
theorem partS_s {P : Program} {ρ : Rho} {T : TypeId} {xs : List SC} {off : Nat} {s : SE} (h : partS P T xs off = some s) (w : World) : (part T (dens ρ xs).toArray off).run P w = .ok (s.den ρ) w := by
  unfold partS at h
  split at h
  · cases h
  · rename_i d hu
    split at h
    · rename_i hr
      obtain ⟨n, hn, rfl⟩ := Option.map_eq_some_iff.1 h
      have ha : (isAgg T).run P w = .ok true w := by
        cases d <;> first | (simp [isAgg, run_underlying hu]; done) | cases hr
      simp [part, ha, szT_s hn, Result.andThen, SE.den, dens, List.map_take, List.map_drop]
    · rename_i hr
      obtain ⟨x, hx, rfl⟩ := Option.map_eq_some_iff.1 h
      rw [nthC_eq] at hx
      have ha : (isAgg T).run P w = .ok false w := by
        cases d <;> first | (simp [isAgg, run_underlying hu]; done) | cases hr
      simp [part, ha, Result.andThen, SE.den, dens, hx]
def fldA (P : Program) (T : TypeId) (f : Nat) (x : SV) : Option SV := match P.underlying T, x with
  | some (.struct fs), .e (.c (.ptr (some (g, o)))) => match fs[f]? with
    | some fd => match szT P fd.type with
      | some (_ + 1) => some (.e (.c (.ptr (some (g, o + fd.offset)))))
      | _ => none
    | none => none
  | _, _ => none
theorem add_plain (g o n : Nat) : (⟨g, o, none⟩ : Addr).add n = ⟨g, o + n, none⟩ := by
  unfold Addr.add
  split
  · rename_i h
    rw [h]
    rfl
  · rfl
theorem fldA_s {P : Program} {ρ : Rho} {T : TypeId} {f : Nat} {x s : SV} (h : fldA P T f x = some s) (w : World) : (Instr.fieldAt T (x.den ρ) f).run P w = .ok (s.den ρ) w := by
  unfold fldA at h
  split at h
  · rename_i fs g o hu
    split at h
    · rename_i fd hf
      split at h
      · rename_i n hz
        injection h with h
        subst h
        simp [Instr.fieldAt, run_underlying hu, hf, SV.den, SE.den, SC.den, SG.den, Instr.sureAddr, fieldPlace, szT_s hz, Result.andThen, pden, add_plain]
      · cases h
    · cases h
  · cases h
def fld (P : Program) (T : TypeId) (f : Nat) (x : SV) : Option SV := match P.underlying T, x with
  | some (.struct fs), .e (.a xs) => match fs[f]? with
    | some fd => (partS P fd.type xs fd.offset).map SV.e
    | none => none
  | _, _ => none
theorem fld_s {P : Program} {ρ : Rho} {T : TypeId} {f : Nat} {x s : SV} (h : fld P T f x = some s) (w : World) : (Instr.field T (x.den ρ) f).run P w = .ok (s.den ρ) w := by
  unfold fld at h
  split at h
  · rename_i fs xs hu
    split at h
    · rename_i fd hf
      obtain ⟨e, he, rfl⟩ := Option.map_eq_some_iff.1 h
      have := partS_s (ρ := ρ) he w
      simp [Instr.field, run_underlying hu, hf, SV.den, SE.den, asAgg, this, Result.andThen]
    · cases h
  · cases h
def idxN (i : SV) (n : Nat) : Option Nat := match i with
  | .e (.c (.int _ (.ofNat i))) => match Nat.blt i n with
    | true => some i
    | false => none
  | _ => none
theorem idxN_s {ρ : Rho} {i : SV} {n j : Nat} (h : idxN i n = some j) : ∃ k, i.den ρ = .int k (j : Int) ∧ j < n := by
  unfold idxN at h
  split at h
  · rename_i k i
    split at h
    · rename_i hb
      injection h with h
      subst h
      exact ⟨k, rfl, by simpa [Nat.blt_eq] using hb⟩
    · cases h
  · cases h
def idxA (P : Program) (T : TypeId) (x i : SV) : Option SV := match P.underlying T, x with
  | some (.slice e), .e (.c (.slice (some (g, o)) n _)) => match idxN i n, szT P e with
    | some j, some z => some (.e (.c (.ptr (some (g, o + j * z)))))
    | _, _ => none
  | some (.array n e), .e (.c (.ptr (some (g, o)))) => match idxN i n, szT P e with
    | some j, some z => some (.e (.c (.ptr (some (g, o + j * z)))))
    | _, _ => none
  | _, _ => none
theorem idxA_s {P : Program} {ρ : Rho} {T : TypeId} {x i s : SV} (h : idxA P T x i = some s) (w : World) : (Instr.indexAt T (x.den ρ) (i.den ρ)).run P w = .ok (s.den ρ) w := by
  unfold idxA at h
  split at h
  · rename_i e g o n c hu
    split at h
    · rename_i j z hj hz
      injection h with h
      subst h
      obtain ⟨k, e1, hl⟩ := idxN_s (ρ := ρ) hj
      have hl2 : (j : Int) < n := by omega
      rw [e1]
      simp [Instr.indexAt, asIntOf, run_underlying hu, SV.den, SE.den, SC.den, SG.den, szT_s hz, Result.andThen, pden, add_plain, hl]
    · cases h
  · rename_i n e g o hu
    split at h
    · rename_i j z hj hz
      injection h with h
      subst h
      obtain ⟨k, e1, hl⟩ := idxN_s (ρ := ρ) hj
      rw [e1]
      simp [Instr.indexAt, asIntOf, run_underlying hu, SV.den, SE.den, SC.den, SG.den, szT_s hz, Result.andThen, pden, add_plain, hl, Instr.sureAddr]
    · cases h
  · cases h
def idx (P : Program) (T : TypeId) (x i : SV) : Option SV := match P.underlying T, x with
  | some (.array n e), .e (.a xs) => match idxN i n, szT P e with
    | some j, some z => (partS P e xs (j * z)).map SV.e
    | _, _ => none
  | _, _ => match cv x, cv i with
    | some vx, some vi => (pureRun P (Instr.index T vx vi)).bind ofV
    | _, _ => none
theorem idx_s {P : Program} {ρ : Rho} {T : TypeId} {x i s : SV} (h : idx P T x i = some s) (w : World) : (Instr.index T (x.den ρ) (i.den ρ)).run P w = .ok (s.den ρ) w := by
  unfold idx at h
  split at h
  · rename_i n e xs hu
    split at h
    · rename_i j z hj hz
      obtain ⟨r, hr, rfl⟩ := Option.map_eq_some_iff.1 h
      obtain ⟨k, e1, hl⟩ := idxN_s (ρ := ρ) hj
      have := partS_s (ρ := ρ) hr w
      rw [e1]
      simp [Instr.index, asIntOf, run_underlying hu, SV.den, SE.den, szT_s hz, Result.andThen, hl, this]
    · cases h
  · split at h
    · rename_i vx vi hx hi
      obtain ⟨v, h1, h2⟩ := Option.bind_eq_some_iff.1 h
      rw [cv_s hx, cv_s hi, ofV_s h2]
      exact pureRun_s h1 w
    · cases h
def nthE : List SE → Nat → Option SE
  | [], _ => none
  | x :: _, 0 => some x
  | _ :: l, n + 1 => nthE l n
theorem nthE_eq : ∀ (l : List SE) (n : Nat), nthE l n = l[n]?
  | [], _ => rfl
  | _ :: _, 0 => rfl
  | _ :: l, n + 1 => nthE_eq l n
def ext (i : Nat) : SV → Option SV
  | .t xs => (nthE xs i).map SV.e
  | _ => none
theorem ext_s {P : Program} {ρ : Rho} {i : Nat} {x s : SV} (h : ext i x = some s) (w : World) : (Instr.extract (x.den ρ) i).run P w = .ok (s.den ρ) w := by
  unfold ext at h
  split at h
  · rename_i xs
    obtain ⟨e, he, rfl⟩ := Option.map_eq_some_iff.1 h
    rw [nthE_eq] at he
    simp [Instr.extract, SV.den, he]
  · cases h
/-- a struct built of parts -/
def ecells : SE → List SC
  | .c x => [x]
  | .a xs => xs
theorem ecells_s {ρ : Rho} {x : SE} (hx : ∀ y, x = .c y → ∀ cs, y.den ρ ≠ .agg cs) : (x.den ρ).cells = (dens ρ (ecells x)).toArray := by
  cases x with
  | c y =>
    have := hx y rfl
    show (y.den ρ).cells = _
    cases y <;> rfl
  | a xs => rfl
theorem SC.den_cell {ρ : Rho} (y : SC) (cs : Array Value) : y.den ρ ≠ .agg cs := by cases y <;> intro h <;> cases h
def fillS (place : Nat → Option (Nat × Nat)) (cells : List SC) : List (Nat × SE) → Option (List SC)
  | [] => some cells
  | (i, v) :: rest => match place i with
    | none => none
    | some (off, size) => match Nat.beq (ecells v).length size && Nat.ble (off + size) cells.length with
      | true => fillS place (cells.take off ++ ecells v ++ cells.drop (off + size)) rest
      | false => none
theorem zip_fold {α : Type} (off : Nat) : ∀ (vs : List α) (j : Nat) (cs : Array α), off + j + vs.length ≤ cs.size →
    (vs.zipIdx j).foldl (fun cs (x : α × Nat) => cs.setIfInBounds (off + x.2) x.1) cs = (cs.toList.take (off + j) ++ vs ++ cs.toList.drop (off + j + vs.length)).toArray
  | [], j, cs, _ => by simp
  | v :: vs, j, cs, h => by
    rw [List.zipIdx_cons, List.foldl_cons, zip_fold off vs (j + 1) _ (by simp at h ⊢; omega)]
    congr 1
    have hl : off + j < cs.toList.length := by simp at h ⊢; omega
    simp only [Array.toList_setIfInBounds, List.length_cons]
    rw [show off + (j + 1) = off + j + 1 by omega, show off + j + 1 + vs.length = off + j + (vs.length + 1) by omega]
    have e1 : List.take (off + j + 1) (cs.toList.set (off + j) v) = List.take (off + j) cs.toList ++ [v] := by
      rw [List.take_add_one, List.getElem?_set_self hl, List.take_set_of_le (Nat.le_refl _)]
      rfl
    rw [e1, List.drop_set_of_lt (by omega)]
    simp
theorem fillS_s {ρ : Rho} {place : Nat → Option (Nat × Nat)} : ∀ {parts : List (Nat × SE)} {cells out : List SC}, fillS place cells parts = some out →
    Instr.fill place (dens ρ cells).toArray (parts.map fun x => (x.1, x.2.den ρ)) = some (dens ρ out).toArray
  | [], cells, out, h => by injection h with h; subst h; rfl
  | (i, v) :: rest, cells, out, h => by
    unfold fillS at h
    split at h
    · cases h
    · rename_i off size hp
      split at h
      · rename_i hb
        rw [Bool.and_eq_true] at hb
        have h1 := Nat.eq_of_beq_eq_true hb.1
        have h2 := Nat.le_of_ble_eq_true hb.2
        have hc : (v.den ρ).cells = (dens ρ (ecells v)).toArray := ecells_s (fun y e => SC.den_cell y)
        have ih := fillS_s (ρ := ρ) (place := place) h
        have hl : (dens ρ (ecells v)).length = size := by simpa [dens] using h1
        have hl2 : (dens ρ cells).length = cells.length := by simp [dens]
        rw [List.map_cons, Instr.fill, hp]
        simp only [hc, List.size_toArray, hl]
        rw [if_neg (by simp; omega)]
        have hz := zip_fold off (dens ρ (ecells v)) 0 (dens ρ cells).toArray (by simp; omega)
        rw [Nat.add_zero, hl] at hz
        have e1 : Array.foldl (fun cs (x : Value × Nat) => cs.setIfInBounds (off + x.2) x.1) (dens ρ cells).toArray (dens ρ (ecells v)).toArray.zipIdx = (List.take off (dens ρ cells).toArray.toList ++ dens ρ (ecells v) ++ List.drop (off + size) (dens ρ cells).toArray.toList).toArray := by
          rw [← hz, ← Array.foldl_toList]
          simp
        rw [e1]
        have e2 : (List.take off (dens ρ cells).toArray.toList ++ dens ρ (ecells v) ++ List.drop (off + size) (dens ρ cells).toArray.toList) = dens ρ (cells.take off ++ ecells v ++ cells.drop (off + size)) := by
          simp [dens, List.map_take, List.map_drop]
        rw [e2]
        exact ih
      · cases h
/-- the parts' values -/
def parts (sl : TS) : List (Nat × Operand) → Option (List (Nat × SE))
  | [] => some []
  | (i, o) :: l => match ev sl o with
    | some (.e x) => match parts sl l with
      | some r => some ((i, x) :: r)
      | none => none
    | _ => none
theorem parts_s {ρ : Rho} {a : Act} {sl : TS} (ha : Slots ρ sl a.tmps) : ∀ {l : List (Nat × Operand)} {r : List (Nat × SE)}, parts sl l = some r →
    l.map (fun x => (x.1, a.eval x.2)) = r.map fun x => (x.1, x.2.den ρ)
  | [], r, h => by injection h with h; subst h; rfl
  | (i, o) :: l, r, h => by
    unfold parts at h
    split at h
    · rename_i x hx
      split at h
      · rename_i q hq
        injection h with h
        subst h
        rw [List.map_cons, List.map_cons, parts_s ha hq]
        have := ev_s ha hx
        simp only at this ⊢
        rw [this]
        rfl
      · cases h
    · cases h
/-- a type's zero, cell by cell -/
def zcells (P : Program) (T : TypeId) : Option (List SC) := match P.info? T with
  | some i => match i.zero with
    | some z => ofCs z.cells.toList
    | none => none
  | none => none
def placesS (P : Program) : List Field → Option (List (Nat × Nat))
  | [] => some []
  | f :: l => match szT P f.type with
    | some z => match placesS P l with
      | some r => some ((f.offset, z) :: r)
      | none => none
    | none => none
theorem placesS_eq {P : Program} : ∀ {l : List Field} {r : List (Nat × Nat)}, placesS P l = some r → l.mapM (fun f => (P.info? f.type).map fun i => (f.offset, i.size)) = some r
  | [], r, h => by injection h with h; subst h; rfl
  | f :: l, r, h => by
    unfold placesS at h
    split at h
    · rename_i z hz
      split at h
      · rename_i q hq
        injection h with h
        subst h
        unfold szT at hz
        obtain ⟨i, hi, rfl⟩ := Option.map_eq_some_iff.1 hz
        simp [List.mapM_cons, hi, placesS_eq hq]
      · cases h
    · cases h
def nthP : List (Nat × Nat) → Nat → Option (Nat × Nat)
  | [], _ => none
  | x :: _, 0 => some x
  | _ :: l, n + 1 => nthP l n
theorem nthP_eq : ∀ (l : List (Nat × Nat)) (n : Nat), nthP l n = l[n]?
  | [], _ => rfl
  | _ :: _, 0 => rfl
  | _ :: l, n + 1 => nthP_eq l n
def bld (P : Program) (T : TypeId) (ps : List (Nat × SE)) : Option (List SC) := match P.underlying T, zcells P T with
  | some (.struct fs), some z => match placesS P fs.toList with
    | some pl => fillS (nthP pl) z ps
    | none => none
  | some (.array _ e), some z => match szT P e with
    | some n => fillS (fun i => some (i * n, n)) z ps
    | none => none
  | _, _ => none
theorem bld_s {P : Program} {ρ : Rho} {T : TypeId} {ps : List (Nat × SE)} {out : List SC} (h : bld P T ps = some out) (vs : List (Nat × Value)) (hv : vs = ps.map fun x => (x.1, x.2.den ρ)) : P.built T vs = some (dens ρ out).toArray := by
  subst hv
  unfold bld at h
  split at h
  · rename_i fs z hu hz
    split at h
    · rename_i pl hp
      unfold zcells at hz
      split at hz
      · rename_i i hi
        split at hz
        · rename_i v hv
          have hc : v.cells = (dens ρ z).toArray := by rw [ofCs_s hz]
          unfold Program.built
          simp only [hi, hu, hv, placesS_eq hp, hc]
          have hn : (fun i => nthP pl i) = fun i => pl.toArray[i]? := funext fun i => by rw [nthP_eq]; simp
          have := fillS_s (ρ := ρ) h
          rw [show nthP pl = fun i => pl.toArray[i]? from hn] at this
          exact this
        · cases hz
      · cases hz
    · cases h
  · rename_i m e z hu hz
    split at h
    · rename_i n hn
      unfold zcells at hz
      split at hz
      · rename_i i hi
        split at hz
        · rename_i v hv
          have hc : v.cells = (dens ρ z).toArray := by rw [ofCs_s hz]
          unfold szT at hn
          obtain ⟨ie, hie, rfl⟩ := Option.map_eq_some_iff.1 hn
          unfold Program.built
          simp only [hi, hu, hv, hie, hc]
          exact fillS_s (ρ := ρ) h
        · cases hz
      · cases hz
    · cases h
  · cases h
def ptrs (sl : TS) : List Operand → Option (List SP)
  | [] => some []
  | o :: l => match ev sl o with
    | some (.e (.c (.ptr (some p)))) => match ptrs sl l with
      | some r => some (p :: r)
      | none => none
    | _ => none
theorem ptrs_s {ρ : Rho} {a : Act} {sl : TS} (ha : Slots ρ sl a.tmps) : ∀ {l : List Operand} {r : List SP}, ptrs sl l = some r →
    l.map a.eval = r.map fun p => .pointer (some (pden ρ p))
  | [], r, h => by injection h with h; subst h; rfl
  | o :: l, r, h => by
    unfold ptrs at h
    split at h
    · rename_i p hx
      split at h
      · rename_i q hq
        injection h with h
        subst h
        rw [List.map_cons, List.map_cons, ptrs_s ha hq, ev_s ha hx]
        rfl
      · cases h
    · cases h
def cvs (sl : TS) : List Operand → Option (List Value)
  | [] => some []
  | o :: l => match ev sl o with
    | some s => match cv s, cvs sl l with
      | some v, some r => some (v :: r)
      | _, _ => none
    | none => none
theorem cvs_s {ρ : Rho} {a : Act} {sl : TS} (ha : Slots ρ sl a.tmps) : ∀ {l : List Operand} {r : List Value}, cvs sl l = some r → l.map a.eval = r
  | [], r, h => by cases h; rfl
  | o :: l, r, h => by
    unfold cvs at h
    split at h
    · rename_i s hs
      split at h
      · rename_i v q hv hq
        injection h with h
        subst h
        rw [List.map_cons, cvs_s ha hq, ev_s ha hs, cv_s hv]
      · cases h
    · cases h
/-- what an interface may hold -/
def toA : SC → Option S0
  | .int k n => some (.int k n)
  | .bool b => some (.bool b)
  | .str s => some (.str s)
  | .ptr a => some (.ptr a)
  | .slice a n c => some (.slice a n c)
  | .emp g o c => some (.emp g o c)
  | .map a => some (.map a)
  | .func f x y => some (.func f x y)
  | .nilFunc => some .nilFunc
  | .nilIface => some .nilIface
  | .yld g => some (.yld g)
  | .ifc _ _ => none
def ofA : S0 → SC
  | .int k n => .int k n
  | .bool b => .bool b
  | .str s => .str s
  | .ptr a => .ptr a
  | .slice a n c => .slice a n c
  | .emp g o c => .emp g o c
  | .map a => .map a
  | .func f x y => .func f x y
  | .nilFunc => .nilFunc
  | .nilIface => .nilIface
  | .yld g => .yld g
  | .ifc _ x => x.elim
theorem toA_s {ρ : Rho} {x : SC} {y : S0} (h : toA x = some y) : SG.den ρ noV y = SC.den ρ x := by
  cases x <;> first | (injection h with h; subst h; rfl) | cases h
theorem ofA_s {ρ : Rho} (y : S0) : SC.den ρ (ofA y) = SG.den ρ noV y := by
  cases y <;> first | rfl | (rename_i x; exact x.elim)
def toAs : List SC → Option (List S0)
  | [] => some []
  | x :: l => match toA x, toAs l with
    | some y, some m => some (y :: m)
    | _, _ => none
theorem toAs_s {ρ : Rho} : ∀ {l : List SC} {m : List S0}, toAs l = some m → m.map (SG.den ρ noV) = dens ρ l
  | [], m, h => by injection h with h; subst h; rfl
  | x :: l, m, h => by
    unfold toAs at h
    split at h
    · rename_i hy hm
      injection h with h
      subst h
      show _ :: _ = _ :: dens ρ l
      rw [toA_s hy, toAs_s hm]
    · cases h
def toX : SE → Option SX
  | .c x => (toA x).map .c
  | .a xs => (toAs xs).map .a
def ofX : SX → SE
  | .c x => .c (ofA x)
  | .a xs => .a (xs.map ofA)
theorem toX_s {ρ : Rho} {v : SE} {x : SX} (h : toX v = some x) : x.den ρ = v.den ρ := by
  cases v with
  | c y =>
    obtain ⟨z, hz, rfl⟩ := Option.map_eq_some_iff.1 h
    exact toA_s hz
  | a ys =>
    obtain ⟨z, hz, rfl⟩ := Option.map_eq_some_iff.1 h
    show Value.agg _ = Value.agg _
    rw [toAs_s hz]
theorem ofX_s {ρ : Rho} (x : SX) : (ofX x).den ρ = x.den ρ := by
  cases x with
  | c y => exact ofA_s y
  | a ys =>
    show Value.agg (dens ρ (ys.map ofA)).toArray = Value.agg _
    unfold dens
    rw [List.map_map]
    congr 2
    exact List.map_congr_left fun y _ => ofA_s y
def isIf : Option TypeDesc → Bool
  | some (.interface _) => true
  | some _ => false
  | none => true
def mkIf (P : Program) (T : TypeId) (x : SV) : Option SV := match isIf (P.underlying T), x with
  | false, .e v => match toX v with
    | some p => some (.e (.c (.ifc T p)))
    | none => none
  | _, _ => none
theorem mkIf_s {P : Program} {ρ : Rho} {T : TypeId} {x s : SV} (h : mkIf P T x = some s) (w : World) : (Instr.makeInterface T (x.den ρ)).run P w = .ok (s.den ρ) w := by
  unfold mkIf at h
  split at h
  · rename_i v hi
    split at h
    · rename_i p hp
      injection h with h
      subst h
      have e : (SV.e v).den ρ = p.den ρ := (toX_s hp).symm
      rw [e]
      cases hu : P.underlying T with
      | none => rw [hu] at hi; cases hi
      | some d =>
        rw [hu] at hi
        cases d <;> first | (cases hi; done) | (simp [Instr.makeInterface, run_underlying hu]; rfl)
    · cases h
  · cases h
def asIf (P : Program) (x : SV) (T : TypeId) (ok : Bool) : Option SV := match isIf (P.underlying T), x with
  | false, .e (.c (.ifc t p)) => match Nat.beq t T with
    | true => match ok with
      | true => some (.t [ofX p, .c (.bool true)])
      | false => some (.e (ofX p))
    | false => none
  | _, _ => none
theorem asIf_s {P : Program} {ρ : Rho} {x s : SV} {xT T : TypeId} {ok : Bool} (h : asIf P x T ok = some s) (w : World) : (Instr.typeAssert (x.den ρ) xT T ok).run P w = .ok (s.den ρ) w := by
  unfold asIf at h
  split at h
  · rename_i t p hi
    split at h
    · rename_i ht
      have ht := Nat.eq_of_beq_eq_true ht
      subst ht
      have key : (Instr.typeAssert (.iface t (p.den ρ)) xT t ok).run P w = .ok (if ok then .tuple #[p.den ρ, .bool true] else p.den ρ) w := by
        cases hu : P.underlying t with
        | none => rw [hu] at hi; cases hi
        | some d =>
          rw [hu] at hi
          cases d <;> first | (cases hi; done) | (simp [Instr.typeAssert, run_underlying hu]; done)
      have e : (SV.e (.c (.ifc t p))).den ρ = .iface t (p.den ρ) := rfl
      rw [e, key]
      split at h
      · injection h with h
        subst h
        show Result.ok (Value.tuple #[p.den ρ, .bool true]) w = .ok (Value.tuple #[(ofX p).den ρ, .bool true]) w
        rw [ofX_s]
      · injection h with h
        subst h
        show Result.ok (p.den ρ) w = .ok ((ofX p).den ρ) w
        rw [ofX_s]
    · cases h
  · cases h
/-- len, cap, min, max of what has no names; len of a slice -/
def blt (P : Program) (b : Builtin) (sl : TS) (args : List Operand) (ats : Array TypeId) (ty : TypeId) : Option SV := match b, args with
  | .len, [x] => match ev sl x, ats.toList with
    | some (.e (.c (.slice _ n _))), [t] => match P.underlying t with
      | some (.slice _) => some (.e (.c (.int .i64 (n : Int))))
      | _ => none
    | some (.e (.c (.emp _ _ _))), [t] => match P.underlying t with
      | some (.slice _) => some (.e (.c (.int .i64 0)))
      | _ => none
    | some s, _ => match cv s with
      | some v => (pureRun P (Builtin.len_ ats ty #[v])).bind ofV
      | none => none
    | none, _ => none
  | .cap, [x] => match ev sl x, ats.toList with
    | some (.e (.c (.slice _ n ⟨k, none⟩))), [t] => match P.underlying t with
      | some (.slice _) => some (.e (.c (.int .i64 ((n + k : Nat) : Int))))
      | _ => none
    | _, _ => none
  | .max, l => match cvs sl l with
    | some vs => (pureRun P (Builtin.max_ ats ty vs.toArray)).bind ofV
    | none => none
  | .min, l => match cvs sl l with
    | some vs => (pureRun P (Builtin.min_ ats ty vs.toArray)).bind ofV
    | none => none
  | _, _ => none
def pureOp (P : Program) (sl : TS) (ty : TypeId) : Op → Option SV
  | .move x => ev sl x
  | .assign x => ev sl x
  | .pick c a b => match ev sl c with
    | some (.e (.c (.bool true))) => ev sl a
    | some (.e (.c (.bool false))) => ev sl b
    | _ => none
  | .nilCheck x => match ev sl x with
    | some (.e (.c (.ptr (some p)))) => some (.e (.c (.ptr (some p))))
    | some (.e (.c (.func (.func f) x y))) => some (.e (.c (.func (.func f) x y)))
    | _ => none
  | .binOp op T x y _ => match ev sl x, ev sl y with
    | some sx, some sy => bin P op T x y sx sy
    | _, _ => none
  | .unOp op _ x => match ev sl x with
    | some s => match cv s with
      | some v => (pureRun P (Op.unary op v)).bind ofV
      | none => none
    | none => none
  | .convert src dst x => match ev sl x with
    | some s => match cv s with
      | some v => (pureRun P (convert src dst v)).bind ofV
      | none => none
    | none => none
  | .makeFunc fn first captured => match ptrs sl first.toList, ptrs sl captured.toList with
    | some x, some y => some (.e (.c (.func fn x y)))
    | _, _ => none
  | .fieldAddr T x f => (ev sl x).bind (fldA P T f)
  | .field T x f => (ev sl x).bind (fld P T f)
  | .indexAddr T x i => match ev sl x, ev sl i with
    | some x, some i => idxA P T x i
    | _, _ => none
  | .index T x i => match ev sl x, ev sl i with
    | some x, some i => idx P T x i
    | _, _ => none
  | .extract x i => (ev sl x).bind (ext i)
  | .build T ps => match parts sl ps.toList with
    | some r => (bld P T r).map fun xs => .e (.a xs)
    | none => none
  | .makeInterface T x => (ev sl x).bind (mkIf P T)
  | .typeAssert x _ T ok => match ev sl x with
    | some x => asIf P x T ok
    | none => none
  | .call c => match c.callee with
    | .builtin b => blt P b sl c.args.toList c.argTypes ty
    | _ => none
  | _ => none
theorem pureOp_s {P : Program} {ρ : Rho} {a : Act} {sl : TS} (ha : Slots ρ sl a.tmps) {o : Oper} {s : SV} (h : pureOp P sl o.type o.op = some s) (w : World) :
    (execOp a.eval o).run P w = .ok (.value (s.den ρ)) w := by
  unfold execOp
  cases hop : o.op <;> rw [hop] at h <;> first | cases h | simp only [pureOp] at h
  case move x => simp [ev_s ha h]
  case assign x => simp [ev_s ha h]
  case pick c x y =>
    split at h
    · rename_i hc
      have := ev_s ha hc
      simp [this, SV.den, SE.den, SC.den, SG.den, asBool, ev_s ha h]
    · rename_i hc
      have := ev_s ha hc
      simp [this, SV.den, SE.den, SC.den, SG.den, asBool, ev_s ha h]
    · cases h
  case nilCheck x =>
    split at h
    · rename_i p hc
      injection h with h
      subst h
      have := ev_s ha hc
      simp [this, SV.den, SE.den, SC.den, SG.den]
    · rename_i f x y hc
      injection h with h
      subst h
      have := ev_s ha hc
      simp [this, SV.den, SE.den, SC.den, SG.den]
    · cases h
  case binOp op T x y yt =>
    split at h
    · rename_i sx sy hx hy
      have := bin_s (ρ := ρ) h w
      simp only [ev_s ha hx, ev_s ha hy]
      rw [Sem.run_bind, this]
      rfl
    · cases h
  case unOp op T x =>
    split at h
    · rename_i s hs
      split at h
      · rename_i v hv
        obtain ⟨r, h1, h2⟩ := Option.bind_eq_some_iff.1 h
        simp only [ev_s ha hs, cv_s hv]
        rw [Sem.run_bind, pureRun_s h1, ofV_s h2]
        rfl
      · cases h
    · cases h
  case convert src dst x =>
    split at h
    · rename_i s hs
      split at h
      · rename_i v hv
        obtain ⟨r, h1, h2⟩ := Option.bind_eq_some_iff.1 h
        simp only [ev_s ha hs, cv_s hv]
        rw [Sem.run_bind, pureRun_s h1, ofV_s h2]
        rfl
      · cases h
    · cases h
  case makeFunc fn first cap =>
    split at h
    · rename_i x y hx hy
      injection h with h
      subst h
      have h1 : first.map a.eval = (x.map fun p => Value.pointer (some (pden ρ p))).toArray := Array.toList_inj.1 (by rw [Array.toList_map, ptrs_s ha hx])
      have h2 : cap.map a.eval = (y.map fun p => Value.pointer (some (pden ρ p))).toArray := Array.toList_inj.1 (by rw [Array.toList_map, ptrs_s ha hy])
      simp [Instr.makeFunc, h1, h2, SV.den, SE.den, SC.den, SG.den]
    · cases h
  case fieldAddr T x f =>
    obtain ⟨s', hs, h⟩ := Option.bind_eq_some_iff.1 h
    simp only [ev_s ha hs]
    rw [Sem.run_bind, fldA_s h]
    rfl
  case field T x f =>
    obtain ⟨s', hs, h⟩ := Option.bind_eq_some_iff.1 h
    simp only [ev_s ha hs]
    rw [Sem.run_bind, fld_s h]
    rfl
  case indexAddr T x i =>
    split at h
    · rename_i hx hi
      simp only [ev_s ha hx, ev_s ha hi]
      rw [Sem.run_bind, idxA_s h]
      rfl
    · cases h
  case index T x i =>
    split at h
    · rename_i hx hi
      simp only [ev_s ha hx, ev_s ha hi]
      rw [Sem.run_bind, idx_s h]
      rfl
    · cases h
  case extract x i =>
    obtain ⟨s', hs, h⟩ := Option.bind_eq_some_iff.1 h
    simp only [ev_s ha hs]
    rw [Sem.run_bind, ext_s h]
    rfl
  case build T ps =>
    split at h
    · rename_i r hr
      obtain ⟨xs, hx, rfl⟩ := Option.map_eq_some_iff.1 h
      have hp := parts_s ha hr
      have hb := bld_s (ρ := ρ) hx _ hp
      have := run_build (P := P) w T (ps.map fun (i, x) => (i, a.eval x)) (dens ρ xs).toArray (by simpa using hb)
      rw [Sem.run_bind, this]
      rfl
    · cases h
  case makeInterface T x =>
    obtain ⟨s', hs, h⟩ := Option.bind_eq_some_iff.1 h
    simp only [ev_s ha hs]
    rw [Sem.run_bind, mkIf_s h]
    rfl
  case typeAssert x xT T ok =>
    split at h
    · rename_i hs
      simp only [ev_s ha hs]
      rw [Sem.run_bind, asIf_s h]
      rfl
    · cases h
  case call c =>
    split at h
    · rename_i b hb
      have hr : ∀ w, (resolve a.eval c o.type).run P w = .ok { target := .builtin b c.argTypes o.type (c.args.map fun | .const _ => true | _ => false), args := c.args.map a.eval } w := fun w => by
        simp only [resolve, hb]
        rfl
      rw [Sem.run_bind, hr]
      simp only [Result.andThen, invoke]
      unfold blt at h
      split at h
      · rename_i x hargs
        have hx : c.args.map a.eval = #[a.eval x] := by
          rw [← Array.toList_inj]; simp [hargs]
        split at h
        · rename_i a' n c' t he hat
          split at h
          · rename_i e hu
            injection h with h
            subst h
            have hat : c.argTypes = #[t] := Array.toList_inj.1 hat
            have := ev_s ha he
            simp [builtin, Builtin.len_, hx, hat, this, SV.den, SE.den, SC.den, SG.den, run_underlying hu, goInt, Result.andThen]
          · cases h
        · rename_i a' n c' t he hat
          split at h
          · rename_i e hu
            injection h with h
            subst h
            have hat : c.argTypes = #[t] := Array.toList_inj.1 hat
            have := ev_s ha he
            simp [builtin, Builtin.len_, hx, hat, this, SV.den, SE.den, SC.den, SG.den, run_underlying hu, goInt, Result.andThen]
          · cases h
        · rename_i s he _ _
          split at h
          · rename_i v hv
            obtain ⟨r, h1, h2⟩ := Option.bind_eq_some_iff.1 h
            simp only [builtin, hx, ev_s ha he, cv_s hv]
            rw [Sem.run_bind, pureRun_s h1, ofV_s h2]
            rfl
          · cases h
        · cases h
      · rename_i x hargs
        have hx : c.args.map a.eval = #[a.eval x] := by
          rw [← Array.toList_inj]; simp [hargs]
        split at h
        · rename_i a' n' n t he hat
          split at h
          · rename_i e hu
            injection h with h
            subst h
            have hat : c.argTypes = #[t] := Array.toList_inj.1 hat
            have := ev_s ha he
            simp [builtin, Builtin.cap_, hx, hat, this, SV.den, SE.den, SC.den, SG.den, SK.den, run_underlying hu, goInt, Result.andThen]
          · cases h
        · cases h
      · split at h
        · rename_i vs hvs
          have hx : c.args.map a.eval = vs.toArray := Array.toList_inj.1 (by rw [Array.toList_map, cvs_s ha hvs])
          obtain ⟨r, h1, h2⟩ := Option.bind_eq_some_iff.1 h
          simp only [builtin, hx]
          rw [Sem.run_bind, pureRun_s h1, ofV_s h2]
          rfl
        · cases h
      · split at h
        · rename_i vs hvs
          have hx : c.args.map a.eval = vs.toArray := Array.toList_inj.1 (by rw [Array.toList_map, cvs_s ha hvs])
          obtain ⟨r, h1, h2⟩ := Option.bind_eq_some_iff.1 h
          simp only [builtin, hx]
          rw [Sem.run_bind, pureRun_s h1, ofV_s h2]
          rfl
        · cases h
      · cases h
    · cases h
end Kex
