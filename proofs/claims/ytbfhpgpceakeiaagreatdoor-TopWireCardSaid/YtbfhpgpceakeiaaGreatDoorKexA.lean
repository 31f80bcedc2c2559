/- Values, facts and states of a walk as data whose blocks are numbered; what they stand for; equal by test; told by other numbers. Over any program; no conditions. -/
import Derived.Test.YtbfhpgpceakeiaaGreatDoorTopSt
import Derived.Test.YtbfhpgpceakeiaaGreatDoorKexM
namespace Kex
open Go Go.RowKit Kin

/-- a number that is known, or one that has a name -/
inductive SN where
  | k (n : Nat)
  | v (i : Nat)
abbrev SP := SN × Nat
/-- the room behind a slice: a number, and perhaps one that has a name -/
structure SK where
  k : Nat
  v : Option Nat
/-- cells over what an interface may hold -/
inductive SG (α : Type) where
  | int (k : IntKind) (n : Int)
  | bool (b : Bool)
  | str (s : ByteArray)
  | ptr (a : Option SP)
  | slice (a : Option SP) (n : Nat) (c : SK)
  | emp (g o : SN) (c : SK)
  | map (a : Option SN)
  | func (f : Fn) (first cap : List SP)
  | nilFunc
  | nilIface
  | ifc (t : TypeId) (x : α)
  | yld (g : SN)
abbrev S0 := SG Empty
inductive SX where
  | c (x : S0)
  | a (xs : List S0)
abbrev SC := SG SX
inductive SE where
  | c (x : SC)
  | a (xs : List SC)
inductive SV where
  | e (x : SE)
  | t (xs : List SE)
/-- what lies in a block: all of it; its beginning, the room being told; its beginning, only read; a map -/
inductive SF where
  | blk (g : SN) (t : TypeId) (cs : List SC)
  | gro (g : SN) (t : TypeId) (m n : Nat) (c : SK) (cs : List SC)
  | ro (g : SN) (cs : List SC)
  | map (g : SN) (es : List (SC × SE × Nat)) (n : Nat)
  | itr (g : SN) (s : ByteArray) (pos : Nat)
abbrev Rho := Nat → Nat
section
variable (ρ : Rho)
def SN.den : SN → Nat
  | .k n => n
  | .v i => ρ i
def SK.den (x : SK) : Nat := match x.v with
  | none => x.k
  | some i => x.k + ρ i
def pden (p : SP) : Addr := ⟨p.1.den ρ, p.2, none⟩
def SG.den {α : Type} (d : α → Value) : SG α → Value
  | .int k n => .int k n
  | .bool b => .bool b
  | .str s => .string s
  | .ptr a => .pointer (a.map (pden ρ))
  | .slice a n c => .slice (a.map (pden ρ)) n (n + c.den ρ)
  | .emp g o c => .slice (some ⟨g.den ρ, o.den ρ, none⟩) 0 (c.den ρ)
  | .map a => .map (a.map (SN.den ρ))
  | .func f first cap => .func f (first.map fun p => .pointer (some (pden ρ p))).toArray (cap.map fun p => .pointer (some (pden ρ p))).toArray
  | .nilFunc => .nilFunc
  | .nilIface => .nilIface
  | .ifc t x => .iface t (d x)
  | .yld g => .func (.yield (g.den ρ)) #[] #[]
def noV : Empty → Value := fun x => x.elim
def SX.den : SX → Value
  | .c x => SG.den ρ noV x
  | .a xs => .agg (xs.map (SG.den ρ noV)).toArray
def SC.den (x : SC) : Value := SG.den ρ (SX.den ρ) x
def dens (xs : List SC) : List Value := xs.map (SC.den ρ)
def SE.den : SE → Value
  | .c x => SC.den ρ x
  | .a xs => .agg (dens ρ xs).toArray
def SV.den : SV → Value
  | .e x => x.den ρ
  | .t xs => .tuple (xs.map (SE.den ρ)).toArray
def eden (x : SC × SE × Nat) : MapEntry := { key := SC.den ρ x.1, val := x.2.1.den ρ, born := x.2.2 }
end
/-- a block's beginning, and its room -/
abbrev Fact.gro (g : Nat) (t : TypeId) (m n c : Nat) (xs : List Value) : Fact :=
  ⟨[g], fun w => ∃ cur fz, w.heap[g]? = some (.cells cur t fz) ∧ Soft fz cur.size ∧ xs.length = n * m ∧ cur.size = (n + c) * m ∧ n + c ≤ maxLen ∧ cur.toList.take xs.length = xs,
   fun w w' h ⟨cur, fz, h1, r⟩ => ⟨cur, fz, (h g (List.mem_singleton.2 rfl)).trans h1, r⟩, fun w ⟨cur, fz, h1, _⟩ k hk => by rw [List.mem_singleton.1 hk]; exact (Array.getElem?_eq_some_iff.1 h1).1⟩
/-- a block's beginning -/
abbrev Fact.rdc (g : Nat) (xs : List Value) : Fact :=
  ⟨[g], fun w => g < w.heap.size ∧ ∀ j v, xs[j]? = some v → w.cell? ⟨g, j, none⟩ = some v,
   fun w w' h ⟨h1, h2⟩ => ⟨heap_lt (h g (List.mem_singleton.2 rfl)) h1, fun j v hv => (World.cell?_of_block (a := ⟨g, j, none⟩) (h g (List.mem_singleton.2 rfl))).trans (h2 j v hv)⟩, fun w ⟨h1, _⟩ k hk => by rw [List.mem_singleton.1 hk]; exact h1⟩
/-- a walk over a text -/
abbrev Fact.itr (g : Nat) (s : ByteArray) (pos : Nat) : Fact :=
  ⟨[g], fun w => w.heap[g]? = some (.stringIter s pos), fun w w' h hb => (h g (List.mem_singleton.2 rfl)).trans hb, fun w hb k hk => by rw [List.mem_singleton.1 hk]; exact (Array.getElem?_eq_some_iff.1 hb).1⟩
def SF.den (ρ : Rho) : SF → Fac
  | .blk g t cs => Fac.blk (g.den ρ) t (dens ρ cs).toArray
  | .gro g t m n c cs => Fac.of (Fact.gro (g.den ρ) t m n (c.den ρ) (dens ρ cs))
  | .ro g cs => Fac.ro (Fac.of (Fact.rdc (g.den ρ) (dens ρ cs)))
  | .map g es n => Fac.map (g.den ρ) (es.map (eden ρ)).toArray n
  | .itr g s p => Fac.of (Fact.itr (g.den ρ) s p)
-- all names meet a test
section
variable (p : Nat → Bool)
def SN.al : SN → Bool
  | .k _ => true
  | .v i => p i
def SK.al (x : SK) : Bool := match x.v with
  | none => true
  | some i => p i
def SG.al {α : Type} (q : α → Bool) : SG α → Bool
  | .ptr (some a) => a.1.al p
  | .slice (some a) _ c => a.1.al p && c.al p
  | .slice none _ c => c.al p
  | .emp g o c => g.al p && o.al p && c.al p
  | .map (some a) => a.al p
  | .func _ first cap => first.all (fun q => q.1.al p) && cap.all (fun q => q.1.al p)
  | .ifc _ x => q x
  | .yld g => g.al p
  | _ => true
def noB : Empty → Bool := fun x => x.elim
def SX.al : SX → Bool
  | .c x => SG.al p noB x
  | .a xs => xs.all (SG.al p noB)
def SC.al (x : SC) : Bool := SG.al p (SX.al p) x
def SE.al : SE → Bool
  | .c x => SC.al p x
  | .a xs => xs.all (SC.al p)
def SV.al : SV → Bool
  | .e x => x.al p
  | .t xs => xs.all (SE.al p)
def SF.al : SF → Bool
  | .blk g _ cs => g.al p && cs.all (SC.al p)
  | .gro g _ _ _ c cs => g.al p && c.al p && cs.all (SC.al p)
  | .ro g cs => g.al p && cs.all (SC.al p)
  | .map g es _ => g.al p && es.all (fun x => SC.al p x.1 && x.2.1.al p)
  | .itr g _ _ => g.al p
end
section
variable {p : Nat → Bool} {ρ ρ' : Rho} (h : ∀ i, p i = true → ρ' i = ρ i)
include h
theorem SN.den_al {x : SN} (hx : x.al p = true) : x.den ρ' = x.den ρ := by
  cases x with
  | k n => rfl
  | v i => exact h i hx
theorem SK.den_al {x : SK} (hx : x.al p = true) : x.den ρ' = x.den ρ := by
  obtain ⟨k, v⟩ := x
  cases v with
  | none => rfl
  | some i => show k + ρ' i = k + ρ i; rw [h i hx]
theorem pden_al {x : SP} (hx : x.1.al p = true) : pden ρ' x = pden ρ x := by
  unfold pden
  rw [SN.den_al h hx]
omit h in
theorem map_al {α β : Type} {f g : α → β} {q : α → Bool} (hq : ∀ x, q x = true → f x = g x) : ∀ {l : List α}, l.all q = true → l.map f = l.map g
  | [], _ => rfl
  | x :: l, hl => by
    rw [List.all_cons, Bool.and_eq_true] at hl
    rw [List.map_cons, List.map_cons, hq x hl.1, map_al hq hl.2]
theorem SG.den_al {α : Type} {d d' : α → Value} {q : α → Bool} (hd : ∀ x, q x = true → d' x = d x) {x : SG α} (hx : x.al p q = true) : x.den ρ' d' = x.den ρ d := by
  cases x with
  | ptr a =>
    cases a with
    | none => rfl
    | some a => show Value.pointer (some _) = Value.pointer (some _); rw [pden_al h hx]
  | slice a n c =>
    cases a with
    | none => show Value.slice none n _ = Value.slice none n _; rw [SK.den_al h hx]
    | some a =>
      unfold SG.al at hx
      rw [Bool.and_eq_true] at hx
      show Value.slice (some _) n _ = Value.slice (some _) n _
      rw [SK.den_al h hx.2, pden_al h hx.1]
  | emp g o c =>
    unfold SG.al at hx
    rw [Bool.and_eq_true, Bool.and_eq_true] at hx
    show Value.slice (some ⟨_, _, none⟩) 0 _ = Value.slice (some ⟨_, _, none⟩) 0 _
    rw [SK.den_al h hx.2, SN.den_al h hx.1.1, SN.den_al h hx.1.2]
  | map a =>
    cases a with
    | none => rfl
    | some a => show Value.map (some _) = Value.map (some _); rw [SN.den_al h hx]
  | func f first cap =>
    unfold SG.al at hx
    rw [Bool.and_eq_true] at hx
    simp only [SG.den]
    rw [map_al (f := fun p => Value.pointer (some (pden ρ' p))) (g := fun p => Value.pointer (some (pden ρ p))) (q := fun q => q.1.al p) (fun x hq => by simp only [pden_al h hq]) hx.1,
      map_al (f := fun p => Value.pointer (some (pden ρ' p))) (g := fun p => Value.pointer (some (pden ρ p))) (q := fun q => q.1.al p) (fun x hq => by simp only [pden_al h hq]) hx.2]
  | ifc t x => show Value.iface t _ = Value.iface t _; rw [hd x hx]
  | yld g => show Value.func (.yield _) #[] #[] = Value.func (.yield _) #[] #[]; rw [SN.den_al h hx]
  | _ => rfl
theorem S0.den_al {x : S0} (hx : x.al p noB = true) : x.den ρ' noV = x.den ρ noV := SG.den_al h (fun x => x.elim) hx
theorem SX.den_al {x : SX} (hx : x.al p = true) : x.den ρ' = x.den ρ := by
  cases x with
  | c x => exact S0.den_al h hx
  | a xs => show Value.agg _ = Value.agg _; rw [map_al (fun _ hq => S0.den_al h hq) hx]
theorem SC.den_al {x : SC} (hx : SC.al p x = true) : SC.den ρ' x = SC.den ρ x := SG.den_al h (fun _ hq => SX.den_al h hq) hx
theorem dens_al {xs : List SC} (hx : xs.all (SC.al p) = true) : dens ρ' xs = dens ρ xs := map_al (fun _ hq => SC.den_al h hq) hx
theorem SE.den_al {x : SE} (hx : x.al p = true) : x.den ρ' = x.den ρ := by
  cases x with
  | c x => exact SC.den_al h hx
  | a xs => show Value.agg _ = Value.agg _; rw [dens_al h hx]
theorem SV.den_al {x : SV} (hx : x.al p = true) : x.den ρ' = x.den ρ := by
  cases x with
  | e x => exact SE.den_al h hx
  | t xs => show Value.tuple _ = Value.tuple _; rw [map_al (fun _ hq => SE.den_al h hq) hx]
theorem eden_al {x : SC × SE × Nat} (hx : (SC.al p x.1 && x.2.1.al p) = true) : eden ρ' x = eden ρ x := by
  rw [Bool.and_eq_true] at hx
  unfold eden
  rw [SC.den_al h hx.1, SE.den_al h hx.2]
theorem SF.den_al {x : SF} (hx : x.al p = true) : x.den ρ' = x.den ρ := by
  cases x with
  | blk g t cs =>
    unfold SF.al at hx
    rw [Bool.and_eq_true] at hx
    simp only [SF.den]
    rw [SN.den_al h hx.1, dens_al h hx.2]
  | gro g t m n c cs =>
    unfold SF.al at hx
    rw [Bool.and_eq_true, Bool.and_eq_true] at hx
    simp only [SF.den]
    rw [SN.den_al h hx.1.1, SK.den_al h hx.1.2, dens_al h hx.2]
  | ro g cs =>
    unfold SF.al at hx
    rw [Bool.and_eq_true] at hx
    simp only [SF.den]
    rw [SN.den_al h hx.1, dens_al h hx.2]
  | map g es n =>
    unfold SF.al at hx
    rw [Bool.and_eq_true] at hx
    simp only [SF.den]
    rw [SN.den_al h hx.1, map_al (fun _ hq => eden_al h hq) hx.2]
  | itr g s n => simp only [SF.den]; rw [SN.den_al h hx]
theorem SFs_al {L : List SF} (hx : L.all (SF.al p) = true) : L.map (SF.den ρ') = L.map (SF.den ρ) := map_al (fun _ hq => SF.den_al h hq) hx
end
-- names turned into others
section
variable (σ : Nat → SN)
def SN.sb : SN → SN
  | .k n => .k n
  | .v i => σ i
def SK.sb (x : SK) : SK := match x.v with
  | none => x
  | some i => match σ i with
    | .k n => ⟨x.k + n, none⟩
    | .v j => ⟨x.k, some j⟩
def psb (p : SP) : SP := (p.1.sb σ, p.2)
def SG.sb {α : Type} (s : α → α) : SG α → SG α
  | .ptr a => .ptr (a.map (psb σ))
  | .slice a n c => .slice (a.map (psb σ)) n (c.sb σ)
  | .emp g o c => .emp (g.sb σ) (o.sb σ) (c.sb σ)
  | .map a => .map (a.map (SN.sb σ))
  | .func f first cap => .func f (first.map (psb σ)) (cap.map (psb σ))
  | .ifc t x => .ifc t (s x)
  | .yld g => .yld (g.sb σ)
  | x => x
def noE : Empty → Empty := fun x => x
def SX.sb : SX → SX
  | .c x => .c (SG.sb σ noE x)
  | .a xs => .a (xs.map (SG.sb σ noE))
def SC.sb (x : SC) : SC := SG.sb σ (SX.sb σ) x
def SE.sb : SE → SE
  | .c x => .c (SC.sb σ x)
  | .a xs => .a (xs.map (SC.sb σ))
def SV.sb : SV → SV
  | .e x => .e (x.sb σ)
  | .t xs => .t (xs.map (SE.sb σ))
def SF.sb : SF → SF
  | .blk g t cs => .blk (g.sb σ) t (cs.map (SC.sb σ))
  | .gro g t m n c cs => .gro (g.sb σ) t m n (c.sb σ) (cs.map (SC.sb σ))
  | .ro g cs => .ro (g.sb σ) (cs.map (SC.sb σ))
  | .map g es n => .map (g.sb σ) (es.map fun x => (SC.sb σ x.1, x.2.1.sb σ, x.2.2)) n
  | .itr g s n => .itr (g.sb σ) s n
end
section
variable {p : Nat → Bool} {σ : Nat → SN} {ρ ρc : Rho} (h : ∀ i, p i = true → (σ i).den ρ = ρc i)
include h
theorem SN.den_sb {x : SN} (hx : x.al p = true) : (x.sb σ).den ρ = x.den ρc := by
  cases x with
  | k n => rfl
  | v i => exact h i hx
theorem SK.den_sb {x : SK} (hx : x.al p = true) : (x.sb σ).den ρ = x.den ρc := by
  obtain ⟨k, v⟩ := x
  cases v with
  | none => rfl
  | some i =>
    have e := h i hx
    unfold SK.sb
    simp only
    split
    · rename_i n hn
      rw [hn] at e
      show k + n = k + ρc i
      rw [← e]
      rfl
    · rename_i j hj
      rw [hj] at e
      show k + ρ j = k + ρc i
      rw [← e]
      rfl
theorem pden_sb {x : SP} (hx : x.1.al p = true) : pden ρ (psb σ x) = pden ρc x := by
  unfold pden psb
  rw [SN.den_sb h hx]
omit h in
theorem map_sb {α β γ : Type} {f : α → γ} {g : β → γ} {s : α → β} {q : α → Bool} (hq : ∀ x, q x = true → g (s x) = f x) : ∀ {l : List α}, l.all q = true → (l.map s).map g = l.map f
  | [], _ => rfl
  | x :: l, hl => by
    rw [List.all_cons, Bool.and_eq_true] at hl
    rw [List.map_cons, List.map_cons, List.map_cons, hq x hl.1, map_sb hq hl.2]
theorem SG.den_sb {α : Type} {d d' : α → Value} {s : α → α} {q : α → Bool} (hd : ∀ x, q x = true → d (s x) = d' x) {x : SG α} (hx : x.al p q = true) : (x.sb σ s).den ρ d = x.den ρc d' := by
  cases x with
  | ptr a =>
    cases a with
    | none => rfl
    | some a => show Value.pointer (some _) = Value.pointer (some _); rw [pden_sb h hx]
  | slice a n c =>
    cases a with
    | none => show Value.slice none n _ = Value.slice none n _; rw [SK.den_sb h hx]
    | some a =>
      unfold SG.al at hx
      rw [Bool.and_eq_true] at hx
      show Value.slice (some _) n _ = Value.slice (some _) n _
      rw [SK.den_sb h hx.2, pden_sb h hx.1]
  | emp g o c =>
    unfold SG.al at hx
    rw [Bool.and_eq_true, Bool.and_eq_true] at hx
    show Value.slice (some ⟨_, _, none⟩) 0 _ = Value.slice (some ⟨_, _, none⟩) 0 _
    rw [SK.den_sb h hx.2, SN.den_sb h hx.1.1, SN.den_sb h hx.1.2]
  | map a =>
    cases a with
    | none => rfl
    | some a => show Value.map (some _) = Value.map (some _); rw [SN.den_sb h hx]
  | func f first cap =>
    unfold SG.al at hx
    rw [Bool.and_eq_true] at hx
    simp only [SG.sb, SG.den]
    rw [map_sb (f := fun p => Value.pointer (some (pden ρc p))) (g := fun p => Value.pointer (some (pden ρ p))) (q := fun q => q.1.al p) (fun x hq => by simp only [pden_sb h hq]) hx.1,
      map_sb (f := fun p => Value.pointer (some (pden ρc p))) (g := fun p => Value.pointer (some (pden ρ p))) (q := fun q => q.1.al p) (fun x hq => by simp only [pden_sb h hq]) hx.2]
  | ifc t x => show Value.iface t _ = Value.iface t _; rw [hd x hx]
  | yld g => show Value.func (.yield _) #[] #[] = Value.func (.yield _) #[] #[]; rw [SN.den_sb h hx]
  | _ => rfl
theorem S0.den_sb {x : S0} (hx : x.al p noB = true) : (x.sb σ noE).den ρ noV = x.den ρc noV := SG.den_sb h (fun x => x.elim) hx
theorem SX.den_sb {x : SX} (hx : x.al p = true) : (x.sb σ).den ρ = x.den ρc := by
  cases x with
  | c x => exact S0.den_sb h hx
  | a xs => show Value.agg _ = Value.agg _; rw [map_sb (fun _ hq => S0.den_sb h hq) hx]
theorem SC.den_sb {x : SC} (hx : SC.al p x = true) : SC.den ρ (SC.sb σ x) = SC.den ρc x := SG.den_sb h (fun _ hq => SX.den_sb h hq) hx
theorem dens_sb {xs : List SC} (hx : xs.all (SC.al p) = true) : dens ρ (xs.map (SC.sb σ)) = dens ρc xs := map_sb (fun _ hq => SC.den_sb h hq) hx
theorem SE.den_sb {x : SE} (hx : x.al p = true) : (x.sb σ).den ρ = x.den ρc := by
  cases x with
  | c x => exact SC.den_sb h hx
  | a xs => show Value.agg _ = Value.agg _; rw [dens_sb h hx]
theorem SV.den_sb {x : SV} (hx : x.al p = true) : (x.sb σ).den ρ = x.den ρc := by
  cases x with
  | e x => exact SE.den_sb h hx
  | t xs => show Value.tuple _ = Value.tuple _; rw [map_sb (fun _ hq => SE.den_sb h hq) hx]
theorem SF.den_sb {x : SF} (hx : x.al p = true) : (x.sb σ).den ρ = x.den ρc := by
  cases x with
  | blk g t cs =>
    unfold SF.al at hx
    rw [Bool.and_eq_true] at hx
    simp only [SF.sb, SF.den]
    rw [SN.den_sb h hx.1, dens_sb h hx.2]
  | gro g t m n c cs =>
    unfold SF.al at hx
    rw [Bool.and_eq_true, Bool.and_eq_true] at hx
    simp only [SF.sb, SF.den]
    rw [SN.den_sb h hx.1.1, SK.den_sb h hx.1.2, dens_sb h hx.2]
  | ro g cs =>
    unfold SF.al at hx
    rw [Bool.and_eq_true] at hx
    simp only [SF.sb, SF.den]
    rw [SN.den_sb h hx.1, dens_sb h hx.2]
  | map g es n =>
    unfold SF.al at hx
    rw [Bool.and_eq_true] at hx
    simp only [SF.sb, SF.den]
    rw [SN.den_sb h hx.1, map_sb (f := eden ρc) (g := eden ρ) (q := fun x => SC.al p x.1 && x.2.1.al p) (fun x hq => by
      rw [Bool.and_eq_true] at hq
      unfold eden
      rw [SC.den_sb h hq.1, SE.den_sb h hq.2]) hx.2]
  | itr g s n => simp only [SF.sb, SF.den]; rw [SN.den_sb h hx]
theorem SFs_sb {L : List SF} (hx : L.all (SF.al p) = true) : (L.map (SF.sb σ)).map (SF.den ρ) = L.map (SF.den ρc) := map_sb (fun _ hq => SF.den_sb h hq) hx
theorem SVs_sb {L : List SV} (hx : L.all (SV.al p) = true) : (L.map (SV.sb σ)).map (SV.den ρ) = L.map (SV.den ρc) := map_sb (fun _ hq => SV.den_sb h hq) hx
end
/-- equal by test -/
def eqL {α : Type} (f : α → α → Bool) : List α → List α → Bool
  | [], [] => true
  | x :: l, y :: m => f x y && eqL f l m
  | _, _ => false
theorem eqL_s {α : Type} {f : α → α → Bool} (hf : ∀ x y, f x y = true → x = y) : ∀ {l m : List α}, eqL f l m = true → l = m
  | [], [], _ => rfl
  | x :: l, y :: m, h => by
    unfold eqL at h
    rw [Bool.and_eq_true] at h
    rw [hf x y h.1, eqL_s hf h.2]
  | [], _ :: _, h => by cases h
  | _ :: _, [], h => by cases h
def eqO {α : Type} (f : α → α → Bool) : Option α → Option α → Bool
  | none, none => true
  | some x, some y => f x y
  | _, _ => false
theorem eqO_s {α : Type} {f : α → α → Bool} (hf : ∀ x y, f x y = true → x = y) {a b : Option α} (h : eqO f a b = true) : a = b := by
  cases a <;> cases b
  · rfl
  · cases h
  · cases h
  · rw [hf _ _ h]
def eqI : Int → Int → Bool
  | .ofNat a, .ofNat b => Nat.beq a b
  | .negSucc a, .negSucc b => Nat.beq a b
  | _, _ => false
theorem eqI_s : ∀ {a b : Int}, eqI a b = true → a = b
  | .ofNat _, .ofNat _, h => by rw [Nat.eq_of_beq_eq_true h]
  | .negSucc _, .negSucc _, h => by rw [Nat.eq_of_beq_eq_true h]
  | .ofNat _, .negSucc _, h => by cases h
  | .negSucc _, .ofNat _, h => by cases h
def eqU (a b : UInt8) : Bool := Nat.beq a.toNat b.toNat
theorem eqU_s {a b : UInt8} (h : eqU a b = true) : a = b := UInt8.toNat_inj.1 (Nat.eq_of_beq_eq_true h)
def eqY (a b : ByteArray) : Bool := eqL eqU a.data.toList b.data.toList
theorem eqY_s {a b : ByteArray} (h : eqY a b = true) : a = b := by
  have := eqL_s (fun _ _ => eqU_s) h
  cases a; cases b
  congr 1
  exact Array.toList_inj.1 this
def eqFn : Fn → Fn → Bool
  | .func a, .func b => Nat.beq a b
  | _, _ => false
theorem eqFn_s : ∀ {a b : Fn}, eqFn a b = true → a = b
  | .func _, .func _, h => by rw [Nat.eq_of_beq_eq_true h]
def SN.eq : SN → SN → Bool
  | .k a, .k b => Nat.beq a b
  | .v a, .v b => Nat.beq a b
  | _, _ => false
theorem SN.eq_s : ∀ {a b : SN}, SN.eq a b = true → a = b
  | .k _, .k _, h => by rw [Nat.eq_of_beq_eq_true h]
  | .v _, .v _, h => by rw [Nat.eq_of_beq_eq_true h]
def SK.eq (a b : SK) : Bool := Nat.beq a.k b.k && eqO Nat.beq a.v b.v
theorem SK.eq_s {a b : SK} (h : SK.eq a b = true) : a = b := by
  unfold SK.eq at h
  rw [Bool.and_eq_true] at h
  obtain ⟨k, v⟩ := a
  obtain ⟨k', v'⟩ := b
  have h1 : k = k' := Nat.eq_of_beq_eq_true h.1
  have h2 : v = v' := eqO_s (fun _ _ => Nat.eq_of_beq_eq_true) h.2
  rw [h1, h2]
def eqP (a b : SP) : Bool := a.1.eq b.1 && Nat.beq a.2 b.2
theorem eqP_s {a b : SP} (h : eqP a b = true) : a = b := by
  unfold eqP at h
  rw [Bool.and_eq_true] at h
  exact Prod.ext (SN.eq_s h.1) (Nat.eq_of_beq_eq_true h.2)
def SG.eq {α : Type} (q : α → α → Bool) : SG α → SG α → Bool
  | .int k n, .int k' n' => decide (k = k') && eqI n n'
  | .bool a, .bool b => a == b
  | .str a, .str b => eqY a b
  | .ptr a, .ptr b => eqO eqP a b
  | .slice a n c, .slice a' n' c' => eqO eqP a a' && Nat.beq n n' && c.eq c'
  | .emp g o c, .emp g' o' c' => g.eq g' && o.eq o' && c.eq c'
  | .map a, .map b => eqO SN.eq a b
  | .func f x y, .func f' x' y' => eqFn f f' && eqL eqP x x' && eqL eqP y y'
  | .nilFunc, .nilFunc => true
  | .nilIface, .nilIface => true
  | .ifc t x, .ifc t' x' => Nat.beq t t' && q x x'
  | .yld a, .yld b => a.eq b
  | _, _ => false
theorem SG.eq_s {α : Type} {q : α → α → Bool} (hq : ∀ x y, q x y = true → x = y) {a b : SG α} (h : SG.eq q a b = true) : a = b := by
  cases a <;> cases b <;> first | rfl | (exfalso; exact Bool.noConfusion h) | (unfold SG.eq at h; simp only [Bool.and_eq_true, decide_eq_true_eq, beq_iff_eq] at h)
  · rw [h.1, eqI_s h.2]
  · rw [h]
  · rw [eqY_s h]
  · rw [eqO_s (fun _ _ => eqP_s) h]
  · rw [eqO_s (fun _ _ => eqP_s) h.1.1, Nat.eq_of_beq_eq_true h.1.2, SK.eq_s h.2]
  · rw [SN.eq_s h.1.1, SN.eq_s h.1.2, SK.eq_s h.2]
  · rw [eqO_s (fun _ _ => SN.eq_s) h]
  · rw [eqFn_s h.1.1, eqL_s (fun _ _ => eqP_s) h.1.2, eqL_s (fun _ _ => eqP_s) h.2]
  · rw [Nat.eq_of_beq_eq_true h.1, hq _ _ h.2]
  · rw [SN.eq_s h]
def noQ : Empty → Empty → Bool := fun x => x.elim
def SX.eq : SX → SX → Bool
  | .c x, .c y => SG.eq noQ x y
  | .a x, .a y => eqL (SG.eq noQ) x y
  | _, _ => false
theorem SX.eq_s : ∀ {a b : SX}, SX.eq a b = true → a = b
  | .c _, .c _, h => by rw [SG.eq_s (fun x => x.elim) h]
  | .a _, .a _, h => by rw [eqL_s (fun _ _ => SG.eq_s (fun x => x.elim)) h]
def SC.eq (a b : SC) : Bool := SG.eq SX.eq a b
theorem SC.eq_s {a b : SC} (h : SC.eq a b = true) : a = b := SG.eq_s (fun _ _ => SX.eq_s) h
def SE.eq : SE → SE → Bool
  | .c x, .c y => SC.eq x y
  | .a x, .a y => eqL SC.eq x y
  | _, _ => false
theorem SE.eq_s : ∀ {a b : SE}, SE.eq a b = true → a = b
  | .c _, .c _, h => by rw [SC.eq_s h]
  | .a _, .a _, h => by rw [eqL_s (fun _ _ => SC.eq_s) h]
def SV.eq : SV → SV → Bool
  | .e x, .e y => x.eq y
  | .t x, .t y => eqL SE.eq x y
  | _, _ => false
theorem SV.eq_s : ∀ {a b : SV}, SV.eq a b = true → a = b
  | .e _, .e _, h => by rw [SE.eq_s h]
  | .t _, .t _, h => by rw [eqL_s (fun _ _ => SE.eq_s) h]
def eqE (x y : SC × SE × Nat) : Bool := SC.eq x.1 y.1 && x.2.1.eq y.2.1 && Nat.beq x.2.2 y.2.2
theorem eqE_s {x y : SC × SE × Nat} (h : eqE x y = true) : x = y := by
  unfold eqE at h
  rw [Bool.and_eq_true, Bool.and_eq_true] at h
  exact Prod.ext (SC.eq_s h.1.1) (Prod.ext (SE.eq_s h.1.2) (Nat.eq_of_beq_eq_true h.2))
def SF.eq : SF → SF → Bool
  | .blk g t cs, .blk g' t' cs' => g.eq g' && Nat.beq t t' && eqL SC.eq cs cs'
  | .gro g t m n c cs, .gro g' t' m' n' c' cs' => g.eq g' && Nat.beq t t' && Nat.beq m m' && Nat.beq n n' && c.eq c' && eqL SC.eq cs cs'
  | .ro g cs, .ro g' cs' => g.eq g' && eqL SC.eq cs cs'
  | .map g es n, .map g' es' n' => g.eq g' && eqL eqE es es' && Nat.beq n n'
  | .itr g s n, .itr g' s' n' => g.eq g' && eqY s s' && Nat.beq n n'
  | _, _ => false
theorem SF.eq_s {a b : SF} (h : SF.eq a b = true) : a = b := by
  cases a <;> cases b <;> first | (exfalso; exact Bool.noConfusion h) | (unfold SF.eq at h; simp only [Bool.and_eq_true] at h)
  · rw [SN.eq_s h.1.1, Nat.eq_of_beq_eq_true h.1.2, eqL_s (fun _ _ => SC.eq_s) h.2]
  · obtain ⟨⟨⟨⟨⟨h1, h2⟩, h3⟩, h6⟩, h4⟩, h5⟩ := h
    rw [SN.eq_s h1, Nat.eq_of_beq_eq_true h2, Nat.eq_of_beq_eq_true h3, Nat.eq_of_beq_eq_true h6, SK.eq_s h4, eqL_s (fun _ _ => SC.eq_s) h5]
  · rw [SN.eq_s h.1, eqL_s (fun _ _ => SC.eq_s) h.2]
  · rw [SN.eq_s h.1.1, eqL_s (fun _ _ => eqE_s) h.1.2, Nat.eq_of_beq_eq_true h.2]
  · rw [SN.eq_s h.1.1, eqY_s h.1.2, Nat.eq_of_beq_eq_true h.2]
end Kex
