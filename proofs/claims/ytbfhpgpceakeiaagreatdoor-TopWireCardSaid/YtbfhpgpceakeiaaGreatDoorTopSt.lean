/- What a walk owns, what it only reads, and what it has changed so far, as one fact that is carried over a call at once. Over any program; no conditions. -/
import Derived.Test.YtbfhpgpceakeiaaGreatDoorTopAll
import Derived.Test.YtbfhpgpceakeiaaGreatDoorOwnR
import Derived.Laws.ResultCell
import Derived.Deep.MidRow
import Derived.Laws.Tables
namespace Kin
open Go Go.RowKit

theorem results_tmp_cell {fn : Func} {p u : Tmp} {ty : TypeId} (h : fn.results = #[.tmp u, .cell p ty]) (tmps : Array Value) (P : Program) (w : World) :
    (results fn tmps).run P w =
      ((asAddr (tmps.getD p undef)).run P w).andThen fun a w₁ => ((loadVar ty a).run P w₁).andThen fun v w₂ => .ok (.tuple #[tmps.getD u undef, v]) w₂ := by
  simp only [results, h]
  simp [Sem.run_bind, Result.andThen]
theorem results_tmp_cell_tmp {fn : Func} {p u v : Tmp} {ty : TypeId} (h : fn.results = #[.tmp u, .cell p ty, .tmp v]) (tmps : Array Value) (P : Program) (w : World) :
    (results fn tmps).run P w =
      ((asAddr (tmps.getD p undef)).run P w).andThen fun a w₁ => ((loadVar ty a).run P w₁).andThen fun x w₂ => .ok (.tuple #[tmps.getD u undef, x, tmps.getD v undef]) w₂ := by
  simp only [results, h]
  simp [Sem.run_bind, Result.andThen]
theorem results_cell_tmp_tmp {fn : Func} {p u v : Tmp} {ty : TypeId} (h : fn.results = #[.cell p ty, .tmp u, .tmp v]) (tmps : Array Value) (P : Program) (w : World) :
    (results fn tmps).run P w =
      ((asAddr (tmps.getD p undef)).run P w).andThen fun a w₁ => ((loadVar ty a).run P w₁).andThen fun x w₂ => .ok (.tuple #[x, tmps.getD u undef, tmps.getD v undef]) w₂ := by
  simp only [results, h]
  simp [Sem.run_bind, Result.andThen]
/-- loads and stores by names of their own, so that the walk does not open them -/
def ldS (ty : TypeId) (v : Value) : Sem Value := Instr.loadAt ty v
def stS (ty : TypeId) (p v : Value) : Sem Unit := Instr.storeAt ty p v
theorem ldS_blk {P : Program} {w : World} {g o : Nat} {t T : TypeId} {cs : Array Value} {xs : List Value} {d : TypeDesc} (h : Blk w g t cs) (hx : (cs.toList.drop o).take xs.length = xs) (hu : P.underlying T = some d) (hd : d.isRow = true) (hi : (P.info? T).map (·.size) = some xs.length) : Sem.run P (ldS T (.pointer (some ⟨g, o, none⟩))) w = .ok (.agg xs.toArray) w :=
  run_loadAt_mid w g o T xs d (fun j v hj => by
    rw [h.cell (o + j)]
    have hl : j < xs.length := (List.getElem?_eq_some_iff.1 hj).1
    rw [← hx, List.getElem?_take_of_lt hl, List.getElem?_drop] at hj
    simpa using hj) hu hd hi
theorem stS_blk {P : Program} {w : World} {g o : Nat} {t T : TypeId} {cs xs c' : Array Value} (h : Blk w g t cs) (ho : o + xs.size ≤ cs.size) (hi : (P.info? T).map (·.size) = some xs.size) (h1 : xs.all (·.oneCell') = true) (hc : c' = (cs.toList.take o ++ xs.toList ++ cs.toList.drop (o + xs.size)).toArray) : Sem.run P (stS T (.pointer (some ⟨g, o, none⟩)) (.agg xs)) w = .ok () (w.setRow g c') := by
  have hst := run_storeCells_at P g o t xs.toList 0 cs w h (by simpa using ho) (fun v hv => (Array.all_eq_true_iff_forall_mem.1 h1) v (by simpa using hv))
  rw [Nat.add_zero, Array.length_toList, ← hc] at hst
  unfold stS
  have hv : (storeVar T ⟨g, o, none⟩ (.agg xs)).run P w = .ok () (w.setRow g c') := by
    cases hq : P.info? T with
    | none => simp [hq] at hi
    | some i =>
      have hz : xs.size = i.size := by simp [hq] at hi; omega
      simp [storeVar, Go.sizeOf, typeInfo, hq, Value.cells, hz, hst]
  simp only [Instr.storeAt, Instr.sureAddr, Sem.run_bind, Sem.run_pure, Result.andThen_ok, hv]
/-- a fact of a world: the blocks that it owns, others that it reads -/
structure Fac where
  own : List Nat
  rd : List Nat
  say : World → Prop
  good : ∀ w w', (∀ k, k ∈ own ∨ k ∈ rd → w'.heap[k]? = w.heap[k]?) → say w → say w'
  lt : ∀ w, say w → ∀ k, k ∈ own ∨ k ∈ rd → k < w.heap.size
abbrev Fac.of (f : Fact) : Fac := ⟨f.foot, [], f.say, fun w w' h => f.good w w' (fun k hk => h k (.inl hk)), fun w h k hk => f.lt w h k (hk.elim id (fun e => absurd e List.not_mem_nil))⟩
/-- the same, only read -/
abbrev Fac.ro (f : Fac) : Fac := ⟨[], f.own ++ f.rd, f.say, fun w w' h => f.good w w' (fun k hk => h k (.inr (List.mem_append.2 hk))), fun w h k hk => f.lt w h k (hk.elim (fun e => absurd e List.not_mem_nil) List.mem_append.1)⟩
abbrev Fac.blk (g : Nat) (t : TypeId) (cs : Array Value) : Fac := Fac.of (Fact.blk g t cs)
abbrev Fac.row (g : Nat) (t : TypeId) (xs : List Value) : Fac := Fac.of (Fact.row g t xs)
abbrev Fac.map (g : Nat) (es : Array MapEntry) (n : Nat) : Fac := Fac.of (Fact.map g es n)
theorem opt_same {A : Option Addr} {g k : Nat} (h : blkOf A = some g) (hk : k ∈ (blkOf A).toList) : k = g := by rw [h] at hk; simpa using hk
theorem opt_none {A : Option Addr} {k : Nat} (h : blkOf A = none) (hk : k ∈ (blkOf A).toList) : False := by rw [h] at hk; simp at hk
/-- a slice of bytes of one's own, from its block's beginning on (or none) -/
abbrev Fact.own8 (e : TypeId) (A : Option Addr) (n c : Nat) (l : List UInt8) : Fact :=
  ⟨(blkOf A).toList, fun w => Own8 w e A n c l, fun w w' h hb => by
    refine ⟨hb.1, hb.2.1, ?_⟩
    rcases hb.2.2 with h2 | ⟨g, cap, cur, hv, hg, hh, r⟩
    · exact Or.inl h2
    · have hA : A = some ⟨g, 0, none⟩ := by injection hv
      exact Or.inr ⟨g, cap, cur, hv, hg, by rw [h g (by rw [hA]; simp [blkOf])]; exact hh, r⟩,
   fun w hb k hk => by
    rcases hA : blkOf A with _ | g
    · exact (opt_none hA hk).elim
    · rw [opt_same hA hk]
      exact hb.lt g hA⟩
/-- a slice of structs of one's own -/
abbrev Fact.ownR (e : TypeId) (m : Nat) (A : Option Addr) (n c : Nat) (rows : List (List Value)) : Fact :=
  ⟨(blkOf A).toList, fun w => OwnR w e m A n c rows, fun w w' h hb => by
    refine ⟨hb.1, hb.2.1, hb.2.2.1, ?_⟩
    rcases hb.2.2.2 with h2 | ⟨g, cap, cur, hv, hg, hh, r⟩
    · exact Or.inl h2
    · have hA : A = some ⟨g, 0, none⟩ := by injection hv
      exact Or.inr ⟨g, cap, cur, hv, hg, by rw [h g (by rw [hA]; simp [blkOf])]; exact hh, r⟩,
   fun w hb k hk => by
    rcases hA : blkOf A with _ | g
    · exact (opt_none hA hk).elim
    · rw [opt_same hA hk]
      exact hb.lt g hA⟩
theorem heap_lt {w w' : World} {k : Nat} (h : w'.heap[k]? = w.heap[k]?) (hk : k < w.heap.size) : k < w'.heap.size := by
  have h2 := Array.getElem?_eq_getElem hk
  exact (Array.getElem?_eq_some_iff.1 (h.trans h2)).1
/-- a slice that reads as bytes -/
abbrev Fact.byt (A : Option Addr) (l : List UInt8) : Fact :=
  ⟨(blkOf A).toList, fun w => Byt w w.heap.size A l ∧ ∀ k, blkOf A = some k → k < w.heap.size, fun w w' h hb => by
    have hk : ∀ k, blkOf A = some k → k < w'.heap.size := fun k hk => heap_lt (h k (by rw [hk]; simp)) (hb.2 k hk)
    refine ⟨fun hl => ?_, hk⟩
    obtain ⟨b, off, e, hlt, hc⟩ := hb.1 hl
    exact ⟨b, off, e, hk b (by rw [e]; rfl), fun j x hx => (World.cell?_of_block (a := ⟨b, off + j, none⟩) (h b (by rw [e]; simp [blkOf]))).trans (hc j x hx)⟩,
   fun w hb k hk => by
    rcases hA : blkOf A with _ | g
    · exact (opt_none hA hk).elim
    · rw [opt_same hA hk]
      exact hb.2 g hA⟩
abbrev Fac.own8 (e : TypeId) (A : Option Addr) (n c : Nat) (l : List UInt8) : Fac := Fac.of (Fact.own8 e A n c l)
abbrev Fac.ownR (e : TypeId) (m : Nat) (A : Option Addr) (n c : Nat) (rows : List (List Value)) : Fac := Fac.of (Fact.ownR e m A n c rows)
/-- a slice that reads as bytes, only read -/
abbrev Fac.byt (A : Option Addr) (l : List UInt8) : Fac := Fac.ro (Fac.of (Fact.byt A l))

def Says (w : World) : List Fac → Prop
  | [] => True
  | f :: L => f.say w ∧ Says w L
def owns : List Fac → List Nat
  | [] => []
  | f :: L => f.own ++ owns L
def rds : List Fac → List Nat
  | [] => []
  | f :: L => f.rd ++ rds L
def nth : List Fac → Nat → Option Fac
  | [], _ => none
  | f :: _, 0 => some f
  | _ :: L, i + 1 => nth L i
def pick : List Nat → List Fac → List Fac
  | [], _ => []
  | i :: is, L => match nth L i with
    | none => pick is L
    | some f => f :: pick is L
def memN (n : Nat) : List Nat → Bool
  | [] => false
  | i :: is => Nat.beq i n || memN n is
def dropI (is : List Nat) : Nat → List Fac → List Fac
  | _, [] => []
  | n, f :: L => match memN n is with
    | true => dropI is (n + 1) L
    | false => f :: dropI is (n + 1) L
theorem memN_iff {n : Nat} : ∀ {is : List Nat}, memN n is = true ↔ n ∈ is
  | [] => by simp [memN]
  | i :: is => by
    unfold memN
    rw [Bool.or_eq_true, memN_iff, List.mem_cons]
    constructor
    · rintro (h | h)
      · exact .inl (Nat.eq_of_beq_eq_true h).symm
      · exact .inr h
    · rintro (h | h)
      · exact .inl (by subst h; exact Nat.beq_refl _)
      · exact .inr h
theorem mem_owns {k : Nat} : ∀ {L : List Fac}, k ∈ owns L ↔ ∃ f ∈ L, k ∈ f.own
  | [] => by simp [owns]
  | f :: L => by
    unfold owns
    rw [List.mem_append, mem_owns]
    simp
theorem mem_rds {k : Nat} : ∀ {L : List Fac}, k ∈ rds L ↔ ∃ f ∈ L, k ∈ f.rd
  | [] => by simp [rds]
  | f :: L => by
    unfold rds
    rw [List.mem_append, mem_rds]
    simp
theorem says_iff {w : World} : ∀ {L : List Fac}, Says w L ↔ ∀ f ∈ L, f.say w
  | [] => by simp [Says]
  | f :: L => by
    unfold Says
    rw [says_iff]
    simp
theorem nth_mem {f : Fac} : ∀ {L : List Fac} {i : Nat}, nth L i = some f → f ∈ L
  | [], _, h => by cases h
  | x :: L, 0, h => by
    injection h with h
    rw [h]
    exact List.mem_cons_self ..
  | x :: L, i + 1, h => List.mem_cons_of_mem _ (nth_mem (i := i) h)
theorem mem_pick {f : Fac} {L : List Fac} : ∀ {is : List Nat}, f ∈ pick is L → ∃ i ∈ is, nth L i = some f
  | [], h => by cases h
  | i :: is, h => by
    unfold pick at h
    rcases hn : nth L i with _ | x
    · rw [hn] at h
      obtain ⟨j, hj, e⟩ := mem_pick h
      exact ⟨j, List.mem_cons_of_mem _ hj, e⟩
    · rw [hn] at h
      rcases List.mem_cons.1 h with rfl | h
      · exact ⟨i, List.mem_cons_self .., hn⟩
      · obtain ⟨j, hj, e⟩ := mem_pick h
        exact ⟨j, List.mem_cons_of_mem _ hj, e⟩
theorem mem_dropI {f : Fac} {is : List Nat} : ∀ {L : List Fac} {n : Nat}, f ∈ dropI is n L → ∃ i, i + n ∉ is ∧ nth L i = some f
  | [], _, h => by cases h
  | x :: L, n, h => by
    unfold dropI at h
    rcases hm : memN n is with _ | _
    · rw [hm] at h
      rcases List.mem_cons.1 h with rfl | h
      · exact ⟨0, by rw [Nat.zero_add]; exact (fun e => by rw [memN_iff.2 e] at hm; cases hm), rfl⟩
      · obtain ⟨i, h1, h2⟩ := mem_dropI h
        exact ⟨i + 1, by rw [show i + 1 + n = i + (n + 1) by omega]; exact h1, h2⟩
    · rw [hm] at h
      obtain ⟨i, h1, h2⟩ := mem_dropI h
      exact ⟨i + 1, by rw [show i + 1 + n = i + (n + 1) by omega]; exact h1, h2⟩
theorem nth_owns {f : Fac} {L : List Fac} {i k : Nat} (h : nth L i = some f) (hk : k ∈ f.own) : k ∈ owns L := mem_owns.2 ⟨f, nth_mem h, hk⟩
/-- a block of two facts that lie apart: they are one -/
theorem nod_same {f g : Fac} {k : Nat} : ∀ {L : List Fac} {i j : Nat}, (owns L).Nodup → nth L i = some f → nth L j = some g → k ∈ f.own → k ∈ g.own → i = j
  | [], _, _, _, h, _, _, _ => by cases h
  | x :: L, 0, 0, _, _, _, _, _ => rfl
  | x :: L, 0, j + 1, hn, h1, h2, hf, hg => by
    injection h1 with h1
    subst h1
    unfold owns at hn
    exact ((List.nodup_append.1 hn).2.2 k hf k (nth_owns h2 hg) rfl).elim
  | x :: L, i + 1, 0, hn, h1, h2, hf, hg => by
    injection h2 with h2
    subst h2
    unfold owns at hn
    exact ((List.nodup_append.1 hn).2.2 k hg k (nth_owns h1 hf) rfl).elim
  | x :: L, i + 1, j + 1, hn, h1, h2, hf, hg => by
    unfold owns at hn
    rw [nod_same (L := L) (List.nodup_append.1 hn).2.1 h1 h2 hf hg]
theorem owns_pick {k : Nat} {is : List Nat} {L : List Fac} (h : k ∈ owns (pick is L)) : k ∈ owns L := by
  obtain ⟨f, hf, hk⟩ := mem_owns.1 h
  obtain ⟨i, _, e⟩ := mem_pick hf
  exact nth_owns e hk
theorem owns_dropI {k n : Nat} {is : List Nat} {L : List Fac} (h : k ∈ owns (dropI is n L)) : k ∈ owns L := by
  obtain ⟨f, hf, hk⟩ := mem_owns.1 h
  obtain ⟨i, _, e⟩ := mem_dropI hf
  exact nth_owns e hk
theorem rds_pick {k : Nat} {is : List Nat} {L : List Fac} (h : k ∈ rds (pick is L)) : k ∈ rds L := by
  obtain ⟨f, hf, hk⟩ := mem_rds.1 h
  obtain ⟨i, _, e⟩ := mem_pick hf
  exact mem_rds.2 ⟨f, nth_mem e, hk⟩
theorem rds_dropI {k n : Nat} {is : List Nat} {L : List Fac} (h : k ∈ rds (dropI is n L)) : k ∈ rds L := by
  obtain ⟨f, hf, hk⟩ := mem_rds.1 h
  obtain ⟨i, _, e⟩ := mem_dropI hf
  exact mem_rds.2 ⟨f, nth_mem e, hk⟩
theorem owns_app {k : Nat} {L M : List Fac} : k ∈ owns (L ++ M) ↔ k ∈ owns L ∨ k ∈ owns M := by
  rw [mem_owns, mem_owns, mem_owns]
  constructor
  · rintro ⟨f, hf, hk⟩
    rcases List.mem_append.1 hf with h | h
    · exact .inl ⟨f, h, hk⟩
    · exact .inr ⟨f, h, hk⟩
  · rintro (⟨f, hf, hk⟩ | ⟨f, hf, hk⟩)
    · exact ⟨f, List.mem_append_left _ hf, hk⟩
    · exact ⟨f, List.mem_append_right _ hf, hk⟩
theorem rds_app {k : Nat} {L M : List Fac} : k ∈ rds (L ++ M) ↔ k ∈ rds L ∨ k ∈ rds M := by
  rw [mem_rds, mem_rds, mem_rds]
  constructor
  · rintro ⟨f, hf, hk⟩
    rcases List.mem_append.1 hf with h | h
    · exact .inl ⟨f, h, hk⟩
    · exact .inr ⟨f, h, hk⟩
  · rintro (⟨f, hf, hk⟩ | ⟨f, hf, hk⟩)
    · exact ⟨f, List.mem_append_left _ hf, hk⟩
    · exact ⟨f, List.mem_append_right _ hf, hk⟩
theorem says_app {w : World} {L M : List Fac} : Says w (L ++ M) ↔ Says w L ∧ Says w M := by
  rw [says_iff, says_iff, says_iff]
  constructor
  · exact fun h => ⟨fun f hf => h f (List.mem_append_left _ hf), fun f hf => h f (List.mem_append_right _ hf)⟩
  · rintro ⟨h1, h2⟩ f hf
    rcases List.mem_append.1 hf with h | h
    · exact h1 f h
    · exact h2 f h
theorem nodup_app : ∀ {L M : List Fac}, (owns L).Nodup → (owns M).Nodup → (∀ k ∈ owns L, k ∉ owns M) → (owns (L ++ M)).Nodup
  | [], _, _, h, _ => h
  | f :: L, M, h1, h2, h3 => by
    unfold owns at h1
    obtain ⟨a, b, c⟩ := List.nodup_append.1 h1
    show (f.own ++ owns (L ++ M)).Nodup
    refine List.nodup_append.2 ⟨a, nodup_app b h2 (fun k hk => h3 k (List.mem_append_right _ hk)), ?_⟩
    intro x hx y hy e
    subst e
    rcases owns_app.1 hy with h | h
    · exact c x hx x h rfl
    · exact h3 x (List.mem_append_left _ hx) h
theorem nodup_dropI {is : List Nat} : ∀ {L : List Fac} {n : Nat}, (owns L).Nodup → (owns (dropI is n L)).Nodup
  | [], _, _ => List.nodup_nil
  | f :: L, n, h => by
    unfold owns at h
    obtain ⟨a, b, c⟩ := List.nodup_append.1 h
    unfold dropI
    rcases memN n is with _ | _
    · show (f.own ++ owns (dropI is (n + 1) L)).Nodup
      exact List.nodup_append.2 ⟨a, nodup_dropI b, fun x hx y hy e => c x hx y (owns_dropI hy) e⟩
    · exact nodup_dropI b
/-- numbers all of which are another -/
def incN : List Nat → Bool
  | [] => true
  | i :: is => !memN i is && incN is
theorem nodup_nth {f : Fac} : ∀ {L : List Fac} {i : Nat}, (owns L).Nodup → nth L i = some f → f.own.Nodup
  | [], _, _, h => by cases h
  | x :: L, 0, hn, h => by
    injection h with h
    subst h
    unfold owns at hn
    exact (List.nodup_append.1 hn).1
  | x :: L, i + 1, hn, h => by
    unfold owns at hn
    exact nodup_nth (L := L) (i := i) (List.nodup_append.1 hn).2.1 h
theorem nodup_pick {L : List Fac} (hn : (owns L).Nodup) : ∀ {is : List Nat}, incN is = true → (owns (pick is L)).Nodup
  | [], _ => List.nodup_nil
  | i :: is, h => by
    unfold incN at h
    rw [Bool.and_eq_true, Bool.not_eq_true'] at h
    unfold pick
    rcases he : nth L i with _ | f
    · exact nodup_pick hn h.2
    · show (f.own ++ owns (pick is L)).Nodup
      refine List.nodup_append.2 ⟨nodup_nth hn he, nodup_pick hn h.2, ?_⟩
      intro x hx y hy e
      subst e
      obtain ⟨g, hg, hk⟩ := mem_owns.1 hy
      obtain ⟨j, hj, e2⟩ := mem_pick hg
      have := nod_same hn he e2 hx hk
      subst this
      rw [memN_iff.2 hj] at h
      cases h.1
/-- no number of the one list stands in the other -/
def apartN : List Nat → List Nat → Bool
  | [], _ => true
  | j :: js, is => !memN j is && apartN js is
theorem apartN_of {j : Nat} {is : List Nat} : ∀ {js : List Nat}, apartN js is = true → j ∈ js → j ∉ is
  | [], _, h => by cases h
  | x :: js, h, hj => by
    unfold apartN at h
    rw [Bool.and_eq_true, Bool.not_eq_true'] at h
    rcases List.mem_cons.1 hj with rfl | hj
    · intro e
      rw [memN_iff.2 e] at h
      cases h.1
    · exact apartN_of h.2 hj

/-- what a call asks: facts that it reads, facts that it takes over -/
structure Pre (w : World) (P F : List Fac) : Prop where
  ro : Says w P
  all : Says w F
  nod : (owns F).Nodup
  dis : ∀ k ∈ rds F, k ∉ owns F
  apart : ∀ k, k ∈ owns P ∨ k ∈ rds P → k ∉ owns F
/-- what a call does: the facts that it takes over become others -/
structure Post (w w' : World) (F G : List Fac) : Prop where
  all : Says w' G
  nod : (owns G).Nodup
  dis : ∀ k ∈ rds G, k ∉ owns G
  new : ∀ k ∈ owns G, k ∈ owns F ∨ w.heap.size ≤ k
  rnew : ∀ k ∈ rds G, (k ∈ owns F ∨ k ∈ rds F) ∨ w.heap.size ≤ k
  chg : Chg (fun k => k ∈ owns F) w w'
/-- a walk's state -/
structure St (w0 : World) (P F : List Fac) (w : World) (L : List Fac) : Prop where
  ro : Says w P
  all : Says w L
  nod : (owns L).Nodup
  dis : ∀ k ∈ rds L, k ∉ owns L
  apart : ∀ k, k ∈ owns P ∨ k ∈ rds P → k ∉ owns L
  own : ∀ k ∈ owns L, k ∈ owns F ∨ w0.heap.size ≤ k
  rown : ∀ k ∈ rds L, (k ∈ owns F ∨ k ∈ rds F) ∨ w0.heap.size ≤ k
  chg : Chg (fun k => k ∈ owns F) w0 w
theorem says_keep {w w' : World} {L : List Fac} (h : Says w L) (hk : ∀ k, k ∈ owns L ∨ k ∈ rds L → w'.heap[k]? = w.heap[k]?) : Says w' L := says_iff.2 fun f hf =>
  f.good w w' (fun k e => hk k (e.imp (fun e => mem_owns.2 ⟨f, hf, e⟩) (fun e => mem_rds.2 ⟨f, hf, e⟩))) (says_iff.1 h f hf)
theorem says_lt {w : World} {L : List Fac} (h : Says w L) : ∀ k, k ∈ owns L ∨ k ∈ rds L → k < w.heap.size := fun k hk => by
  rcases hk with hk | hk
  · obtain ⟨f, hf, e⟩ := mem_owns.1 hk
    exact f.lt w (says_iff.1 h f hf) k (.inl e)
  · obtain ⟨f, hf, e⟩ := mem_rds.1 hk
    exact f.lt w (says_iff.1 h f hf) k (.inr e)
theorem says_pick {w : World} {L : List Fac} (h : Says w L) (is : List Nat) : Says w (pick is L) := says_iff.2 fun f hf => by
  obtain ⟨i, _, e⟩ := mem_pick hf
  exact says_iff.1 h f (nth_mem e)
theorem says_dropI {w : World} {L : List Fac} (h : Says w L) (is : List Nat) (n : Nat) : Says w (dropI is n L) := says_iff.2 fun f hf => by
  obtain ⟨i, _, e⟩ := mem_dropI hf
  exact says_iff.1 h f (nth_mem e)
section
variable {w0 w w' : World} {P F L G : List Fac}
theorem Pre.start (h : Pre w P F) : St w P F w F := ⟨h.ro, h.all, h.nod, h.dis, h.apart, fun _ hk => .inl hk, fun _ hk => .inl (.inr hk), Chg.refl _ _⟩
theorem Pre.reP (h : Pre w P F) (is : List Nat) : Pre w (pick is P) F := ⟨says_pick h.ro is, h.all, h.nod, h.dis, fun k hk => h.apart k (hk.imp owns_pick rds_pick)⟩
theorem Pre.get (h : Pre w P F) (i : Nat) {f : Fac} (hi : nth F i = some f) : f.say w := says_iff.1 h.all f (nth_mem hi)
theorem Pre.getR (h : Pre w P F) (i : Nat) {f : Fac} (hi : nth P i = some f) : f.say w := says_iff.1 h.ro f (nth_mem hi)
theorem St.pre (h : St w0 P F w L) (ps js is : List Nat) (hi : incN is = true) (hj : apartN js is = true) : Pre w (pick ps P ++ pick js L) (pick is L) := by
  refine ⟨says_app.2 ⟨says_pick h.ro ps, says_pick h.all js⟩, says_pick h.all is, nodup_pick h.nod hi, fun k hk hf => h.dis k (rds_pick hk) (owns_pick hf), fun k hk hf => ?_⟩
  have hP : k ∈ owns (pick ps P) ∨ k ∈ rds (pick ps P) → False := fun e => h.apart k (e.imp owns_pick rds_pick) (owns_pick hf)
  rcases hk with h1 | h1
  · rcases owns_app.1 h1 with h1 | h1
    · exact hP (.inl h1)
    · obtain ⟨f, hf1, hk1⟩ := mem_owns.1 h1
      obtain ⟨g, hg1, hk2⟩ := mem_owns.1 hf
      obtain ⟨i, hi1, e1⟩ := mem_pick hf1
      obtain ⟨j, hj1, e2⟩ := mem_pick hg1
      have := nod_same h.nod e1 e2 hk1 hk2
      subst this
      exact apartN_of hj hi1 hj1
  · rcases rds_app.1 h1 with h1 | h1
    · exact hP (.inr h1)
    · exact h.dis k (rds_pick h1) (owns_pick hf)
theorem St.step (h : St w0 P F w L) (is : List Nat) (p : Post w w' (pick is L) G) : St w0 P F w' (G ++ dropI is 0 L) := by
  have hd : ∀ k ∈ owns (dropI is 0 L), k ∉ owns (pick is L) := fun k hk hf => by
    obtain ⟨f, hf1, hk1⟩ := mem_owns.1 hk
    obtain ⟨g, hg1, hk2⟩ := mem_owns.1 hf
    obtain ⟨i, hi1, e1⟩ := mem_dropI hf1
    obtain ⟨j, hj1, e2⟩ := mem_pick hg1
    have := nod_same h.nod e1 e2 hk1 hk2
    subst this
    exact hi1 hj1
  have hd2 : ∀ k, k ∈ owns (dropI is 0 L) ∨ k ∈ rds (dropI is 0 L) → k ∉ owns (pick is L) := fun k hk => by
    rcases hk with hk | hk
    · exact hd k hk
    · exact fun hf => h.dis k (rds_dropI hk) (owns_pick hf)
  have hlt : ∀ k, k ∈ owns (dropI is 0 L) ∨ k ∈ rds (dropI is 0 L) → k < w.heap.size := fun k hk => says_lt h.all k (hk.imp owns_dropI rds_dropI)
  have hoG : ∀ k ∈ owns G, k ∈ owns L ∨ w.heap.size ≤ k := fun k hk => (p.new k hk).imp owns_pick id
  refine ⟨says_keep h.ro fun k hk => ?_, says_app.2 ⟨p.all, says_keep (says_dropI h.all is 0) fun k hk => p.chg.block k (hlt k hk) (hd2 k hk)⟩, nodup_app p.nod (nodup_dropI h.nod) (fun k hk hk2 => ?_), fun k hk hk2 => ?_, fun k hk hk2 => ?_, fun k hk => ?_, fun k hk => ?_, ?_⟩
  · exact p.chg.block k (says_lt h.ro k hk) (fun e => h.apart k hk (owns_pick e))
  · rcases p.new k hk with e | e
    · exact hd k hk2 e
    · have := hlt k (.inl hk2)
      omega
  · rcases rds_app.1 hk with e | e
    · rcases owns_app.1 hk2 with e2 | e2
      · exact p.dis k e e2
      · rcases p.rnew k e with (e3 | e3) | e3
        · exact hd k e2 e3
        · exact h.dis k (rds_pick e3) (owns_dropI e2)
        · have := hlt k (.inl e2)
          omega
    · rcases owns_app.1 hk2 with e2 | e2
      · rcases p.new k e2 with e3 | e3
        · exact hd2 k (.inr e) e3
        · have := hlt k (.inr e)
          omega
      · exact h.dis k (rds_dropI e) (owns_dropI e2)
  · have := says_lt h.ro k hk
    rcases owns_app.1 hk2 with e | e
    · rcases hoG k e with e | e
      · exact h.apart k hk e
      · omega
    · exact h.apart k hk (owns_dropI e)
  · rcases owns_app.1 hk with e | e
    · rcases hoG k e with e | e
      · exact h.own k e
      · exact .inr (Nat.le_trans h.chg.size e)
    · exact h.own k (owns_dropI e)
  · rcases rds_app.1 hk with e | e
    · rcases p.rnew k e with (e | e) | e
      · exact (h.own k (owns_pick e)).imp .inl id
      · exact h.rown k (rds_pick e)
      · exact .inr (Nat.le_trans h.chg.size e)
    · exact h.rown k (rds_dropI e)
  · refine h.chg.trans p.chg (fun _ _ e => e) (fun i hi e => ?_)
    rcases h.own i (owns_pick e) with h1 | h1
    · exact h1
    · omega
theorem dropI_none : ∀ (L : List Fac) (n : Nat), dropI [] n L = L
  | [], _ => rfl
  | x :: L, n => by
    show x :: dropI [] (n + 1) L = x :: L
    rw [dropI_none L]
theorem Post.of_below (hb : Below w.heap.size w w') : Post w w' [] [] := ⟨trivial, List.nodup_nil, fun k hk => by simp [rds] at hk, fun k hk => by simp [owns] at hk, fun k hk => by simp [rds] at hk, Chg.of_below hb⟩
theorem St.next (h : St w0 P F w L) (hb : Below w.heap.size w w') : St w0 P F w' L := by
  have := h.step [] (Post.of_below hb)
  rwa [List.nil_append, dropI_none] at this
theorem St.drew (h : St w0 P F w L) : St w0 P F w.drew L := h.next ⟨rfl, rfl, rfl, Nat.le_refl _, fun _ _ => rfl⟩
theorem St.drewN (h : St w0 P F w L) (n : Nat) : St w0 P F (w.drewN n) L := h.next ⟨rfl, rfl, rfl, Nat.le_refl _, fun _ _ => rfl⟩
theorem St.fresh (h : St w0 P F w L) (p : Post w w' [] G) : St w0 P F w' (G ++ L) := by
  have := h.step [] p
  rwa [dropI_none] at this
theorem St.alloc (h : St w0 P F w L) (t : TypeId) (cs : Array Value) {g : Nat} (hg : w.heap.size = g) : St w0 P F (w.alloc (.cells cs t)) (Fac.blk g t cs :: L) := by
  subst hg
  exact h.fresh (G := [Fac.blk w.heap.size t cs]) ⟨⟨Blk.new w t cs, trivial⟩, by simp [owns], fun k hk => by simp [rds] at hk, fun k hk => by simp [owns] at hk; right; omega, fun k hk => by simp [rds] at hk, Chg.of_below ((Below.refl _ _).alloc (Nat.le_refl _) _)⟩
/-- a store into a block that is owned -/
theorem St.setc (h : St w0 P F w L) (i : Nat) {g : Nat} {t : TypeId} {cs : Array Value} (hi : nth L i = some (Fac.blk g t cs)) (k : Nat) (v : Value) : St w0 P F (w.setCell ⟨g, k, none⟩ v) (Fac.blk g t (cs.setIfInBounds k v) :: dropI [i] 0 L) := by
  have hp : pick [i] L = [Fac.blk g t cs] := by simp [pick, hi]
  refine h.step (G := [Fac.blk g t (cs.setIfInBounds k v)]) [i] ?_
  rw [hp]
  exact ⟨⟨(says_iff.1 h.all _ (nth_mem hi) : Blk w g t cs).set_ k v, trivial⟩, by simp [owns], fun k hk => by simp [rds] at hk, fun k hk => .inl hk, fun k hk => by simp [rds] at hk, (Chg.refl _ w).setCell (.inl (by simp [owns])) v⟩
theorem St.setr (h : St w0 P F w L) (i : Nat) {g : Nat} {t : TypeId} {xs : List Value} (hi : nth L i = some (Fac.row g t xs)) (k : Nat) (v : Value) : St w0 P F (w.setCell ⟨g, k, none⟩ v) (Fac.row g t (xs.set k v) :: dropI [i] 0 L) := by
  have hp : pick [i] L = [Fac.row g t xs] := by simp [pick, hi]
  refine h.step (G := [Fac.row g t (xs.set k v)]) [i] ?_
  rw [hp]
  exact ⟨⟨(says_iff.1 h.all _ (nth_mem hi) : RowV w g t xs).set k v, trivial⟩, by simp [owns], fun k hk => by simp [rds] at hk, fun k hk => .inl hk, fun k hk => by simp [rds] at hk, (Chg.refl _ w).setCell (.inl (by simp [owns])) v⟩
/-- a whole block stored -/
theorem St.setw (h : St w0 P F w L) (i : Nat) {g : Nat} {t : TypeId} {cs : Array Value} (hi : nth L i = some (Fac.blk g t cs)) (c' : Array Value) : St w0 P F (w.setRow g c') (Fac.blk g t c' :: dropI [i] 0 L) := by
  have hp : pick [i] L = [Fac.blk g t cs] := by simp [pick, hi]
  refine h.step (G := [Fac.blk g t c']) [i] ?_
  rw [hp]
  exact ⟨⟨(says_iff.1 h.all _ (nth_mem hi) : Blk w g t cs).setRow c', trivial⟩, by simp [owns], fun k hk => by simp [rds] at hk, fun k hk => .inl hk, fun k hk => by simp [rds] at hk, (Chg.refl _ w).setRow (.inl (by simp [owns])) c'⟩
/-- one row becomes another by a call's own word -/
theorem St.turn (h : St w0 P F w L) (is : List Nat) {g : Nat} {t : TypeId} {xs ys : List Value} (hr : RowV w' g t ys) (hc : Chg (fun k => k = g) w w') (hp : pick is L = [Fac.row g t xs] := by rfl) : St w0 P F w' (Fac.row g t ys :: dropI is 0 L) := by
  refine h.step (G := [Fac.row g t ys]) is ?_
  rw [hp]
  exact ⟨⟨hr, trivial⟩, by simp [owns], fun k hk => by simp [rds] at hk, fun k hk => .inl hk, fun k hk => by simp [rds] at hk, hc.mono (fun k _ e => by simp [owns, e])⟩
/-- facts that are wanted no more are left out; others told anew -/
theorem St.sub (h : St w0 P F w L) (is : List Nat) (hi : incN is = true) : St w0 P F w (pick is L) :=
  ⟨h.ro, says_pick h.all is, nodup_pick h.nod hi, fun k hk hf => h.dis k (rds_pick hk) (owns_pick hf), fun k hk hf => h.apart k hk (owns_pick hf), fun k hk => h.own k (owns_pick hk), fun k hk => h.rown k (rds_pick hk), h.chg⟩
/-- facts told in other words: of the same blocks -/
theorem St.retell (h : St w0 P F w L) (is : List Nat) (hG : Says w G) (hn : (owns G).Nodup) (hd : ∀ k ∈ rds G, k ∉ owns G) (ho : ∀ k ∈ owns G, k ∈ owns (pick is L)) (hr : ∀ k ∈ rds G, k ∈ owns (pick is L) ∨ k ∈ rds (pick is L)) : St w0 P F w (G ++ dropI is 0 L) :=
  h.step is ⟨hG, hn, hd, fun k hk => .inl (ho k hk), fun k hk => .inl (hr k hk), Chg.refl _ _⟩
/-- a fact is henceforth only read -/
theorem St.read (h : St w0 P F w L) (i : Nat) {f : Fac} (hi : nth L i = some f) (hf : f.rd = []) : St w0 P F w (f.ro :: dropI [i] 0 L) := by
  have hp : pick [i] L = [f] := by simp [pick, hi]
  refine h.retell (G := [f.ro]) [i] ⟨(says_iff.1 h.all f (nth_mem hi) : f.say w), trivial⟩ List.nodup_nil (fun k _ hk => by simp [owns] at hk) (fun k hk => by simp [owns] at hk) (fun k hk => ?_)
  rw [hp]
  simp [rds, hf] at hk
  left
  simpa [owns] using hk
theorem St.post (h : St w0 P F w L) (is : List Nat) (hi : incN is = true) : Post w0 w F (pick is L) :=
  ⟨says_pick h.all is, nodup_pick h.nod hi, fun k hk hf => h.dis k (rds_pick hk) (owns_pick hf), fun k hk => h.own k (owns_pick hk), fun k hk => h.rown k (rds_pick hk), h.chg⟩
theorem St.get (h : St w0 P F w L) (i : Nat) {f : Fac} (hi : nth L i = some f) : f.say w := says_iff.1 h.all f (nth_mem hi)
theorem St.getR (h : St w0 P F w L) (i : Nat) {f : Fac} (hi : nth P i = some f) : f.say w := says_iff.1 h.ro f (nth_mem hi)
theorem Post.below {F : List Fac} (h : Post w w' F G) (hF : owns F = []) : Below w.heap.size w w' := ⟨h.chg.os, h.chg.tape, h.chg.output, h.chg.size, fun k hk => h.chg.block k hk (by rw [hF]; simp)⟩
theorem Post.one {f : Fac} (hb : Below w.heap.size w w') (h : f.say w') (hn : f.own.Nodup) (hr : f.rd = []) (hk : ∀ k ∈ f.own, w.heap.size ≤ k) : Post w w' [] [f] :=
  ⟨⟨h, trivial⟩, by simpa [owns] using hn, fun k h => by simp [rds, hr] at h, fun k h => .inr (hk k (by simpa [owns] using h)), fun k h => by simp [rds, hr] at h, Chg.of_below hb⟩
/-- one fact becomes one other, of the same blocks -/
theorem Post.turn {f f' : Fac} {S : Nat → Prop} (h : f'.say w') (hn : f'.own.Nodup) (hr : f'.rd = []) (hk : ∀ k ∈ f'.own, k ∈ f.own ∨ w.heap.size ≤ k) (hc : Chg S w w') (hS : ∀ k, k < w.heap.size → S k → k ∈ f.own) : Post w w' [f] [f'] :=
  ⟨⟨h, trivial⟩, by simpa [owns] using hn, fun k h => by simp [rds, hr] at h, fun k h => by simpa [owns] using hk k (by simpa [owns] using h), fun k h => by simp [rds, hr] at h, hc.mono (fun k hl h => by simpa [owns] using hS k hl h)⟩
/-- the end of a call: what it hands back, by some numbers -/
def Ret {α : Type} (r : α → Value) (F : List Fac) (G : α → List Fac) (w : World) (e : Ending) (w' : World) : Prop := ∃ x, e = .returned (r x) ∧ Post w w' F (G x)
def RetW {α : Type} (K : α → Prop) (r : α → Value) (F : List Fac) (G : α → List Fac) (w : World) (e : Ending) (w' : World) : Prop := ∃ x, e = .returned (r x) ∧ K x ∧ Post w w' F (G x)
end
theorem nodup_opt (A : Option Addr) : ((blkOf A).toList).Nodup := by
  rcases blkOf A with _ | g <;> simp
theorem opt_new {n : Nat} {A : Option Addr} (h : ∀ k, blkOf A = some k → n ≤ k) : ∀ k ∈ (blkOf A).toList, n ≤ k := fun k hk => by
  rcases hA : blkOf A with _ | g
  · exact (opt_none hA hk).elim
  · rw [opt_same hA hk]
    exact h g hA
/-- facts behind one word: their blocks alone are told -/
abbrev Fac.pack (own rd : List Nat) (C : List Fac → Prop) : Fac :=
  ⟨own, rd, fun w => ∃ L, C L ∧ owns L = own ∧ rds L = rd ∧ Says w L, fun w w' h ⟨L, h1, h2, h3, h4⟩ => ⟨L, h1, h2, h3, says_keep h4 (fun k hk => h k (by rw [← h2, ← h3]; exact hk))⟩, fun w ⟨L, h1, h2, h3, h4⟩ k hk => says_lt h4 k (by rw [h2, h3]; exact hk)⟩
section
variable {w0 w w' : World} {P F L G : List Fac}
theorem dropI_owns {own rd : List Nat} {C : List Fac → Prop} (h : St w0 P F w (Fac.pack own rd C :: L)) : ∃ M, C M ∧ St w0 P F w (M ++ L) := by
  obtain ⟨M, h1, h2, h3, h4⟩ := h.get 0 rfl
  refine ⟨M, h1, ?_⟩
  have hn := h.nod
  have hd := h.dis
  unfold owns at hn
  have := h.retell (G := M) [0] h4 (by rw [h2]; exact (List.nodup_append.1 hn).1) (fun k hk hk2 => hd k (by unfold rds; rw [← h3]; exact List.mem_append_left _ hk) (by unfold owns; rw [← h2]; exact List.mem_append_left _ hk2)) (fun k hk => by rw [h2] at hk; simpa [pick, nth, owns] using hk) (fun k hk => by rw [h3] at hk; right; simpa [pick, nth, rds] using hk)
  have e : dropI [0] 0 (Fac.pack own rd C :: L) = L := by
    show dropI [0] 1 L = L
    have : ∀ (L : List Fac) (n : Nat), dropI [0] (n + 1) L = L := fun L => by
      induction L with
      | nil => intro n; rfl
      | cons x L ih =>
        intro n
        show x :: dropI [0] (n + 1 + 1) L = x :: L
        rw [ih]
    exact this L 0
  rwa [e] at this
theorem St.shut (h : St w0 P F w L) (is : List Nat) (hi : incN is = true) {C : List Fac → Prop} (hC : C (pick is L)) : St w0 P F w (Fac.pack (owns (pick is L)) (rds (pick is L)) C :: dropI is 0 L) := by
  refine h.retell (G := [Fac.pack (owns (pick is L)) (rds (pick is L)) C]) is ⟨⟨_, hC, rfl, rfl, says_pick h.all is⟩, trivial⟩ ?_ ?_ ?_ ?_
  · simpa [owns] using nodup_pick h.nod hi
  · intro k hk hk2
    simp [owns] at hk2
    simp [rds] at hk
    exact h.dis k (rds_pick hk) (owns_pick hk2)
  · intro k hk
    simpa [owns] using hk
  · intro k hk
    right
    simpa [rds] using hk
end
end Kin
