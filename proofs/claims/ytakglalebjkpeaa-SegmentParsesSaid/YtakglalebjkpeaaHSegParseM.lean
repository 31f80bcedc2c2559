/- The media of bytes: what its walks need. Conditions: at most 900000 bytes. -/
import Derived.Test.YtakglalebjkpeaaHSegParseI
import Derived.Test.YtakglalebjkpeaaHSegWriteM
import Derived.Deep.RegionLaw
namespace Kin
open Go Go.RowKit
theorem step_appendR {P : Program} {w : World} {ops : Array Oper} {o : Oper} {a : Act} {K : Act → World → Prop} {Q : Exit → Act → World → Prop} (hw : Region.wanted o (yielded ops a.tmps) = true) (s x : Operand) (t e : TypeId) (k by_ : Nat)
    (ho : o.op = .call { callee := .builtin .append, args := #[s, x], argTypes := #[t, t] }) (ht : IsRows P t e k by_)
    (A : Option Addr) (n c : Nat) (rows : List (List Value)) (hs : a.eval s = .slice A n c) (hown : OwnR w e k A n c rows) (B : Nat) (A2 : Option Addr) (n2 c2 : Nat) (news : List (List Value)) (hx : a.eval x = .slice A2 n2 c2) (hr : Recs w B k A2 news) (hn2 : n2 = news.length)
    (hk : ∀ r ∈ news, r.length = k) (h1 : ∀ r ∈ news, ∀ u ∈ r, u.oneCell' = true) (hb : (n + n2) * by_ ≤ 140737488355328) (h63 : n + n2 ≤ maxLen)
    (h : ∀ A' c' w', OwnR w' e k A' (n + n2) c' (rows ++ news) → w.grownBy w' (blkOf A) → (blkOf A' = blkOf A ∨ blkOf A' = some w.heap.size) → K (a.put o.dst (.slice A' (n + n2) c')) w') :
    if Region.wanted o (yielded ops a.tmps) = true then Oper.wp P o a w K Q else K (a.put o.dst undef) w := by
  obtain ⟨A', c', w', hr, h2, h3, h4⟩ := run_appendR (P := P) w t o.type e k by_ ht A n c rows hown A2 n2 c2 news hr hn2 hk h1 hb h63
  rw [if_pos hw]
  unfold Oper.wp execOp
  simp only [ho, resolve, invoke, builtin, Sem.run_bind, Sem.run_pure, Result.andThen_ok, List.map_toArray, List.map_cons, List.map_nil, hs, hx, hr]
  exact h A' c' w' h2 h3 h4
end Kin
namespace Go.Proofs.Ytakglalebjkpeaa.C17
open Go.RowKit Kin Go.Proofs.Ytakglalebjkpeaa Go.Proofs.Ytakglalebjkpeaa.C16

theorem smpsT : IsRows Try.prog 26 31 1 24 := isRows_of (z := .slice none 0 0) Try.underlying26 (by decide) (by kernel_rfl) rfl
def smpRows (xs : List Sg.Smp) : List (List Value) := (xs.map Sg.Smp.val).map fun v => [v]
/-- samples of the call's own -/
def OwnS (w : World) (A : Option Addr) (n c : Nat) (xs : List Sg.Smp) : Prop := OwnR w 31 1 A n c (smpRows xs) ∧ ∀ x ∈ xs, Own8 w 5 x.A x.n x.c x.d
theorem OwnS.nil (w : World) : OwnS w none 0 0 [] := ⟨OwnR.nil _ _ _, by simp⟩
theorem OwnS.len {w : World} {A : Option Addr} {n c : Nat} {xs : List Sg.Smp} (h : OwnS w A n c xs) : n = xs.length := by have := h.1.1; simpa [smpRows] using this
theorem OwnS.samps {w : World} {A : Option Addr} {n c : Nat} {xs : List Sg.Smp} (h : OwnS w A n c xs) : Sg.Samps w w.heap.size A xs := ⟨h.1.vals, fun x hx => ⟨(h.2 x hx).1, own8_cap (h.2 x hx), (h.2 x hx).byt⟩⟩
theorem OwnS.next {w w' : World} {A : Option Addr} {n c : Nat} {xs : List Sg.Smp} (h : OwnS w A n c xs) (hb : Below w.heap.size w w') : OwnS w' A n c xs := ⟨h.1.next hb, fun x hx => (h.2 x hx).below hb (h.2 x hx).lt⟩
theorem smpRows_snoc (xs : List Sg.Smp) (x : Sg.Smp) : smpRows (xs ++ [x]) = smpRows xs ++ [[x.val]] := by simp [smpRows]
/-- a sample more, and the new slice laid into a variable's block -/
theorem OwnS.app {w W w' : World} {A A' : Option Addr} {n c c' g i : Nat} {xs : List Sg.Smp} {x : Sg.Smp} {p q r : Value} {O : Obj} (h : OwnS W A n c xs) (hx : Own8 W 5 x.A x.n x.c x.d) (bk : Blk W g 28 #[p, q, r]) (bel : Below w.heap.size w W) (gA : ∀ k, blkOf A = some k → w.heap.size ≤ k) (hg : w.heap.size ≤ g)
    (own : OwnR w' 31 1 A' (n + 1) c' (smpRows xs ++ [[x.val]])) (grow : (W.alloc O).grownBy w' (blkOf A)) (at1 : blkOf A' = blkOf A ∨ blkOf A' = some (W.alloc O).heap.size) :
    OwnS (w'.setCell ⟨g, i, none⟩ (.slice A' (n + 1) c')) A' (n + 1) c' (xs ++ [x]) ∧ (∀ k, blkOf A' = some k → w.heap.size ≤ k) ∧ Blk w' g 28 #[p, q, r] ∧ Below w.heap.size w (w'.setCell ⟨g, i, none⟩ (.slice A' (n + 1) c')) := by
  have ow1 := h.1.alloc O
  have bk1 := bk.alloc O
  have bk2 := bk1.grown grow (Ne.symm (ow1.ne_blk bk1 (by decide)))
  have hgn : blkOf A' ≠ some g := by
    rcases at1 with e | e
    · rw [e]; exact ow1.ne_blk bk1 (by decide)
    · rw [e]; intro e2; injection e2 with e2; have := bk1.lt; omega
  have ok8 : ∀ y : Sg.Smp, Own8 W 5 y.A y.n y.c y.d → Own8 (w'.setCell ⟨g, i, none⟩ (.slice A' (n + 1) c')) 5 y.A y.n y.c y.d := fun y hy => by
    have hy1 := hy.alloc O
    have hy2 : Own8 w' 5 y.A y.n y.c y.d := by
      refine hy1.kept grow ?_
      rcases e : blkOf y.A with _ | k
      · exact .inl rfl
      · exact .inr fun e2 => ow1.ne_own hy1 (by decide) k e2.symm e
    refine hy2.setFar ?_ _
    have := own_blk_ne hy2.2 bk2 (by decide)
    rwa [ownBlock_slice] at this
  have belA := bel.alloc bel.size O
  have bel2 : Below w.heap.size w w' := belA.grown grow belA.size gA
  refine ⟨⟨?_, fun y hy => ?_⟩, fun k hk => ?_, bk2, bel2.setCell (p := ⟨g, i, none⟩) hg _⟩
  · rw [smpRows_snoc]
    refine ⟨own.1, own.2.1, own.2.2.1, ?_⟩
    rcases own.2.2.2 with h2 | ⟨g', cap, cur, hv, h3, hh, r⟩
    · exact .inl h2
    · refine .inr ⟨g', cap, cur, hv, h3, ?_, r⟩
      rw [Below.heap_setCell _ _ _ _ (fun e => hgn (by injection hv with hA; have e2 : g' = g := e; rw [hA, e2]; rfl))]
      exact hh
  · rcases List.mem_append.1 hy with hy | hy
    · exact ok8 y (h.2 y hy)
    · rw [List.mem_singleton.1 hy]; exact ok8 x hx
  · rcases at1 with e | e
    · exact gA k (by rw [← e]; exact hk)
    · rw [hk] at e; injection e with e; rw [e]; exact belA.size

theorem OwnS.far {w : World} {A : Option Addr} {n c g i : Nat} {xs : List Sg.Smp} {cs : Array Value} (h : OwnS w A n c xs) (bk : Blk w g 28 cs) (v : Value) : OwnS (w.setCell ⟨g, i, none⟩ v) A n c xs := by
  have hgn : blkOf A ≠ some g := h.1.ne_blk bk (by decide)
  refine ⟨⟨h.1.1, h.1.2.1, h.1.2.2.1, ?_⟩, fun y hy => ?_⟩
  · rcases h.1.2.2.2 with h2 | ⟨g', cap, cur, hv, h3, hh, r⟩
    · exact .inl h2
    · refine .inr ⟨g', cap, cur, hv, h3, ?_, r⟩
      rw [Below.heap_setCell _ _ _ _ (fun e => hgn (by injection hv with hA; have e2 : g' = g := e; rw [hA, e2]; rfl))]
      exact hh
  · refine (h.2 y hy).setFar ?_ _
    have := own_blk_ne (h.2 y hy).2 bk (by decide)
    rwa [ownBlock_slice] at this
def slen : Value → Nat
  | .slice _ n _ => n
  | _ => 0
/-- a media and an error -/
def RetMed (w : World) (m : Sg.Med) (E : Int) (e : Ending) (w' : World) : Prop :=
  ∃ A n c xs, e = .returned (.tuple #[medV m.N m.F A n c, .int .i64 E]) ∧ Sg.Samps w' w'.heap.size A xs ∧ Sg.dats xs = m.L ∧ n = xs.length ∧ n ≤ 1000000 ∧ Below w.heap.size w w'
theorem RetMed.zero {w w' : World} (E : Int) (h : Below w.heap.size w w') : RetMed w ⟨0, 0, []⟩ E (.returned (.tuple #[medV 0 0 none 0 0, .int .i64 E])) w' :=
  ⟨none, 0, 0, [], rfl, ⟨fun h => absurd h (by simp), by simp⟩, rfl, rfl, by omega, h⟩
/-- three stores -/
def thr (w : World) (g : Nat) (a b c : Value) : World := ((w.setCell ⟨g, 0, none⟩ a).setCell ⟨g, 1, none⟩ b).setCell ⟨g, 2, none⟩ c
theorem thr_blk {w : World} {g : Nat} {t : TypeId} {p q r : Value} (h : Blk w g t #[p, q, r]) (a b c : Value) : Blk (thr w g a b c) g t #[a, b, c] := ((h.set_ 0 a).set_ 1 b).set_ 2 c
theorem thr_below {w W : World} {B g : Nat} (h : Below B w W) (hg : B ≤ g) (a b c : Value) : Below B w (thr W g a b c) := ((h.setCell (p := ⟨g, 0, none⟩) hg a).setCell (p := ⟨g, 1, none⟩) hg b).setCell (p := ⟨g, 2, none⟩) hg c
theorem thr_frozen {w : World} {g : Nat} {t : TypeId} {cs : Array Value} (h : Blk w g t cs) : w.frozen? ⟨g, 0, none⟩ = false ∧ w.frozen? ⟨g, 1, none⟩ = false ∧ w.frozen? ⟨g, 2, none⟩ = false := ⟨h.frozen 0, h.frozen 1, h.frozen 2⟩
theorem thr_owns {w : World} {g : Nat} {p q r : Value} {A : Option Addr} {n c : Nat} {xs : List Sg.Smp} (h : OwnS w A n c xs) (bk : Blk w g 28 #[p, q, r]) (a b d : Value) : OwnS (thr w g a b d) A n c xs :=
  ((h.far bk a).far (bk.set_ 0 a) b).far ((bk.set_ 0 a).set_ 1 b) d
theorem own_four {w : World} {e e8 : TypeId} {A : Option Addr} {n c : Nat} {x0 x1 x2 x3 : Bx.Cel} (h : Bx.OwnB w e e8 A n c [x0, x1, x2, x3]) : ∃ g, A = some ⟨g, 0, none⟩ ∧ w.cell? ⟨g, 1, none⟩ = some (.slice x0.A x0.n x0.c) ∧ w.cell? ⟨g, 3, none⟩ = some (.slice x1.A x1.n x1.c) ∧ w.cell? ⟨g, 5, none⟩ = some (.slice x2.A x2.n x2.c) ∧ n = 4 ∧ x0.own w e8 ∧ x1.own w e8 ∧ x2.own w e8 := by
  have hn := h.len
  obtain ⟨g, r, hA, hr, _, hc⟩ := h.1.at_ (i := 0) (by rw [hn]; simp)
  obtain ⟨g', r', hA', hr', _, hc'⟩ := h.1.at_ (i := 1) (by rw [hn]; simp)
  obtain ⟨g'', r'', hA'', hr'', _, hc''⟩ := h.1.at_ (i := 2) (by rw [hn]; simp)
  rw [hA] at hA' hA''
  injection hA' with hA'
  injection hA' with hA'
  injection hA'' with hA''
  injection hA'' with hA''
  subst hA' hA''
  injection hr with hr
  injection hr' with hr'
  injection hr'' with hr''
  subst hr hr' hr''
  exact ⟨g, hA, hc 1 _ rfl, hc' 1 _ rfl, hc'' 1 _ rfl, hn, h.2 x0 (by simp), h.2 x1 (by simp), h.2 x2 (by simp)⟩

theorem pm_bad {b : List UInt8} (h1 : Sg.opE b Sg.kM = 0) (h : Sg.pmOk b = false) : Sg.pmR b = ⟨0, 0, []⟩ ∧ Sg.pmE b = 171 := by
  rw [(Sg.pm_no h).1, (Sg.pm_no h).2, if_pos h1]; exact ⟨rfl, rfl⟩
theorem pm_err {b : List UInt8} {E : Int} (h1 : Sg.opE b Sg.kM = E) (hE : E ≠ 0) : Sg.pmR b = ⟨0, 0, []⟩ ∧ Sg.pmE b = E := by
  have h : Sg.pmOk b = false := Sg.pm_false (fun x => hE (h1.symm.trans x.1))
  rw [(Sg.pm_no h).1, (Sg.pm_no h).2, if_neg (by rw [h1]; exact hE)]; exact ⟨rfl, h1⟩
theorem pm_head {b : List UInt8} (h : (Sg.D b 0).length ≠ 12) : Sg.pmOk b = false := Sg.pm_false (fun x => h (Sg.cut_of x.2.1).1)
theorem pm_long {b : List UInt8} (h : 256 < (Sg.D b 1).length) : Sg.pmOk b = false := Sg.pm_false (fun x => by
  obtain ⟨h1, h2, L, h3⟩ := Sg.cut_of x.2.1
  obtain ⟨_, _, e3⟩ := Sg.samp_of _ _ _ _ h3 (by omega)
  have h4 := (Sg.rightM_of x.2.2).2.1.2
  unfold Sg.candM at h4
  rw [h3] at h4
  dsimp only [Option.getD_some] at h4 e3
  omega)
theorem pm_table {b : List UInt8} (h : (Sg.D b 1).length ≠ 4 * Bx.of4 ((Sg.D b 0).drop 8)) : Sg.pmOk b = false := Sg.pm_false (fun x => h (Sg.cut_of x.2.1).2.1)
theorem pm_none {b : List UInt8} (h : Sg.samp (Bx.of4 ((Sg.D b 0).drop 8)) (Sg.D b 1) (Sg.D b 2) = none) : Sg.pmOk b = false := Sg.pm_false (fun x => by
  obtain ⟨_, _, L, h3⟩ := Sg.cut_of x.2.1
  rw [h] at h3; cases h3)
/-- behind all samples: the candidate, and whether it is this file's -/
theorem pm_done {b : List UInt8} {L : List (List UInt8)} {r : List UInt8} (h1 : Sg.opE b Sg.kM = 0) (h2 : (Sg.D b 0).length = 12) (h3 : (Sg.D b 1).length = 4 * Bx.of4 ((Sg.D b 0).drop 8)) (h4 : Sg.samp (Bx.of4 ((Sg.D b 0).drop 8)) (Sg.D b 1) (Sg.D b 2) = some (L, r)) :
    Sg.candM b = ⟨(Bx.of4 (Sg.D b 0) : Int), (Bx.of4 ((Sg.D b 0).drop 4) : Int), L⟩ ∧ L.flatten.length ≤ (Sg.D b 2).length ∧ L.length = Bx.of4 ((Sg.D b 0).drop 8) ∧
    (Sg.rightM (Sg.candM b) = false → Sg.pmOk b = false) ∧ (Sg.rightM (Sg.candM b) = true → (Sg.fileM (Sg.candM b) = b ↔ Sg.pmOk b = true)) ∧ (r ≠ [] → Sg.pmOk b = false) ∧ (r = [] → Sg.rightM (Sg.candM b) = true → Sg.pmOk b = true) := by
  obtain ⟨e1, e2, e3⟩ := Sg.samp_of _ _ _ _ h4 (by omega)
  dsimp only at e1 e2 e3
  have hc : Sg.candM b = ⟨(Bx.of4 (Sg.D b 0) : Int), (Bx.of4 ((Sg.D b 0).drop 4) : Int), L⟩ := by unfold Sg.candM; rw [h4]; rfl
  have hne : r ≠ [] → Sg.pmOk b = false := fun hr => Sg.pm_false (fun x => by
    obtain ⟨_, _, L', h5⟩ := Sg.cut_of x.2.1
    rw [h4] at h5
    injection h5 with h5
    injection h5 with _ h5
    exact hr h5)
  have hyes : r = [] → Sg.rightM (Sg.candM b) = true → Sg.pmOk b = true := fun hr hR => by
    subst hr
    exact Sg.pm_true h1 (Sg.cut_true h2 h3 h4) hR
  refine ⟨hc, by rw [← e2, List.length_append]; omega, e3, fun h => Sg.pm_false (fun x => by rw [x.2.2] at h; cases h), fun hR => ⟨fun hf => ?_, fun h => Sg.pm_file h⟩, hne, hyes⟩
  refine hyes ?_ hR
  have hb := (Sg.seal_boxes (Sg.boxM_right hR)).1
  have hD : Sg.D (Sg.fileM (Sg.candM b)) 2 = L.flatten := by
    unfold Sg.D Sg.fileM
    rw [hb, hc]
    rfl
  rw [hf] at hD
  rw [hD] at e2
  have := congrArg List.length e2
  rw [List.length_append] at this
  exact List.eq_nil_of_length_eq_zero (by omega)
/-- one sample more -/
theorem samp_step {K k : Nat} {t d t' d' : List UInt8} {L : List (List UInt8)} (h : Sg.samp K t d = (Sg.samp (k + 1) t' d').map fun x => (L ++ x.1, x.2)) (hd : Bx.of4 t' ≤ d'.length) :
    Sg.samp K t d = (Sg.samp k (t'.drop 4) (d'.drop (Bx.of4 t'))).map fun x => ((L ++ [d'.take (Bx.of4 t')]) ++ x.1, x.2) := by
  rw [h]
  conv => lhs; unfold Sg.samp
  rw [if_neg (by omega)]
  cases Sg.samp k (t'.drop 4) (d'.drop (Bx.of4 t')) <;> simp
theorem samp_stop {K k : Nat} {t d t' d' : List UInt8} {L : List (List UInt8)} (h : Sg.samp K t d = (Sg.samp (k + 1) t' d').map fun x => (L ++ x.1, x.2)) (hd : d'.length < Bx.of4 t') : Sg.samp K t d = none := by
  rw [h]
  unfold Sg.samp
  rw [if_pos hd]; rfl
theorem samp_end {K : Nat} {t d t' d' : List UInt8} {L : List (List UInt8)} (h : Sg.samp K t d = (Sg.samp 0 t' d').map fun x => (L ++ x.1, x.2)) : Sg.samp K t d = some (L, d') := by
  rw [h]; simp [Sg.samp]
theorem of4_lt (l : List UInt8) : Bx.of4 l < 4294967296 := by
  unfold Bx.of4
  have h0 := (l.getD 0 0).toNat_lt
  have h1 := (l.getD 1 0).toNat_lt
  have h2 := (l.getD 2 0).toNat_lt
  have h3 := (l.getD 3 0).toNat_lt
  omega
end Go.Proofs.Ytakglalebjkpeaa.C17
