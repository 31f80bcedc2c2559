/- A file's boxes, by the contract of Parse. Conditions: the slice reads as bytes; at most 2^40 bytes. -/
import Derived.Test.YtjofojjinoipaaaBoxIter
import Derived.Shelf.Abstract
namespace Go.Proofs.Ytjofojjinoipaaa
open Go.RowKit Kin Go.Shelf
attribute [local go_sem] Oper.semAt_some

/-- boxes of the call's own, or an error -/
def RetParse (w : World) (m : List UInt8) (e : Ending) (w' : World) : Prop :=
  (Bx.even m = true ∧ ∃ A n c xs, e = .returned (.tuple #[.slice A n c, .int .i64 0]) ∧ Bx.OwnB w' 36 5 A n c xs ∧ Bx.boxs xs = Bx.boxes m ∧ (∀ g, blkOf A = some g → w.heap.size ≤ g) ∧ Below w.heap.size w w') ∨
  (Bx.even m = false ∧ e = .returned (.tuple #[.slice none 0 0, .int .i64 161]) ∧ Below w.heap.size w w')

/-- a round's frame and its box -/
def PRd (w : World) (A : Option Addr) (n c : Nat) (s : List Bx.Cel × List UInt8) (x : Bx.Cel × Bool) (a : Act) (W : World) : Prop :=
  ∃ gx, PSt w s W ∧ (x.1.own W 5 ∧ s.1.length ≤ 1099511627776) ∧ Blk W gx 36 #[.string x.1.t, .slice x.1.A x.1.n x.1.c] ∧
    a = { tmps := #[.slice A n c, undef, .pointer (some ⟨w.heap.size, 0, none⟩), .pointer (some ⟨w.heap.size + 1, 0, none⟩), .pointer (some ⟨w.heap.size + 1 + 1, 0, none⟩), .pointer (some ⟨gx, 0, none⟩), .bool x.2, .slice A n c, .func (.func 23) #[] #[.pointer (some ⟨w.heap.size + 1 + 1 + 1, 0, none⟩)], boxV x.1.t x.1.A x.1.n x.1.c, .bool x.2, undef, undef, undef, undef, undef, undef, undef], defers := [] }
theorem PRd.turn (w : World) (A : Option Addr) (n c : Nat) (s : List Bx.Cel × List UInt8) (x : Bx.Cel × Bool) (a : Act) {B : Nat} (hB : w.heap.size ≤ B) : Bides B (PRd w A n c s x a) := by
  rintro W l o o' ⟨gx, h1, h2, h3, h4⟩ hl hh ho
  exact ⟨gx, PSt.turn w s hB W l o o' h1 hl hh ho, ⟨Bx.own8_turn h2.1 hh ho, h2.2⟩, h3.turn hh ho, h4⟩

theorem ownR_cells {w : World} {e : TypeId} {k : Nat} {A : Option Addr} {n c : Nat} {rows : List (List Value)} (h : OwnR w e k A n c rows) (j : Nat) (o : Obj) (hj : blkOf A = some j) (ho : w.heap[j]? = some o) : o.isCells = true := by
  rcases h.2.2.2 with ⟨hv, _⟩ | ⟨g, cap, cur, hv, _, hh, _⟩
  · injection hv with hA; subst hA; cases hj
  · injection hv with hA
    subst hA
    have : g = j := by simpa [blkOf] using hj
    subst this
    rw [hh] at ho
    injection ho with ho
    subst ho
    rfl
/-- a box more -/
theorem PSt.app {w W w2 : World} {s : List Bx.Cel × List UInt8} {x : Bx.Cel} {A1 A2 : Option Addr} {n1 c1 c2 : Nat} {O : Obj} (h : PSt w s W) (v1 : Blk W (w.heap.size + 2) 22 #[.slice A1 n1 c1]) (v2 : Bx.OwnB W 36 5 A1 n1 c1 s.1) (v3 : ∀ k, blkOf A1 = some k → w.heap.size ≤ k) (hok : x.own W 5)
    (own2 : OwnR w2 36 2 A2 (n1 + 1) c2 (s.1.map Bx.Cel.row ++ [x.row])) (grow2 : (W.alloc O).grownBy w2 (blkOf A1)) (at2 : blkOf A2 = blkOf A1 ∨ blkOf A2 = some (W.alloc O).heap.size) :
    KeepsOthers W (w2.setCell ⟨w.heap.size + 2, 0, none⟩ (.slice A2 (n1 + 1) c2)) ∧ PSt w (s.1 ++ [x], s.2) (w2.setCell ⟨w.heap.size + 2, 0, none⟩ (.slice A2 (n1 + 1) c2)) := by
  obtain ⟨r0, r1, _, ⟨A3, n3, c3, b1, b2, b3, b4⟩, bel⟩ := h
  have hb1 : Below W.heap.size W (W.alloc O) := (Below.refl _ _).alloc (Nat.le_refl _) _
  have ow1 := v2.1.alloc O
  have nr : ∀ {g : Nat} {t : TypeId} {cs : Array Value}, Blk (W.alloc O) g t cs → 36 ≠ t → some g ≠ blkOf A1 := fun hg hne => Ne.symm (ow1.ne_blk hg hne)
  have s0 := (r0.alloc O).grown grow2 (nr (r0.alloc O) (by decide))
  have s1 := (r1.alloc O).grown grow2 (nr (r1.alloc O) (by decide))
  have s2 := (v1.alloc O).grown grow2 (nr (v1.alloc O) (by decide))
  have s3 := (b1.alloc O).grown grow2 (nr (b1.alloc O) (by decide))
  have belA := bel.alloc bel.size O
  have bel2 : Below w.heap.size w w2 := belA.grown grow2 belA.size v3
  have ok8 : ∀ y : Bx.Cel, y.own W 5 → y.own w2 5 := fun y hy => by
    have hy1 : Own8 (W.alloc O) 5 y.A y.n y.c y.d := Own8.alloc hy O
    refine hy1.kept grow2 ?_
    rcases e : blkOf y.A with _ | g
    · exact .inl rfl
    · refine .inr fun e2 => ?_
      exact ow1.ne_own hy1 (by decide) g e2.symm e
  have b5 : Byt w2 w.heap.size A3 s.2 := b4.below (((Below.refl w.heap.size W).alloc bel.size O).grown grow2 (Nat.le_trans bel.size hb1.size) v3)
  have hall : ∀ y ∈ s.1 ++ [x], y.own w2 5 := fun y hy => by
    rcases List.mem_append.1 hy with h | h
    · exact ok8 y (v2.2 y h)
    · rw [List.mem_singleton.1 h]; exact ok8 x hok
  have own3 : OwnR w2 36 2 A2 (n1 + 1) c2 ((s.1 ++ [x]).map Bx.Cel.row) := by rw [List.map_append]; exact own2
  refine ⟨(KeepsOthers.alloc W O).trans ((KeepsOthers.of_grownBy grow2 (ownR_cells ow1)).trans (KeepsOthers.setCell _ _ _)), ?_⟩
  refine ⟨s0.far (p := ⟨w.heap.size + 2, 0, none⟩) (show w.heap.size ≠ w.heap.size + 2 by omega) _, s1.far (p := ⟨w.heap.size + 2, 0, none⟩) (show w.heap.size + 1 ≠ w.heap.size + 2 by omega) _,
    ⟨A2, n1 + 1, c2, s2.set_ 0 _, ⟨ownR_set own3 s2 (by decide) _, fun y hy => own8_set (hall y hy) s2 (by decide) _⟩, ?_⟩,
    ⟨A3, n3, c3, s3.far (p := ⟨w.heap.size + 2, 0, none⟩) (show w.heap.size + 3 ≠ w.heap.size + 2 by omega) _, b2, b3, byt_set b5 s2 (by simp)⟩, bel2.setCell (p := ⟨w.heap.size + 2, 0, none⟩) (show w.heap.size ≤ w.heap.size + 2 by omega) _⟩
  intro k hk
  rcases at2 with e | e
  · exact v3 k (by rw [← e]; exact hk)
  · rw [hk] at e; injection e with e; rw [e]; exact Nat.le_trans bel.size hb1.size

set_option maxRecDepth 100000 in
set_option maxHeartbeats 2000000 in
theorem parse_calls (A : Option Addr) (n c : Nat) (m : List UInt8) (w : World) (hn : n = m.length) (hc : n ≤ c) (hm : n ≤ 1099511627776) (hA : Byt w w.heap.size A m) :
    Calls Try.prog 11 #[.slice A n c] w (RetParse w m) := by
  have HN := hide hn
  clear hn
  refine (callsIn_wide (n := 6)).1 ?_
  refine callsIn_of_wp_marks Try.func11 rfl trivial ?_ rfl
  simp only [Try.ntmps11, List.size_toArray, List.length_cons, List.length_nil, Nat.reduceAdd, Nat.reduceSub, Array.replicate_succ, Array.replicate_zero, List.push_toArray, List.append_toArray, List.nil_append, List.cons_append]
  gi_wp2
  refine ⟨trivial, (callsIn_wide.2 (boxes_calls A n c _)).mono ?_⟩
  rintro e w4 ⟨rfl, rfl⟩
  have q0 := (((Blk.new w 22 #[.slice none 0 0]).alloc (.cells #[.int .i64 0] 26)).alloc (.cells #[.slice none 0 0] 22)).alloc (.cells #[.slice A n c] 23)
  have q1 := ((Blk.new (w.alloc (.cells #[.slice none 0 0] 22)) 26 #[.int .i64 0]).alloc (.cells #[.slice none 0 0] 22)).alloc (.cells #[.slice A n c] 23)
  have q2 := (Blk.new ((w.alloc (.cells #[.slice none 0 0] 22)).alloc (.cells #[.int .i64 0] 26)) 22 #[.slice none 0 0]).alloc (.cells #[.slice A n c] 23)
  have q3 := Blk.new (((w.alloc (.cells #[.slice none 0 0] 22)).alloc (.cells #[.int .i64 0] 26)).alloc (.cells #[.slice none 0 0] 22)) 23 #[.slice A n c]
  have qb : Below w.heap.size w ((((w.alloc (.cells #[.slice none 0 0] 22)).alloc (.cells #[.int .i64 0] 26)).alloc (.cells #[.slice none 0 0] 22)).alloc (.cells #[.slice A n c] 23)) := ((((Below.refl _ w).alloc (Nat.le_refl _) _).alloc (by simp) _).alloc (by simp; omega) _).alloc (by simp; omega) _
  simp only [World.size_alloc] at q1 q2 q3
  have P0 : PSt w ([], m) ((((w.alloc (.cells #[.slice none 0 0] 22)).alloc (.cells #[.int .i64 0] 26)).alloc (.cells #[.slice none 0 0] 22)).alloc (.cells #[.slice A n c] 23)) :=
    ⟨q0, q1, ⟨none, 0, 0, q2, Bx.OwnB.nil _ _ _, by simp [blkOf]⟩, ⟨A, n, c, q3, HN.out, hc, hA.below qb⟩, qb⟩
  have hsz : w.heap.size ≤ ((((w.alloc (.cells #[.slice none 0 0] 22)).alloc (.cells #[.int .i64 0] 26)).alloc (.cells #[.slice none 0 0] 22)).alloc (.cells #[.slice A n c] 23)).heap.size := qb.size
  clear q0 q1 q2 q3 qb hA
  gi_wp2
  generalize (((w.alloc (.cells #[.slice none 0 0] 22)).alloc (.cells #[.int .i64 0] 26)).alloc (.cells #[.slice none 0 0] 22)).alloc (.cells #[.slice A n c] 23) = W0 at *
  refine range_law (n := 6) rfl (by omega) (gf := 23) (lb := #[.pointer (some ⟨w.heap.size + 1 + 1 + 1, 0, none⟩)]) rfl trivial (enters_of Try.func23 (by kernel_rfl) rfl) bxE (fun _ => rfl)
    (PSt w) (PEnd w) (fun s x => (s.1 ++ [x.1], s.2)) (fun s x W => x.1.own W 5 ∧ s.1.length ≤ 1099511627776) (PRd w A n c) (fun s => Bx.even m = true ∧ Bx.boxs s.1 = Bx.boxes m) (fun _ x => x.2 = true) (fun _ x => x.2 = false) (Bx.even m = false) ([], m)
    (fun s => PSt.turn w s hsz) (PEnd.turn w hsz) (fun s x a' => PRd.turn w A n c s x a' hsz)
    (fun r => (P0.below ((Below.refl _ _).alloc (Nat.le_refl _) _)).below ((Below.refl _ _).alloc (Nat.le_refl _) _)) ?assign ?body
    (fun l B Bx hB _ hY W hI hBW => iter_in w m (by have := HN.out; omega) 5 l B Bx hB hY W hI hBW) ?done ?stop
  case assign =>
    rintro l s ⟨x, b⟩ W K hI hok hK
    gi_wp2
    have hb : Below W.heap.size W (W.alloc (.cells #[.string x.t, .slice x.A x.n x.c] 36)) := (Below.refl _ _).alloc (Nat.le_refl _) _
    exact hK _ _ (KeepsOthers.alloc _ _) ⟨W.heap.size, hI.below hb, ⟨Own8.below hok.1 hb (Own8.lt hok.1), hok.2⟩, Blk.new _ _ _, rfl⟩
  case body =>
    rintro l s ⟨x, b⟩ a' W ⟨gx, hP, ⟨hok, hsl⟩, hbk, rfl⟩
    obtain ⟨r0, r1, ⟨A1, n1, c1, v1, v2, v3⟩, hb, bel⟩ := hP
    dsimp only at hok hbk
    cases b
    · have k0 : W.cell? ⟨w.heap.size, 0, none⟩ = some (.slice none 0 0) := r0.cell 0
      have k1 : W.cell? ⟨w.heap.size + 1, 0, none⟩ = some (.int .i64 0) := r1.cell 0
      have f0 := r0.frozen 0
      have f1 := r1.frozen 0
      gi_wp2
      have e0 := (r0.set_ 0 (.slice none 0 0)).far (p := ⟨w.heap.size + 1, 0, none⟩) (show w.heap.size ≠ w.heap.size + 1 by omega) (.int .i64 161)
      have e1 := (r1.far (p := ⟨w.heap.size, 0, none⟩) (show w.heap.size + 1 ≠ w.heap.size by omega) (.slice none 0 0)).set_ 0 (.int .i64 161)
      have eb := (bel.setCell (p := ⟨w.heap.size, 0, none⟩) (Nat.le_refl _) (.slice none 0 0)).setCell (p := ⟨w.heap.size + 1, 0, none⟩) (Nat.le_succ _) (.int .i64 161)
      exact ⟨(KeepsOthers.setCell _ _ _).trans (KeepsOthers.setCell _ _ _), e0, e1, eb⟩
    · have k0 : W.cell? ⟨w.heap.size + 1 + 1, 0, none⟩ = some (.slice A1 n1 c1) := v1.cell 0
      have k1 : W.cell? ⟨gx, 0, none⟩ = some (.string x.t) := hbk.cell 0
      have k2 : W.cell? ⟨gx, 1, none⟩ = some (.slice x.A x.n x.c) := hbk.cell 1
      have f0 := v1.frozen 0
      have hn1 : n1 ≤ 1099511627776 := by rw [v2.len]; exact hsl
      have hb1 : Below W.heap.size W (W.alloc (.cells #[.string x.t, .slice x.A x.n x.c] 36)) := (Below.refl _ _).alloc (Nat.le_refl _) _
      have vV := v1.below hb1 v1.lt
      gi_wp2_with (gi_at_builtin; refine wpListIn_appendR (by rfl) (.tmp 13) (.tmp 15) 22 36 2 40 (by rfl) boxesT _ _ _ _ (by rfl) (v2.1.alloc _) _ _ _ _ [x.row] (by rfl) (Recs.new _ _ _ _ _ _ rfl rfl) (by rfl) (by simp [Bx.Cel.row]) (by simp [Bx.Cel.row, Value.oneCell']) (by omega) (by unfold maxLen; omega) ?_; intro A2 c2 w2 own2 grow2 at2; have v12 := vV.grown grow2 (Ne.symm ((v2.1.alloc _).ne_blk vV (by decide))); have k3 : w2.cell? ⟨w.heap.size + 1 + 1, 0, none⟩ = some (.slice A1 n1 c1) := v12.cell 0; have f2 : w2.frozen? ⟨w.heap.size + 1 + 1, 0, none⟩ = false := v12.frozen 0)
      exact PSt.app ⟨r0, r1, ⟨A1, n1, c1, v1, v2, v3⟩, hb, bel⟩ v1 v2 v3 hok own2 grow2 at2
  case done =>
    rintro D s W hD ⟨h1, h2⟩ hP hK
    have hP' := hP
    obtain ⟨r0, r1, ⟨A1, n1, c1, v1, v2, v3⟩, hb, bel⟩ := hP'
    have k0 : W.cell? ⟨w.heap.size, 0, none⟩ = some (.slice none 0 0) := r0.cell 0
    have k1 : W.cell? ⟨w.heap.size + 1, 0, none⟩ = some (.int .i64 0) := r1.cell 0
    have k2 : W.cell? ⟨w.heap.size + 1 + 1, 0, none⟩ = some (.slice A1 n1 c1) := v1.cell 0
    have f0 := r0.frozen 0
    have f1 := r1.frozen 0
    gi_wp2
    have e0 := (r0.set_ 0 (.slice A1 n1 c1)).far (p := ⟨w.heap.size + 1, 0, none⟩) (show w.heap.size ≠ w.heap.size + 1 by omega) (.int .i64 0)
    have e1 := (r1.far (p := ⟨w.heap.size, 0, none⟩) (show w.heap.size + 1 ≠ w.heap.size by omega) (.slice A1 n1 c1)).set_ 0 (.int .i64 0)
    have eb := (bel.setCell (p := ⟨w.heap.size, 0, none⟩) (Nat.le_refl _) (.slice A1 n1 c1)).setCell (p := ⟨w.heap.size + 1, 0, none⟩) (Nat.le_succ _) (.int .i64 0)
    have eo := ownB_set (u := .int .i64 0) (ownB_set (u := .slice A1 n1 c1) v2 r0 (by decide) (by decide)) (r1.far (p := ⟨w.heap.size, 0, none⟩) (show w.heap.size + 1 ≠ w.heap.size by omega) (.slice A1 n1 c1)) (by decide) (by decide)
    have hK' := ((KeepsOthers.setCell W ⟨w.heap.size, 0, none⟩ (.slice A1 n1 c1)).trans (KeepsOthers.setCell _ ⟨w.heap.size + 1, 0, none⟩ (.int .i64 0))).same D _ hK rfl
    refine ⟨by simp, .inl ⟨_, _, rfl, run_takeDeferred hK', ?_⟩⟩
    have z0 := (e0.turn (o' := .deferred none) hK' rfl).cell 0
    have z1 := (e1.turn (o' := .deferred none) hK' rfl).cell 0
    refine ⟨.tuple #[.slice A1 n1 c1, .int .i64 0], ?_, .inl ⟨h1, A1, n1, c1, s.1, rfl, eo.turn hK' rfl, h2, v3, below_turn eb (Nat.le_trans hsz hD) hK'⟩⟩
    generalize (((W.setCell ⟨w.heap.size, 0, none⟩ (.slice A1 n1 c1)).setCell ⟨w.heap.size + 1, 0, none⟩ (.int .i64 0)).putObj D (.deferred none)) = V at *
    have z2 : V.cell? ⟨w.heap.size, 0, none⟩ = some (.slice A1 n1 c1) := z0
    have z3 : V.cell? ⟨w.heap.size + 1, 0, none⟩ = some (.int .i64 0) := z1
    simp [results, Try.f11, go_sem, z2, z3]
  case stop =>
    rintro D W hD h1 hP hK
    gi_wp2
    refine ⟨by simp, .inl ⟨_, _, rfl, run_takeDeferred hK, ?_⟩⟩
    have k0 : (W.putObj D (.deferred none)).cell? ⟨w.heap.size, 0, none⟩ = some (.slice none 0 0) := (hP.r0.turn hK rfl).cell 0
    have k1 : (W.putObj D (.deferred none)).cell? ⟨w.heap.size + 1, 0, none⟩ = some (.int .i64 161) := (hP.r1.turn hK rfl).cell 0
    refine ⟨.tuple #[.slice none 0 0, .int .i64 161], ?_, .inr ⟨h1, rfl, below_turn hP.bel (Nat.le_trans hsz hD) hK⟩⟩
    simp [results, Try.f11, go_sem, k0, k1]
end Go.Proofs.Ytjofojjinoipaaa
