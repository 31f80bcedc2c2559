/- Texts of this claim in one: HState. What each proves, and on what conditions, its own words say. -/
import Derived.Test.YtbfhpgpceakeiaaGreatDoorTopSt
import Derived.Test.YtbfhpgpceakeiaaGreatDoorHNet
namespace Kin
open Go Go.RowKit
theorem ldS_row {P : Program} {w : World} {g o : Nat} {t T : TypeId} {cs : List Value} {xs : List Value} {d : TypeDesc} (h : RowV w g t cs) (hx : (cs.drop o).take xs.length = xs) (hu : P.underlying T = some d) (hd : d.isRow = true) (hi : (P.info? T).map (·.size) = some xs.length) : Sem.run P (ldS T (.pointer (some ⟨g, o, none⟩))) w = .ok (.agg xs.toArray) w :=
  run_loadAt_mid w g o T xs d (fun j v hj => by
    refine h.cell ?_
    have hl : j < xs.length := (List.getElem?_eq_some_iff.1 hj).1
    rw [← hx, List.getElem?_take_of_lt hl, List.getElem?_drop] at hj
    exact hj) hu hd hi
end Kin
namespace Go.Proofs.YtbfhpgpceakeiaaGreatDoor.Tw
open Go.RowKit Kin Go.Proofs.YtbfhpgpceakeiaaGreatDoor

theorem post_mk {w w' : World} {F G : List Fac} {S : Nat → Prop} (hS : Says w' G) (nod : (owns G).Nodup) (rd : rds G = []) (new : ∀ k ∈ owns G, k ∈ owns F ∨ w.heap.size ≤ k) (c : Chg S w w') (hc : ∀ k, k < w.heap.size → S k → k ∈ owns F) : Post w w' F G :=
  ⟨hS, nod, fun k h => (by rw [rd] at h; cases h), new, fun k h => (by rw [rd] at h; cases h), c.mono hc⟩
theorem mem_opt {A : Option Addr} {k : Nat} : k ∈ (blkOf A).toList ↔ blkOf A = some k := by
  cases h : blkOf A with
  | none => simp
  | some g => simp [eq_comm]
abbrev sl3 (x : Option Addr × Nat × Nat) : Value := .slice x.1 x.2.1 x.2.2
abbrev F8 (x : Option Addr × Nat × Nat) (l : List UInt8) : Fac := Fac.own8 5 x.1 x.2.1 x.2.2 l
theorem post_own8 {w w' : World} {A : Option Addr} {n c : Nat} {l : List UInt8} (o : Own8 w' 5 A n c l) (f : ∀ k, blkOf A = some k → w.heap.size ≤ k) (b : Below w.heap.size w w') : Post w w' [] [F8 (A, n, c) l] :=
  Post.one b o (nodup_opt A) rfl fun k hk => f k (mem_opt.1 hk)
theorem bend_s (A : Option Addr) (n c : Nat) (l : List UInt8) (K D N : Int) (w : World) (hn : n = l.length) (hm : n ≤ 2000000) (h0 : -9223372036854775808 ≤ N) (h1 : N ≤ 9223372036854775807) (h : Pre w [Fac.byt A l] []) :
    Calls Tryz.prog 24 #[.slice A n c, .agg #[.int .i64 K, .int .i64 D, .int .i64 N]] w (Ret sl3 [] (fun x => [F8 x (Ne.bend K N l)]) w) := by
  refine (bend_calls A n c l K D N w hn hm (h.getR 0 rfl : Byt w w.heap.size A l ∧ _).1 h0 h1).mono ?_
  rintro e w' ⟨A', n', c', rfl, o, f, b⟩
  exact ⟨(A', n', c'), rfl, post_own8 o f b⟩
section
variable {g f : Nat} {T : TypeId} {cs : Array Value} {Aq : Option Addr} {w w' : World} {nq cq : Nat} {rows rows' : List (List Value)} {e : Ending}
theorem push_post (hT : 88 ≠ T) (h : RetPush g f T cs Aq nq rows' w e w') : Ret (fun _ : Option Addr × Nat => .tuple #[]) [Fac.blk g T cs, Fac.ownR 88 3 Aq nq cq rows] (fun x => [Fac.blk g T (cs.setIfInBounds f (.slice x.1 (nq + 1) x.2)), Fac.ownR 88 3 x.1 (nq + 1) x.2 rows']) w e w' := by
  obtain ⟨rfl, A', c', b, o, hl, hc⟩ := h
  refine ⟨(A', c'), rfl, post_mk ⟨b, o, trivial⟩ ?_ rfl ?_ hc ?_⟩
  · have := o.ne_blk b hT
    rcases hA : blkOf A' with _ | k
    · simp [owns, hA]
    · simp [owns, hA]
      intro e
      rw [hA, ← e] at this
      exact this rfl
  · intro k hk
    have hk : k = g ∨ k ∈ (blkOf A').toList := by simpa [owns] using hk
    rcases hk with rfl | hk
    · exact .inl (by simp [owns])
    · have hk := mem_opt.1 hk
      rcases hl with e | ⟨k', e, hk'⟩
      · rw [e] at hk
        exact .inl (by simp [owns, hk])
      · rw [hk] at e
        injection e with e
        rw [e]
        exact .inr hk'
  · rintro k _ (rfl | e)
    · simp [owns]
    · simp [owns, e]
end
theorem push0_s (g f c : Nat) (T : TypeId) (cs : Array Value) (Aq : Option Addr) (d k : Int) (A : Option Addr) (m cm : Nat) (w : World) (hf : cs[f]? = some (.slice Aq 0 c)) (hT : 88 ≠ T) (h : Pre w [] [Fac.blk g T cs, Fac.ownR 88 3 Aq 0 c []]) :
    Calls Tryz.prog 23 #[qIf g f, .iface 88 (.agg #[.int .i64 d, .int .i64 k, .slice A m cm])] w (Ret (fun _ : Option Addr × Nat => .tuple #[]) [Fac.blk g T cs, Fac.ownR 88 3 Aq 0 c []] (fun x => [Fac.blk g T (cs.setIfInBounds f (.slice x.1 1 x.2)), Fac.ownR 88 3 x.1 1 x.2 [pkR d k A m cm]]) w) :=
  (hPush0_calls g f c T cs Aq d k A m cm w (h.get 0 rfl) hf hT (h.get 1 rfl)).mono fun _ _ => push_post hT
theorem push1_s (g f c : Nat) (T : TypeId) (cs : Array Value) (Aq : Option Addr) (d k d2 k2 : Int) (A A2 : Option Addr) (m cm m2 cm2 : Nat) (w : World) (hf : cs[f]? = some (.slice Aq 1 c)) (hT : 88 ≠ T) (hd : d ≤ d2) (hk : k ≤ k2) (h : Pre w [] [Fac.blk g T cs, Fac.ownR 88 3 Aq 1 c [pkR d k A m cm]]) :
    Calls Tryz.prog 23 #[qIf g f, .iface 88 (.agg #[.int .i64 d2, .int .i64 k2, .slice A2 m2 cm2])] w (Ret (fun _ : Option Addr × Nat => .tuple #[]) [Fac.blk g T cs, Fac.ownR 88 3 Aq 1 c [pkR d k A m cm]] (fun x => [Fac.blk g T (cs.setIfInBounds f (.slice x.1 2 x.2)), Fac.ownR 88 3 x.1 2 x.2 [pkR d k A m cm, pkR d2 k2 A2 m2 cm2]]) w) :=
  (hPush1_calls g f c T cs Aq d k d2 k2 A A2 m cm m2 cm2 w (h.get 0 rfl) hf hT (h.get 1 rfl) hd hk).mono fun _ _ => push_post hT
/-- a packet under way -/
structure Pk where
  due : Int
  num : Int
  d : Option Addr × Nat × Nat
  l : List UInt8
abbrev Pk.row (p : Pk) : List Value := pkR p.due p.num p.d.1 p.d.2.1 p.d.2.2
abbrev Pk.fac (p : Pk) : Fac := F8 p.d p.l
/-- a queue of packets: its slice, and what it owns -/
def QIs (q : Value) (F : List Fac) : List Pk → Prop
  | [] => ∃ A c, q = .slice A 0 c ∧ F = []
  | [p] => ∃ g c rest, q = .slice (some ⟨g, 0, none⟩) 1 c ∧ 1 ≤ c ∧ F = [Fac.blk g 88 (p.row ++ rest).toArray, p.fac]
  | [p, p'] => ∃ g c rest, q = .slice (some ⟨g, 0, none⟩) 2 c ∧ 2 ≤ c ∧ F = [Fac.blk g 88 (p.row ++ p'.row ++ rest).toArray, p.fac, p'.fac]
  | _ => False
theorem send_post1 {g : Nat} {mk : Value → Array Value} {q0 : Array Value} {Aq : Option Addr} {cq : Nat} {due s : Int} {l : List UInt8} {w w' : World} {e : Ending} (h : RetSend g mk Aq due s l w e w') :
    e = .returned (.int .i64 0) ∧ ∃ p q' F', p.due = due ∧ p.num = s ∧ p.l = l ∧ QIs q' F' [p] ∧ Post w w' [Fac.blk g 80 q0, Fac.ownR 88 3 Aq 0 cq []] (Fac.blk g 80 (mk q') :: F') := by
  obtain ⟨rfl, A', c', Ad, nd, cd, b, o, d, hd, hl, hc⟩ := h
  have hn1 := o.ne_blk b (by decide)
  have hn2 := o.ne_own d (by decide)
  obtain ⟨gq, rest, rfl, hq, hcc⟩ := ownR_open1 o
  have hq' : Blk w' gq 88 (pkR due s Ad nd cd ++ rest).toArray := by simpa using hq
  have n1 : gq ≠ g := fun e => hn1 (by rw [e]; rfl)
  have n2 : blkOf Ad ≠ some gq := hn2 gq rfl
  have n3 : blkOf Ad ≠ some g := fun e => by
    have := d.2.2
    rcases this with ⟨hv, _⟩ | ⟨g', cap, cur, hv, _, hh, _⟩
    · injection hv with hA; subst hA; cases e
    · injection hv with hA
      subst hA
      injection e with e
      subst e
      have b' : Blk w' g' 80 (mk (.slice (some ⟨gq, 0, none⟩) 1 c')) := b
      unfold Blk at b'
      rw [b'] at hh
      injection hh with hh
      injection hh with _ hT _
      exact absurd hT (by decide)
  refine ⟨rfl, ⟨due, s, (Ad, nd, cd), l⟩, .slice (some ⟨gq, 0, none⟩) 1 c', _, rfl, rfl, rfl, ⟨gq, c', rest, rfl, hcc, rfl⟩, ?_⟩
  refine post_mk ⟨b, hq', d, trivial⟩ ?_ rfl ?_ hc ?_
  · rcases hA : blkOf Ad with _ | k
    · simp [owns, hA, n1.symm]
    · simp [owns, hA, n1.symm]
      exact ⟨fun e => n3 (by rw [hA, e]), fun e => n2 (by rw [hA, e])⟩
  · intro k hk
    have hk : k = g ∨ k = gq ∨ k ∈ (blkOf Ad).toList := by simpa [owns] using hk
    rcases hk with rfl | rfl | hk
    · exact .inl (by simp [owns])
    · rcases hl with e | ⟨k', e, hk'⟩
      · have : blkOf Aq = some k := e.symm
        exact .inl (by simp [owns, this])
      · injection e with e
        have e : k = k' := e
        rw [e]
        exact .inr hk'
    · exact .inr (hd k (mem_opt.1 hk))
  · rintro k _ (rfl | e)
    · simp [owns]
    · simp [owns, e]
/-- Next of a queue that has one, or two -/
theorem next_post {g gq : Nat} {cs0 cs : Array Value} {xs0 xs : List Value} {A : Option Addr} {m cm : Nat} {w w' : World} {e : Ending} (hn : g ≠ gq) (h : RetNext g gq cs xs A m cm w e w') :
    e = .returned (.tuple #[.slice A m cm, .bool true]) ∧ Post w w' [Fac.blk g 80 cs0, Fac.blk gq 88 xs0.toArray] [Fac.blk g 80 cs, Fac.blk gq 88 xs.toArray] := by
  obtain ⟨rfl, b, q, c⟩ := h
  refine ⟨rfl, post_mk ⟨b, q, trivial⟩ (by simp [owns, hn]) rfl ?_ c ?_⟩
  · intro k hk
    exact .inl (by simpa [owns] using hk)
  · rintro k _ (rfl | rfl) <;> simp [owns]
end Go.Proofs.YtbfhpgpceakeiaaGreatDoor.Tw
namespace Go.Proofs.YtbfhpgpceakeiaaGreatDoor.Tw
open Go.RowKit Kin Go.Proofs.YtbfhpgpceakeiaaGreatDoor

abbrev qs (x : Option Addr × Nat) (n : Nat) : Value := .slice x.1 n x.2
set_option maxRecDepth 100000 in
set_option maxHeartbeats 8000000 in
theorem snd2_0 (g : Nat) (t s : Int) (Aq A1 : Option Addr) (cq n1 c1 : Nat) (A : Option Addr) (n c : Nat) (l : List UInt8) (D N : Int) (w : World) (hn1 : n1 ≤ 100) (ht : 0 ≤ t ∧ t ≤ 1000000) (hs : 0 ≤ s ∧ s ≤ 1000000) (hD : 0 ≤ D ∧ D ≤ 1000) (h0 : -9223372036854775808 ≤ N) (h1 : N ≤ 9223372036854775807) (hn : n = l.length) (hm : n ≤ 2000000)
    (h : Pre w [Fac.byt A l] [Fac.blk g 80 (netC t s (.slice Aq 0 cq) (.slice A1 n1 c1)), Fac.ownR 88 3 Aq 0 cq []]) :
    Calls Tryz.prog 8 #[.pointer (some ⟨g, 0, none⟩), .int .i64 0, .slice A n c, .agg #[.int .i64 2, .int .i64 D, .int .i64 N]] w (Ret (fun _ : (Option Addr × Nat) × (Option Addr × Nat × Nat) × (Option Addr × Nat × Nat) => .int .i64 0) [Fac.blk g 80 (netC t s (.slice Aq 0 cq) (.slice A1 n1 c1)), Fac.ownR 88 3 Aq 0 cq []]
      (fun x => [Fac.blk g 80 (netC t (s + 2) (qs x.1 2) (.slice A1 n1 c1)), Fac.ownR 88 3 x.1.1 2 x.1.2 [pkR (t + D) s x.2.1.1 x.2.1.2.1 x.2.1.2.2, pkR (t + 2 * D) (s + 1) x.2.2.1 x.2.2.2.1 x.2.2.2.2], F8 x.2.2 (Ne.bend 2 N l), F8 x.2.1 (Ne.bend 2 N l)]) w) := by
  obtain ⟨gf, hgf⟩ : ∃ x, w.heap.size = x := ⟨_, rfl⟩
  have H1 : Hid (St w [Fac.byt A l] [Fac.blk g 80 (netC t s (.slice Aq 0 cq) (.slice A1 n1 c1)), Fac.ownR 88 3 Aq 0 cq []] (w.alloc (.cells #[.int .i64 2, .int .i64 D, .int .i64 N] 29)) (Fac.blk gf 29 #[.int .i64 2, .int .i64 D, .int .i64 N] :: [Fac.blk g 80 (netC t s (.slice Aq 0 cq) (.slice A1 n1 c1)), Fac.ownR 88 3 Aq 0 cq []])) := h.start.alloc 29 #[.int .i64 2, .int .i64 D, .int .i64 N] hgf
  have HLN := hide (fun (w : World) (h : Blk w g 80 (netC t s (.slice Aq 0 cq) (.slice A1 n1 c1))) => netLen_calls g t s Aq A1 0 cq n1 c1 w h (by omega) (by omega))
  have HBE := hide (fun (w : World) (h : Pre w [Fac.byt A l] []) => bend_s A n c l 2 D N w hn hm h0 h1 h)
  have HPU := hide (fun (x : Option Addr × Nat × Nat) (w : World) => push0_s g 2 cq 80 (netC t s (.slice Aq 0 cq) (.slice A1 n1 c1)) Aq (t + D) s x.1 x.2.1 x.2.2 w rfl (by decide))
  have HPU2 := hide (fun (y : Option Addr × Nat) (x1 x2 : Option Addr × Nat × Nat) (w : World) => push1_s g 2 y.2 80 (netC t (s + 1) (qs y 1) (.slice A1 n1 c1)) y.1 (t + D) s (t + 2 * D) (s + 1) x1.1 x2.1 x1.2.1 x1.2.2 x2.2.1 x2.2.2 w rfl (by decide) (by omega) (by omega))
  obtain ⟨ht0, ht1⟩ := ht
  obtain ⟨hs0, hs1⟩ := hs
  obtain ⟨hD0, hD1⟩ := hD
  have d0 : decide (D < 0) = false := by simp; omega
  have d1 : decide (1000 < D) = false := by simp; omega
  have f0 : (w.alloc (.cells #[.int .i64 2, .int .i64 D, .int .i64 N] 29)).cell? ⟨gf, 0, none⟩ = some (.int .i64 2) := (H1.out.get 0 rfl : Blk _ gf 29 _).cell 0
  have f1 : (w.alloc (.cells #[.int .i64 2, .int .i64 D, .int .i64 N] 29)).cell? ⟨gf, 1, none⟩ = some (.int .i64 D) := (H1.out.get 0 rfl : Blk _ gf 29 _).cell 1
  have HGF := hide hgf
  have x0 : IntKind.i64.wrap 1 = 1 := rfl
  have x3 : IntKind.i64.wrap D = D := by rw [IntKind.wrap_i64]; omega
  have x1' : IntKind.i64.wrap (t + D) = t + D := by rw [IntKind.wrap_i64]; omega
  have x4 : IntKind.i64.wrap 2 = 2 := rfl
  have x5 : IntKind.i64.wrap (2 * D) = 2 * D := by rw [IntKind.wrap_i64]; omega
  have x6 : IntKind.i64.wrap (t + 2 * D) = t + 2 * D := by rw [IntKind.wrap_i64]; omega
  have x7 : IntKind.i64.wrap (s + 1) = s + 1 := by rw [IntKind.wrap_i64]; omega
  have x8 : IntKind.i64.wrap (s + 1 + 1) = s + 1 + 1 := by rw [IntKind.wrap_i64]; omega
  clear h hn hm h0 h1
  go_enter Tryz.func8, Tryz.ntmps8
  go_wp2_with fail
  generalize w.alloc (.cells #[.int .i64 2, .int .i64 D, .int .i64 N] 29) = W1 at *
  refine (HLN.out _ (H1.out.get 1 rfl)).mono ?_
  rintro en w2 ⟨rfl, rfl⟩
  have j1 : ¬ (200 : Int) < ((0 : Int) + (n1 : Int)) + 2 := by omega
  have G0 : Hid (W1.drew.cell? ⟨g, 0, none⟩ = some (.int .i64 t) ∧ W1.drew.cell? ⟨g, 1, none⟩ = some (.int .i64 s) ∧ W1.drew.cell? ⟨gf, 0, none⟩ = some (.int .i64 2) ∧ W1.drew.cell? ⟨gf, 1, none⟩ = some (.int .i64 D) ∧ W1.drew.cell? ⟨gf, 2, none⟩ = some (.int .i64 N)) := ⟨(H1.out.drew.get 1 rfl : Blk _ g 80 _).cell 0, (H1.out.drew.get 1 rfl : Blk _ g 80 _).cell 1, (H1.out.drew.get 0 rfl : Blk _ gf 29 _).cell 0, (H1.out.drew.get 0 rfl : Blk _ gf 29 _).cell 1, (H1.out.drew.get 0 rfl : Blk _ gf 29 _).cell 2⟩
  go_wp2_with fail
  refine wp_loop_rounds 3 ?_
  rw [rounds_succ]
  go_wp2_with fail
  go_region_held3 (fun w' => w'.cell? ⟨g, 0, none⟩ = some (.int .i64 t) ∧ w'.cell? ⟨g, 1, none⟩ = some (.int .i64 s) ∧ w'.cell? ⟨gf, 0, none⟩ = some (.int .i64 2) ∧ w'.cell? ⟨gf, 1, none⟩ = some (.int .i64 D) ∧ w'.cell? ⟨gf, 2, none⟩ = some (.int .i64 N)) (first | with_reducible exact G0.out | with_reducible exact G1.out | with_reducible exact G2.out)
    ((first | (go_at_call 24; (with_reducible refine (HBE.out _ (H1.out.drew.pre [0] [] [] rfl rfl)).mono ?_); rintro e w3 ⟨x1, rfl, p3⟩; have H3 : Hid (St w [Fac.byt A l] [Fac.blk g 80 (netC t s (.slice Aq 0 cq) (.slice A1 n1 c1)), Fac.ownR 88 3 Aq 0 cq []] w3 (F8 x1 (Ne.bend 2 N l) :: (Fac.blk gf 29 #[.int .i64 2, .int .i64 D, .int .i64 N] :: [Fac.blk g 80 (netC t s (.slice Aq 0 cq) (.slice A1 n1 c1)), Fac.ownR 88 3 Aq 0 cq []]))) := H1.out.drew.step [] p3; have G1 : Hid (w3.cell? ⟨g, 0, none⟩ = some (.int .i64 t) ∧ w3.cell? ⟨g, 1, none⟩ = some (.int .i64 s) ∧ w3.cell? ⟨gf, 0, none⟩ = some (.int .i64 2) ∧ w3.cell? ⟨gf, 1, none⟩ = some (.int .i64 D) ∧ w3.cell? ⟨gf, 2, none⟩ = some (.int .i64 N)) := ⟨(H3.out.get 2 rfl : Blk _ g 80 _).cell 0, (H3.out.get 2 rfl : Blk _ g 80 _).cell 1, (H3.out.get 1 rfl : Blk _ gf 29 _).cell 0, (H3.out.get 1 rfl : Blk _ gf 29 _).cell 1, (H3.out.get 1 rfl : Blk _ gf 29 _).cell 2⟩; clear p3) | (go_at_call 23; (with_reducible refine (HPU.out x1 _ (H3.out.pre [] [] [2, 3] rfl rfl)).mono ?_); rintro e w4 ⟨y1, rfl, p4⟩; have H4 : Hid (St w [Fac.byt A l] [Fac.blk g 80 (netC t s (.slice Aq 0 cq) (.slice A1 n1 c1)), Fac.ownR 88 3 Aq 0 cq []] w4 [Fac.blk g 80 (netC t s (qs y1 1) (.slice A1 n1 c1)), Fac.ownR 88 3 y1.1 1 y1.2 [pkR (t + D) s x1.1 x1.2.1 x1.2.2], F8 x1 (Ne.bend 2 N l), Fac.blk gf 29 #[.int .i64 2, .int .i64 D, .int .i64 N]]) := H3.out.step [2, 3] p4; have G2 : Hid (w4.cell? ⟨g, 0, none⟩ = some (.int .i64 t) ∧ w4.cell? ⟨g, 1, none⟩ = some (.int .i64 s) ∧ w4.cell? ⟨gf, 0, none⟩ = some (.int .i64 2) ∧ w4.cell? ⟨gf, 1, none⟩ = some (.int .i64 D) ∧ w4.cell? ⟨gf, 2, none⟩ = some (.int .i64 N)) := ⟨(H4.out.get 0 rfl : Blk _ g 80 _).cell 0, (H4.out.get 0 rfl : Blk _ g 80 _).cell 1, (H4.out.get 3 rfl : Blk _ gf 29 _).cell 0, (H4.out.get 3 rfl : Blk _ gf 29 _).cell 1, (H4.out.get 3 rfl : Blk _ gf 29 _).cell 2⟩; clear p4)))
  have k1 : w4.cell? ⟨g, 1, none⟩ = some (.int .i64 s) := (H4.out.get 0 rfl : Blk _ g 80 _).cell 1
  have k2 := (H4.out.get 0 rfl : Blk _ g 80 _).frozen 1
  have H5 : Hid (St w [Fac.byt A l] [Fac.blk g 80 (netC t s (.slice Aq 0 cq) (.slice A1 n1 c1)), Fac.ownR 88 3 Aq 0 cq []] (w4.setCell ⟨g, 1, none⟩ (.int .i64 (s + 1))) [Fac.blk g 80 (netC t (s + 1) (qs y1 1) (.slice A1 n1 c1)), Fac.ownR 88 3 y1.1 1 y1.2 [pkR (t + D) s x1.1 x1.2.1 x1.2.2], F8 x1 (Ne.bend 2 N l), Fac.blk gf 29 #[.int .i64 2, .int .i64 D, .int .i64 N]]) := H4.out.setc 0 rfl 1 (.int .i64 (s + 1))
  clear G0 G1 G2 f0 f1 H1 H3
  go_wp2_with fail
  generalize w4.setCell ⟨g, 1, none⟩ (.int .i64 (s + 1)) = W5 at *
  clear k1 k2 H4
  have G0 : Hid (W5.drew.cell? ⟨g, 0, none⟩ = some (.int .i64 t) ∧ W5.drew.cell? ⟨g, 1, none⟩ = some (.int .i64 (s + 1)) ∧ W5.drew.cell? ⟨gf, 0, none⟩ = some (.int .i64 2) ∧ W5.drew.cell? ⟨gf, 1, none⟩ = some (.int .i64 D) ∧ W5.drew.cell? ⟨gf, 2, none⟩ = some (.int .i64 N)) := ⟨(H5.out.drew.get 0 rfl : Blk _ g 80 _).cell 0, (H5.out.drew.get 0 rfl : Blk _ g 80 _).cell 1, (H5.out.drew.get 3 rfl : Blk _ gf 29 _).cell 0, (H5.out.drew.get 3 rfl : Blk _ gf 29 _).cell 1, (H5.out.drew.get 3 rfl : Blk _ gf 29 _).cell 2⟩
  rw [rounds_succ]
  go_wp2_with fail
  go_region_held3 (fun w' => w'.cell? ⟨g, 0, none⟩ = some (.int .i64 t) ∧ w'.cell? ⟨g, 1, none⟩ = some (.int .i64 (s + 1)) ∧ w'.cell? ⟨gf, 0, none⟩ = some (.int .i64 2) ∧ w'.cell? ⟨gf, 1, none⟩ = some (.int .i64 D) ∧ w'.cell? ⟨gf, 2, none⟩ = some (.int .i64 N)) (first | with_reducible exact G0.out | with_reducible exact G1.out | with_reducible exact G2.out)
    ((first | (go_at_call 24; (with_reducible refine (HBE.out _ (H5.out.drew.pre [0] [] [] rfl rfl)).mono ?_); rintro e w6 ⟨x2, rfl, p3⟩; have H6 : Hid (St w [Fac.byt A l] [Fac.blk g 80 (netC t s (.slice Aq 0 cq) (.slice A1 n1 c1)), Fac.ownR 88 3 Aq 0 cq []] w6 (F8 x2 (Ne.bend 2 N l) :: [Fac.blk g 80 (netC t (s + 1) (qs y1 1) (.slice A1 n1 c1)), Fac.ownR 88 3 y1.1 1 y1.2 [pkR (t + D) s x1.1 x1.2.1 x1.2.2], F8 x1 (Ne.bend 2 N l), Fac.blk gf 29 #[.int .i64 2, .int .i64 D, .int .i64 N]])) := H5.out.drew.step [] p3; have G1 : Hid (w6.cell? ⟨g, 0, none⟩ = some (.int .i64 t) ∧ w6.cell? ⟨g, 1, none⟩ = some (.int .i64 (s + 1)) ∧ w6.cell? ⟨gf, 0, none⟩ = some (.int .i64 2) ∧ w6.cell? ⟨gf, 1, none⟩ = some (.int .i64 D) ∧ w6.cell? ⟨gf, 2, none⟩ = some (.int .i64 N)) := ⟨(H6.out.get 1 rfl : Blk _ g 80 _).cell 0, (H6.out.get 1 rfl : Blk _ g 80 _).cell 1, (H6.out.get 4 rfl : Blk _ gf 29 _).cell 0, (H6.out.get 4 rfl : Blk _ gf 29 _).cell 1, (H6.out.get 4 rfl : Blk _ gf 29 _).cell 2⟩; clear p3) | (go_at_call 23; (with_reducible refine (HPU2.out y1 x1 x2 _ (H6.out.pre [] [] [1, 2] rfl rfl)).mono ?_); rintro e w7 ⟨y2, rfl, p4⟩; have H7 : Hid (St w [Fac.byt A l] [Fac.blk g 80 (netC t s (.slice Aq 0 cq) (.slice A1 n1 c1)), Fac.ownR 88 3 Aq 0 cq []] w7 [Fac.blk g 80 (netC t (s + 1) (qs y2 2) (.slice A1 n1 c1)), Fac.ownR 88 3 y2.1 2 y2.2 [pkR (t + D) s x1.1 x1.2.1 x1.2.2, pkR (t + 2 * D) (s + 1) x2.1 x2.2.1 x2.2.2], F8 x2 (Ne.bend 2 N l), F8 x1 (Ne.bend 2 N l), Fac.blk gf 29 #[.int .i64 2, .int .i64 D, .int .i64 N]]) := H6.out.step [1, 2] p4; have G2 : Hid (w7.cell? ⟨g, 0, none⟩ = some (.int .i64 t) ∧ w7.cell? ⟨g, 1, none⟩ = some (.int .i64 (s + 1)) ∧ w7.cell? ⟨gf, 0, none⟩ = some (.int .i64 2) ∧ w7.cell? ⟨gf, 1, none⟩ = some (.int .i64 D) ∧ w7.cell? ⟨gf, 2, none⟩ = some (.int .i64 N)) := ⟨(H7.out.get 0 rfl : Blk _ g 80 _).cell 0, (H7.out.get 0 rfl : Blk _ g 80 _).cell 1, (H7.out.get 4 rfl : Blk _ gf 29 _).cell 0, (H7.out.get 4 rfl : Blk _ gf 29 _).cell 1, (H7.out.get 4 rfl : Blk _ gf 29 _).cell 2⟩; clear p4)))
  have k1 : w7.cell? ⟨g, 1, none⟩ = some (.int .i64 (s + 1)) := (H7.out.get 0 rfl : Blk _ g 80 _).cell 1
  have k2 := (H7.out.get 0 rfl : Blk _ g 80 _).frozen 1
  have H8 : Hid (St w [Fac.byt A l] [Fac.blk g 80 (netC t s (.slice Aq 0 cq) (.slice A1 n1 c1)), Fac.ownR 88 3 Aq 0 cq []] (w7.setCell ⟨g, 1, none⟩ (.int .i64 (s + 1 + 1))) [Fac.blk g 80 (netC t (s + 1 + 1) (qs y2 2) (.slice A1 n1 c1)), Fac.ownR 88 3 y2.1 2 y2.2 [pkR (t + D) s x1.1 x1.2.1 x1.2.2, pkR (t + 2 * D) (s + 1) x2.1 x2.2.1 x2.2.2], F8 x2 (Ne.bend 2 N l), F8 x1 (Ne.bend 2 N l), Fac.blk gf 29 #[.int .i64 2, .int .i64 D, .int .i64 N]]) := H7.out.setc 0 rfl 1 (.int .i64 (s + 1 + 1))
  clear G0 G1 G2
  go_wp2_with fail
  generalize w7.setCell ⟨g, 1, none⟩ (.int .i64 (s + 1 + 1)) = W8 at *
  rw [rounds_succ]
  go_wp2
  go_ret
  rw [show s + 1 + 1 = s + 2 by omega] at H8
  exact ⟨(y2, x1, x2), rfl, H8.out.post [0, 1, 2, 3] rfl⟩
set_option maxRecDepth 100000 in
set_option maxHeartbeats 8000000 in
theorem snd2_1 (g : Nat) (t s : Int) (Aq A1 : Option Addr) (cq n1 c1 : Nat) (A : Option Addr) (n c : Nat) (l : List UInt8) (D N : Int) (w : World) (hn1 : n1 ≤ 100) (ht : 0 ≤ t ∧ t ≤ 1000000) (hs : 0 ≤ s ∧ s ≤ 1000000) (hD : 0 ≤ D ∧ D ≤ 1000) (h0 : -9223372036854775808 ≤ N) (h1 : N ≤ 9223372036854775807) (hn : n = l.length) (hm : n ≤ 2000000)
    (h : Pre w [Fac.byt A l] [Fac.blk g 80 (netC t s (.slice A1 n1 c1) (.slice Aq 0 cq)), Fac.ownR 88 3 Aq 0 cq []]) :
    Calls Tryz.prog 8 #[.pointer (some ⟨g, 0, none⟩), .int .i64 1, .slice A n c, .agg #[.int .i64 2, .int .i64 D, .int .i64 N]] w (Ret (fun _ : (Option Addr × Nat) × (Option Addr × Nat × Nat) × (Option Addr × Nat × Nat) => .int .i64 0) [Fac.blk g 80 (netC t s (.slice A1 n1 c1) (.slice Aq 0 cq)), Fac.ownR 88 3 Aq 0 cq []]
      (fun x => [Fac.blk g 80 (netC t (s + 2) (.slice A1 n1 c1) (qs x.1 2)), Fac.ownR 88 3 x.1.1 2 x.1.2 [pkR (t + D) s x.2.1.1 x.2.1.2.1 x.2.1.2.2, pkR (t + 2 * D) (s + 1) x.2.2.1 x.2.2.2.1 x.2.2.2.2], F8 x.2.2 (Ne.bend 2 N l), F8 x.2.1 (Ne.bend 2 N l)]) w) := by
  obtain ⟨gf, hgf⟩ : ∃ x, w.heap.size = x := ⟨_, rfl⟩
  have H1 : Hid (St w [Fac.byt A l] [Fac.blk g 80 (netC t s (.slice A1 n1 c1) (.slice Aq 0 cq)), Fac.ownR 88 3 Aq 0 cq []] (w.alloc (.cells #[.int .i64 2, .int .i64 D, .int .i64 N] 29)) (Fac.blk gf 29 #[.int .i64 2, .int .i64 D, .int .i64 N] :: [Fac.blk g 80 (netC t s (.slice A1 n1 c1) (.slice Aq 0 cq)), Fac.ownR 88 3 Aq 0 cq []])) := h.start.alloc 29 #[.int .i64 2, .int .i64 D, .int .i64 N] hgf
  have HLN := hide (fun (w : World) (h : Blk w g 80 (netC t s (.slice A1 n1 c1) (.slice Aq 0 cq))) => netLen_calls g t s A1 Aq n1 c1 0 cq w h (by omega) (by omega))
  have HBE := hide (fun (w : World) (h : Pre w [Fac.byt A l] []) => bend_s A n c l 2 D N w hn hm h0 h1 h)
  have HPU := hide (fun (x : Option Addr × Nat × Nat) (w : World) => push0_s g 3 cq 80 (netC t s (.slice A1 n1 c1) (.slice Aq 0 cq)) Aq (t + D) s x.1 x.2.1 x.2.2 w rfl (by decide))
  have HPU2 := hide (fun (y : Option Addr × Nat) (x1 x2 : Option Addr × Nat × Nat) (w : World) => push1_s g 3 y.2 80 (netC t (s + 1) (.slice A1 n1 c1) (qs y 1)) y.1 (t + D) s (t + 2 * D) (s + 1) x1.1 x2.1 x1.2.1 x1.2.2 x2.2.1 x2.2.2 w rfl (by decide) (by omega) (by omega))
  obtain ⟨ht0, ht1⟩ := ht
  obtain ⟨hs0, hs1⟩ := hs
  obtain ⟨hD0, hD1⟩ := hD
  have d0 : decide (D < 0) = false := by simp; omega
  have d1 : decide (1000 < D) = false := by simp; omega
  have f0 : (w.alloc (.cells #[.int .i64 2, .int .i64 D, .int .i64 N] 29)).cell? ⟨gf, 0, none⟩ = some (.int .i64 2) := (H1.out.get 0 rfl : Blk _ gf 29 _).cell 0
  have f1 : (w.alloc (.cells #[.int .i64 2, .int .i64 D, .int .i64 N] 29)).cell? ⟨gf, 1, none⟩ = some (.int .i64 D) := (H1.out.get 0 rfl : Blk _ gf 29 _).cell 1
  have HGF := hide hgf
  have x0 : IntKind.i64.wrap 1 = 1 := rfl
  have x3 : IntKind.i64.wrap D = D := by rw [IntKind.wrap_i64]; omega
  have x1' : IntKind.i64.wrap (t + D) = t + D := by rw [IntKind.wrap_i64]; omega
  have x4 : IntKind.i64.wrap 2 = 2 := rfl
  have x5 : IntKind.i64.wrap (2 * D) = 2 * D := by rw [IntKind.wrap_i64]; omega
  have x6 : IntKind.i64.wrap (t + 2 * D) = t + 2 * D := by rw [IntKind.wrap_i64]; omega
  have x7 : IntKind.i64.wrap (s + 1) = s + 1 := by rw [IntKind.wrap_i64]; omega
  have x8 : IntKind.i64.wrap (s + 1 + 1) = s + 1 + 1 := by rw [IntKind.wrap_i64]; omega
  clear h hn hm h0 h1
  go_enter Tryz.func8, Tryz.ntmps8
  go_wp2_with fail
  generalize w.alloc (.cells #[.int .i64 2, .int .i64 D, .int .i64 N] 29) = W1 at *
  refine (HLN.out _ (H1.out.get 1 rfl)).mono ?_
  rintro en w2 ⟨rfl, rfl⟩
  have j1 : ¬ (200 : Int) < ((n1 : Int) + 0) + 2 := by omega
  have G0 : Hid (W1.drew.cell? ⟨g, 0, none⟩ = some (.int .i64 t) ∧ W1.drew.cell? ⟨g, 1, none⟩ = some (.int .i64 s) ∧ W1.drew.cell? ⟨gf, 0, none⟩ = some (.int .i64 2) ∧ W1.drew.cell? ⟨gf, 1, none⟩ = some (.int .i64 D) ∧ W1.drew.cell? ⟨gf, 2, none⟩ = some (.int .i64 N)) := ⟨(H1.out.drew.get 1 rfl : Blk _ g 80 _).cell 0, (H1.out.drew.get 1 rfl : Blk _ g 80 _).cell 1, (H1.out.drew.get 0 rfl : Blk _ gf 29 _).cell 0, (H1.out.drew.get 0 rfl : Blk _ gf 29 _).cell 1, (H1.out.drew.get 0 rfl : Blk _ gf 29 _).cell 2⟩
  go_wp2_with fail
  refine wp_loop_rounds 3 ?_
  rw [rounds_succ]
  go_wp2_with fail
  go_region_held3 (fun w' => w'.cell? ⟨g, 0, none⟩ = some (.int .i64 t) ∧ w'.cell? ⟨g, 1, none⟩ = some (.int .i64 s) ∧ w'.cell? ⟨gf, 0, none⟩ = some (.int .i64 2) ∧ w'.cell? ⟨gf, 1, none⟩ = some (.int .i64 D) ∧ w'.cell? ⟨gf, 2, none⟩ = some (.int .i64 N)) (first | with_reducible exact G0.out | with_reducible exact G1.out | with_reducible exact G2.out)
    ((first | (go_at_call 24; (with_reducible refine (HBE.out _ (H1.out.drew.pre [0] [] [] rfl rfl)).mono ?_); rintro e w3 ⟨x1, rfl, p3⟩; have H3 : Hid (St w [Fac.byt A l] [Fac.blk g 80 (netC t s (.slice A1 n1 c1) (.slice Aq 0 cq)), Fac.ownR 88 3 Aq 0 cq []] w3 (F8 x1 (Ne.bend 2 N l) :: (Fac.blk gf 29 #[.int .i64 2, .int .i64 D, .int .i64 N] :: [Fac.blk g 80 (netC t s (.slice A1 n1 c1) (.slice Aq 0 cq)), Fac.ownR 88 3 Aq 0 cq []]))) := H1.out.drew.step [] p3; have G1 : Hid (w3.cell? ⟨g, 0, none⟩ = some (.int .i64 t) ∧ w3.cell? ⟨g, 1, none⟩ = some (.int .i64 s) ∧ w3.cell? ⟨gf, 0, none⟩ = some (.int .i64 2) ∧ w3.cell? ⟨gf, 1, none⟩ = some (.int .i64 D) ∧ w3.cell? ⟨gf, 2, none⟩ = some (.int .i64 N)) := ⟨(H3.out.get 2 rfl : Blk _ g 80 _).cell 0, (H3.out.get 2 rfl : Blk _ g 80 _).cell 1, (H3.out.get 1 rfl : Blk _ gf 29 _).cell 0, (H3.out.get 1 rfl : Blk _ gf 29 _).cell 1, (H3.out.get 1 rfl : Blk _ gf 29 _).cell 2⟩; clear p3) | (go_at_call 23; (with_reducible refine (HPU.out x1 _ (H3.out.pre [] [] [2, 3] rfl rfl)).mono ?_); rintro e w4 ⟨y1, rfl, p4⟩; have H4 : Hid (St w [Fac.byt A l] [Fac.blk g 80 (netC t s (.slice A1 n1 c1) (.slice Aq 0 cq)), Fac.ownR 88 3 Aq 0 cq []] w4 [Fac.blk g 80 (netC t s (.slice A1 n1 c1) (qs y1 1)), Fac.ownR 88 3 y1.1 1 y1.2 [pkR (t + D) s x1.1 x1.2.1 x1.2.2], F8 x1 (Ne.bend 2 N l), Fac.blk gf 29 #[.int .i64 2, .int .i64 D, .int .i64 N]]) := H3.out.step [2, 3] p4; have G2 : Hid (w4.cell? ⟨g, 0, none⟩ = some (.int .i64 t) ∧ w4.cell? ⟨g, 1, none⟩ = some (.int .i64 s) ∧ w4.cell? ⟨gf, 0, none⟩ = some (.int .i64 2) ∧ w4.cell? ⟨gf, 1, none⟩ = some (.int .i64 D) ∧ w4.cell? ⟨gf, 2, none⟩ = some (.int .i64 N)) := ⟨(H4.out.get 0 rfl : Blk _ g 80 _).cell 0, (H4.out.get 0 rfl : Blk _ g 80 _).cell 1, (H4.out.get 3 rfl : Blk _ gf 29 _).cell 0, (H4.out.get 3 rfl : Blk _ gf 29 _).cell 1, (H4.out.get 3 rfl : Blk _ gf 29 _).cell 2⟩; clear p4)))
  have k1 : w4.cell? ⟨g, 1, none⟩ = some (.int .i64 s) := (H4.out.get 0 rfl : Blk _ g 80 _).cell 1
  have k2 := (H4.out.get 0 rfl : Blk _ g 80 _).frozen 1
  have H5 : Hid (St w [Fac.byt A l] [Fac.blk g 80 (netC t s (.slice A1 n1 c1) (.slice Aq 0 cq)), Fac.ownR 88 3 Aq 0 cq []] (w4.setCell ⟨g, 1, none⟩ (.int .i64 (s + 1))) [Fac.blk g 80 (netC t (s + 1) (.slice A1 n1 c1) (qs y1 1)), Fac.ownR 88 3 y1.1 1 y1.2 [pkR (t + D) s x1.1 x1.2.1 x1.2.2], F8 x1 (Ne.bend 2 N l), Fac.blk gf 29 #[.int .i64 2, .int .i64 D, .int .i64 N]]) := H4.out.setc 0 rfl 1 (.int .i64 (s + 1))
  clear G0 G1 G2 f0 f1 H1 H3
  go_wp2_with fail
  generalize w4.setCell ⟨g, 1, none⟩ (.int .i64 (s + 1)) = W5 at *
  clear k1 k2 H4
  have G0 : Hid (W5.drew.cell? ⟨g, 0, none⟩ = some (.int .i64 t) ∧ W5.drew.cell? ⟨g, 1, none⟩ = some (.int .i64 (s + 1)) ∧ W5.drew.cell? ⟨gf, 0, none⟩ = some (.int .i64 2) ∧ W5.drew.cell? ⟨gf, 1, none⟩ = some (.int .i64 D) ∧ W5.drew.cell? ⟨gf, 2, none⟩ = some (.int .i64 N)) := ⟨(H5.out.drew.get 0 rfl : Blk _ g 80 _).cell 0, (H5.out.drew.get 0 rfl : Blk _ g 80 _).cell 1, (H5.out.drew.get 3 rfl : Blk _ gf 29 _).cell 0, (H5.out.drew.get 3 rfl : Blk _ gf 29 _).cell 1, (H5.out.drew.get 3 rfl : Blk _ gf 29 _).cell 2⟩
  rw [rounds_succ]
  go_wp2_with fail
  go_region_held3 (fun w' => w'.cell? ⟨g, 0, none⟩ = some (.int .i64 t) ∧ w'.cell? ⟨g, 1, none⟩ = some (.int .i64 (s + 1)) ∧ w'.cell? ⟨gf, 0, none⟩ = some (.int .i64 2) ∧ w'.cell? ⟨gf, 1, none⟩ = some (.int .i64 D) ∧ w'.cell? ⟨gf, 2, none⟩ = some (.int .i64 N)) (first | with_reducible exact G0.out | with_reducible exact G1.out | with_reducible exact G2.out)
    ((first | (go_at_call 24; (with_reducible refine (HBE.out _ (H5.out.drew.pre [0] [] [] rfl rfl)).mono ?_); rintro e w6 ⟨x2, rfl, p3⟩; have H6 : Hid (St w [Fac.byt A l] [Fac.blk g 80 (netC t s (.slice A1 n1 c1) (.slice Aq 0 cq)), Fac.ownR 88 3 Aq 0 cq []] w6 (F8 x2 (Ne.bend 2 N l) :: [Fac.blk g 80 (netC t (s + 1) (.slice A1 n1 c1) (qs y1 1)), Fac.ownR 88 3 y1.1 1 y1.2 [pkR (t + D) s x1.1 x1.2.1 x1.2.2], F8 x1 (Ne.bend 2 N l), Fac.blk gf 29 #[.int .i64 2, .int .i64 D, .int .i64 N]])) := H5.out.drew.step [] p3; have G1 : Hid (w6.cell? ⟨g, 0, none⟩ = some (.int .i64 t) ∧ w6.cell? ⟨g, 1, none⟩ = some (.int .i64 (s + 1)) ∧ w6.cell? ⟨gf, 0, none⟩ = some (.int .i64 2) ∧ w6.cell? ⟨gf, 1, none⟩ = some (.int .i64 D) ∧ w6.cell? ⟨gf, 2, none⟩ = some (.int .i64 N)) := ⟨(H6.out.get 1 rfl : Blk _ g 80 _).cell 0, (H6.out.get 1 rfl : Blk _ g 80 _).cell 1, (H6.out.get 4 rfl : Blk _ gf 29 _).cell 0, (H6.out.get 4 rfl : Blk _ gf 29 _).cell 1, (H6.out.get 4 rfl : Blk _ gf 29 _).cell 2⟩; clear p3) | (go_at_call 23; (with_reducible refine (HPU2.out y1 x1 x2 _ (H6.out.pre [] [] [1, 2] rfl rfl)).mono ?_); rintro e w7 ⟨y2, rfl, p4⟩; have H7 : Hid (St w [Fac.byt A l] [Fac.blk g 80 (netC t s (.slice A1 n1 c1) (.slice Aq 0 cq)), Fac.ownR 88 3 Aq 0 cq []] w7 [Fac.blk g 80 (netC t (s + 1) (.slice A1 n1 c1) (qs y2 2)), Fac.ownR 88 3 y2.1 2 y2.2 [pkR (t + D) s x1.1 x1.2.1 x1.2.2, pkR (t + 2 * D) (s + 1) x2.1 x2.2.1 x2.2.2], F8 x2 (Ne.bend 2 N l), F8 x1 (Ne.bend 2 N l), Fac.blk gf 29 #[.int .i64 2, .int .i64 D, .int .i64 N]]) := H6.out.step [1, 2] p4; have G2 : Hid (w7.cell? ⟨g, 0, none⟩ = some (.int .i64 t) ∧ w7.cell? ⟨g, 1, none⟩ = some (.int .i64 (s + 1)) ∧ w7.cell? ⟨gf, 0, none⟩ = some (.int .i64 2) ∧ w7.cell? ⟨gf, 1, none⟩ = some (.int .i64 D) ∧ w7.cell? ⟨gf, 2, none⟩ = some (.int .i64 N)) := ⟨(H7.out.get 0 rfl : Blk _ g 80 _).cell 0, (H7.out.get 0 rfl : Blk _ g 80 _).cell 1, (H7.out.get 4 rfl : Blk _ gf 29 _).cell 0, (H7.out.get 4 rfl : Blk _ gf 29 _).cell 1, (H7.out.get 4 rfl : Blk _ gf 29 _).cell 2⟩; clear p4)))
  have k1 : w7.cell? ⟨g, 1, none⟩ = some (.int .i64 (s + 1)) := (H7.out.get 0 rfl : Blk _ g 80 _).cell 1
  have k2 := (H7.out.get 0 rfl : Blk _ g 80 _).frozen 1
  have H8 : Hid (St w [Fac.byt A l] [Fac.blk g 80 (netC t s (.slice A1 n1 c1) (.slice Aq 0 cq)), Fac.ownR 88 3 Aq 0 cq []] (w7.setCell ⟨g, 1, none⟩ (.int .i64 (s + 1 + 1))) [Fac.blk g 80 (netC t (s + 1 + 1) (.slice A1 n1 c1) (qs y2 2)), Fac.ownR 88 3 y2.1 2 y2.2 [pkR (t + D) s x1.1 x1.2.1 x1.2.2, pkR (t + 2 * D) (s + 1) x2.1 x2.2.1 x2.2.2], F8 x2 (Ne.bend 2 N l), F8 x1 (Ne.bend 2 N l), Fac.blk gf 29 #[.int .i64 2, .int .i64 D, .int .i64 N]]) := H7.out.setc 0 rfl 1 (.int .i64 (s + 1 + 1))
  clear G0 G1 G2
  go_wp2_with fail
  generalize w7.setCell ⟨g, 1, none⟩ (.int .i64 (s + 1 + 1)) = W8 at *
  rw [rounds_succ]
  go_wp2
  go_ret
  rw [show s + 1 + 1 = s + 2 by omega] at H8
  exact ⟨(y2, x1, x2), rfl, H8.out.post [0, 1, 2, 3] rfl⟩
end Go.Proofs.YtbfhpgpceakeiaaGreatDoor.Tw
namespace Go.Proofs.YtbfhpgpceakeiaaGreatDoor.Tw
open Go.RowKit Kin Go.Proofs.YtbfhpgpceakeiaaGreatDoor

def badF (K D : Int) : Prop := K < 0 ∨ 5 ≤ K ∨ D < 0 ∨ 1000 < D
set_option maxRecDepth 100000 in
set_option maxHeartbeats 4000000 in
theorem send_bad (g : Nat) (side : Int) (b : Value) (K D N : Int) (w : World) (hs0 : 0 ≤ side) (hs1 : side < 2) (hb : badF K D) :
    Calls Tryz.prog 8 #[.pointer (some ⟨g, 0, none⟩), .int .i64 side, b, .agg #[.int .i64 K, .int .i64 D, .int .i64 N]] w fun e w' => e = .returned (.int .i64 1) ∧ Below w.heap.size w w' := by
  have e1 := (Below.refl w.heap.size w).alloc (Nat.le_refl _) (.cells #[.int .i64 K, .int .i64 D, .int .i64 N] 29)
  have b1 := Blk.new w 29 #[.int .i64 K, .int .i64 D, .int .i64 N]
  obtain ⟨gf, hgf⟩ : ∃ x, w.heap.size = x := ⟨_, rfl⟩
  rw [hgf] at b1
  have E1 := hide e1
  have HGF := hide hgf
  have f0 : (w.alloc (.cells #[.int .i64 K, .int .i64 D, .int .i64 N] 29)).cell? ⟨gf, 0, none⟩ = some (.int .i64 K) := b1.cell 0
  have f1 : (w.alloc (.cells #[.int .i64 K, .int .i64 D, .int .i64 N] 29)).cell? ⟨gf, 1, none⟩ = some (.int .i64 D) := b1.cell 1
  have s0 : decide (side < 0) = false := by simpa using hs0
  have s1 : decide (2 ≤ side) = false := by simpa using hs1
  clear e1 b1 hs0 hs1
  by_cases k0 : K < 0
  · have k0 : decide (K < 0) = true := by simpa using k0
    clear hb
    go_enter Tryz.func8, Tryz.ntmps8
    go_wp2
    go_ret
    first | exact ⟨rfl, E1.out⟩ | exact ⟨rfl, by rw [← HGF.out]; exact E1.out⟩
  by_cases k5 : 5 ≤ K
  · have k0 : decide (K < 0) = false := by simpa using k0
    have k5 : decide (5 ≤ K) = true := by simpa using k5
    clear hb
    go_enter Tryz.func8, Tryz.ntmps8
    go_wp2
    go_ret
    first | exact ⟨rfl, E1.out⟩ | exact ⟨rfl, by rw [← HGF.out]; exact E1.out⟩
  by_cases d0 : D < 0
  · have k0 : decide (K < 0) = false := by simpa using k0
    have k5 : decide (5 ≤ K) = false := by simpa using k5
    have d0 : decide (D < 0) = true := by simpa using d0
    clear hb
    go_enter Tryz.func8, Tryz.ntmps8
    go_wp2
    go_ret
    first | exact ⟨rfl, E1.out⟩ | exact ⟨rfl, by rw [← HGF.out]; exact E1.out⟩
  · have d1 : decide (1000 < D) = true := by
      rcases hb with h | h | h | h
      · exact absurd h k0
      · exact absurd h k5
      · exact absurd h d0
      · simpa using h
    have k0 : decide (K < 0) = false := by simpa using k0
    have k5 : decide (5 ≤ K) = false := by simpa using k5
    have d0 : decide (D < 0) = false := by simpa using d0
    clear hb
    go_enter Tryz.func8, Tryz.ntmps8
    go_wp2
    go_ret
    first | exact ⟨rfl, E1.out⟩ | exact ⟨rfl, by rw [← HGF.out]; exact E1.out⟩
set_option maxRecDepth 100000 in
set_option maxHeartbeats 4000000 in
theorem send_lost (g : Nat) (side : Int) (b : Value) (t s : Int) (A0 A1 : Option Addr) (n0 c0 n1 c1 : Nat) (D N : Int) (w : World) (hs0 : 0 ≤ side) (hs1 : side < 2) (h : Blk w g 80 (netC t s (.slice A0 n0 c0) (.slice A1 n1 c1))) (hn0 : n0 ≤ 100) (hn1 : n1 ≤ 100) (hD : 0 ≤ D ∧ D ≤ 1000) :
    Calls Tryz.prog 8 #[.pointer (some ⟨g, 0, none⟩), .int .i64 side, b, .agg #[.int .i64 1, .int .i64 D, .int .i64 N]] w fun e w' => e = .returned (.int .i64 0) ∧ Below w.heap.size w w' := by
  have e1 := (Below.refl w.heap.size w).alloc (Nat.le_refl _) (.cells #[.int .i64 1, .int .i64 D, .int .i64 N] 29)
  have b1 := Blk.new w 29 #[.int .i64 1, .int .i64 D, .int .i64 N]
  obtain ⟨gf, hgf⟩ : ∃ x, w.heap.size = x := ⟨_, rfl⟩
  rw [hgf] at b1
  have HLN := hide (netLen_calls g t s A0 A1 n0 c0 n1 c1 _ (h.alloc (.cells #[.int .i64 1, .int .i64 D, .int .i64 N] 29)) (by omega) (by omega))
  have E1 := hide e1
  have HGF := hide hgf
  have f0 : (w.alloc (.cells #[.int .i64 1, .int .i64 D, .int .i64 N] 29)).cell? ⟨gf, 0, none⟩ = some (.int .i64 1) := b1.cell 0
  have f1 : (w.alloc (.cells #[.int .i64 1, .int .i64 D, .int .i64 N] 29)).cell? ⟨gf, 1, none⟩ = some (.int .i64 D) := b1.cell 1
  have s0 : decide (side < 0) = false := by simpa using hs0
  have s1 : decide (2 ≤ side) = false := by simpa using hs1
  obtain ⟨hD0, hD1⟩ := hD
  have d0 : decide (D < 0) = false := by simp; omega
  have d1 : decide (1000 < D) = false := by simp; omega
  have j1 : ¬ (200 : Int) < ((n0 : Int) + (n1 : Int)) := by omega
  clear e1 b1 hs0 hs1 h
  go_enter Tryz.func8, Tryz.ntmps8
  go_wp2_with fail
  refine HLN.out.mono ?_
  rintro en w2 ⟨rfl, rfl⟩
  go_wp2_with fail
  refine wp_loop_rounds 1 ?_
  rw [rounds_succ]
  go_wp2
  go_ret
  first | exact ⟨rfl, E1.out⟩ | exact ⟨rfl, by rw [← HGF.out]; exact E1.out⟩
end Go.Proofs.YtbfhpgpceakeiaaGreatDoor.Tw
