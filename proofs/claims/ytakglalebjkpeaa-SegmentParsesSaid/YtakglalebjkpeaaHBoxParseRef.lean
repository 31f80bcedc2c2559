/- The document's boxes of a file, by its contract. Conditions: the slice reads as bytes; at most 2^40 bytes. -/
import Derived.Test.YtakglalebjkpeaaHBoxParse
namespace Go.Proofs.Ytakglalebjkpeaa.C16
open Go.RowKit Kin

/-- between two rounds -/
structure RSt (w : World) (pre : List Bx.Cel) (A : Option Addr) (n c : Nat) (W : World) : Prop where
  own : Bx.OwnB W 53 5 A n c pre
  ge : ∀ k, blkOf A = some k → w.heap.size ≤ k
  bel : Below w.heap.size w W
theorem RSt.next {w W W' : World} {pre : List Bx.Cel} {A : Option Addr} {n c : Nat} (h : RSt w pre A n c W) (hb : Below W.heap.size W W') : RSt w pre A n c W' := ⟨h.own.next hb, h.ge, bnext h.bel hb⟩
theorem RSt.app {w W w2 : World} {pre : List Bx.Cel} {x : Bx.Cel} {A1 A2 : Option Addr} {n1 c1 c2 : Nat} {O : Obj} (h : RSt w pre A1 n1 c1 W) (hok : x.own W 5)
    (own2 : OwnR w2 53 2 A2 (n1 + 1) c2 (pre.map Bx.Cel.row ++ [x.row])) (grow2 : (W.alloc O).grownBy w2 (blkOf A1)) (at2 : blkOf A2 = blkOf A1 ∨ blkOf A2 = some (W.alloc O).heap.size) : RSt w (pre ++ [x]) A2 (n1 + 1) c2 w2 := by
  obtain ⟨v2, v3, bel⟩ := h
  have ow1 := v2.1.alloc O
  have belA := bel.alloc bel.size O
  have ok8 : ∀ y : Bx.Cel, y.own W 5 → y.own w2 5 := fun y hy => by
    have hy1 : Own8 (W.alloc O) 5 y.A y.n y.c y.d := Own8.alloc hy O
    refine hy1.kept grow2 ?_
    rcases e : blkOf y.A with _ | g
    · exact .inl rfl
    · refine .inr fun e2 => ?_
      exact ow1.ne_own hy1 (by decide) g e2.symm e
  refine ⟨⟨by rw [List.map_append]; exact own2, fun y hy => ?_⟩, ?_, belA.grown grow2 belA.size v3⟩
  · rcases List.mem_append.1 hy with h | h
    · exact ok8 y (v2.2 y h)
    · rw [List.mem_singleton.1 h]; exact ok8 x hok
  · intro k hk
    rcases at2 with e | e
    · exact v3 k (by rw [← e]; exact hk)
    · rw [hk] at e; injection e with e; rw [e]; exact belA.size

theorem box_app {W V V' : World} {g : Nat} {A' : Option Addr} (hb : Below W.heap.size W V) (grow : V.grownBy V' (blkOf (some ⟨g, 0, none⟩))) (at1 : blkOf A' = blkOf (some ⟨g, 0, none⟩) ∨ blkOf A' = some V.heap.size) (hg : W.heap.size ≤ g) :
    Below W.heap.size W V' ∧ (∀ k, blkOf A' = some k → W.heap.size ≤ k) := by
  refine ⟨hb.grown grow hb.size (fun k hk => by simp [blkOf] at hk; omega), fun k hk => ?_⟩
  rcases at1 with e | e
  · rw [hk] at e; simp [blkOf] at e; omega
  · rw [hk] at e; injection e with e; rw [e]; exact hb.size

set_option maxRecDepth 100000 in
set_option maxHeartbeats 4000000 in
theorem refparse_calls (A : Option Addr) (n c : Nat) (m : List UInt8) (w : World) (hn : n = m.length) (hc : n ≤ c) (hm : n ≤ 1099511627776) (hA : Byt w w.heap.size A m) :
    Calls Try.prog 46 #[.slice A n c] w (RetParse w m) := by
  have HN := hide hn
  have HM := hide (show m.length ≤ 1099511627776 by rw [← hn]; exact hm)
  clear hn
  go_enter Try.func46, Try.ntmps46
  go_wp2
  go_loopw [0, 4] (fun bv ov wr => ∃ (pre : List Bx.Cel) (rest : List UInt8) (A1 A2 : Option Addr) (n1 c1 n2 c2 : Nat), bv = .slice A2 n2 c2 ∧ ov = .slice A1 n1 c1 ∧ Hid (n2 = rest.length) ∧ n2 ≤ c2 ∧ n2 ≤ 1099511627776 ∧ Hid (Byt w w.heap.size A2 rest) ∧ RSt w pre A1 n1 c1 wr ∧ Hid (Bx.boxes m = Bx.boxs pre ++ Bx.boxes rest) ∧ Hid (Bx.even m = Bx.even rest)) (fun bv _ _ => match bv with | .slice _ n _ => n | _ => 0)
  case atStart => exact ⟨[], m, none, A, 0, 0, n, c, rfl, rfl, HN, hc, hm, hA, ⟨Bx.OwnB.nil _ _ _, by simp [blkOf], Below.refl _ _⟩, rfl, rfl⟩
  case round =>
    obtain ⟨pre, rest, A1, A2, n1, c1, n2, c2, rfl, rfl, HL, hc2, hm2, hB, hP, hbx, hev⟩ := hrel
    have HPL : Hid (n1 ≤ 1099511627776) := by
      have h1 := congrArg List.length hbx.out
      rw [List.length_append, Bx.length_boxs] at h1
      have h2 := Bx.length_boxes m
      have h3 := HM.out
      have h4 := hP.own.len
      show _ ≤ _
      omega
    clear hA
    by_cases hz : n2 = 0
    · have hr0 : rest = [] := List.eq_nil_of_length_eq_zero (by rw [← HL.out]; exact hz)
      subst hz
      have HE : Hid (Bx.even m = true) := hev.out.trans (by rw [hr0]; rfl)
      have HX : Hid (Bx.boxs pre = Bx.boxes m) := by rw [hbx.out, hr0]; simp [Bx.boxes_no, Bx.firstN_small, Hid]
      go_wp2
      go_ret2
      exact .inl ⟨HE.out, A1, n1, c1, pre, rfl, hP.own, HX.out, hP.ge, hP.bel⟩
    · by_cases h8 : n2 < 8
      · have HE : Hid (Bx.even m = false) := hev.out.trans (Bx.even_no (by rw [← HL.out]; omega) (Bx.firstN_small (by rw [← HL.out]; exact h8)))
        go_wp2
        go_ret2
        exact .inr ⟨HE.out, rfl, hP.bel⟩
      · have hs0 : ∀ w', Sem.run Try.prog (Instr.sliceAt 31 (.slice A2 n2 c2) none (some (.int .i64 4)) none) w' = .ok (.slice A2 4 c2) w' := fun w' => run_cut8h bytesT A2 n2 c2 .i64 4 4 rfl (by omega) w'
        have hof := of_calls A2 c2 rest wr (by rw [← HL.out]; omega) (hB.out.below hP.bel)
        go_wp2_with fail
        refine hof.mono ?_
        rintro e W ⟨rfl, b2⟩
        have hP2 := hP.next b2
        clear hP hs0 hof b2
        have HO : Hid (Bx.of4 rest = Bx.of4 rest) := rfl
        obtain ⟨v, hv⟩ : ∃ v, Bx.of4 rest = v := ⟨_, rfl⟩
        replace HO : Hid (Bx.of4 rest = v) := hv
        rw [hv]
        clear hv
        by_cases hv : v < 8 ∨ n2 < v
        · have HF : Hid (Bx.firstN rest = 0) := by
            unfold Bx.firstN
            rw [if_neg (by rw [← HL.out]; exact h8), HO.out, if_pos (by rw [← HL.out]; exact hv)]
            exact rfl
          have HE : Hid (Bx.even m = false) := hev.out.trans (Bx.even_no (by rw [← HL.out]; omega) HF.out)
          have hvd : ((v : Int) < 8) ∨ (n2 : Int) < (v : Int) := by omega
          have hvd2 : ((v : Int) < 8) ∨ n2 < v := by omega
          go_wp2
          all_goals
            go_ret2
            exact .inr ⟨HE.out, rfl, hP2.bel⟩
        · have hv1 : (8 : Int) ≤ (v : Int) := by omega
          have hv2 : (v : Int) ≤ (n2 : Int) := by omega
          have hv3 : 8 ≤ v := by omega
          have hv4 : v ≤ n2 := by omega
          have hs1 : ∀ w', Sem.run Try.prog (Instr.sliceAt 31 (.slice A2 n2 c2) (some (.int .i64 4)) (some (.int .i64 8)) none) w' = .ok (.slice (cutA A2 c2 4) 4 (c2 - 4)) w' := fun w' => run_cut8 bytesT _ n2 c2 .i64 .i64 4 8 4 8 rfl rfl (by omega) (by omega) w'
          have hs2 : ∀ w', Sem.run Try.prog (Instr.sliceAt 31 (.slice A2 n2 c2) (some (.int .i64 8)) (some (.int .i64 (v : Int))) none) w' = .ok (.slice (cutA A2 c2 8) (v - 8) (c2 - 8)) w' := fun w' => run_cut8 bytesT _ n2 c2 .i64 .i64 8 v 8 (v : Int) rfl rfl (by omega) (by omega) w'
          have hs3 : ∀ w', Sem.run Try.prog (Instr.sliceAt 31 (.slice A2 n2 c2) (some (.int .i64 (v : Int))) none none) w' = .ok (.slice (cutA A2 c2 v) (n2 - v) (c2 - v)) w' := fun w' => run_cut8l bytesT A2 n2 c2 .i64 v _ rfl hv4 w'
          have HcT : Hid (∀ w', Below w.heap.size w w' → Byt w' w.heap.size (cutA A2 c2 4) ((rest.drop 4).take 4)) := fun w' h => (((hB.out.below h).cut 4 (by rw [← HL.out]; exact hc2)).take 4)
          have HcD : Hid (∀ w', Below w.heap.size w w' → Byt w' w.heap.size (cutA A2 c2 8) (Bx.firstD rest)) := fun w' h => by
            unfold Bx.firstD; rw [HO.out]
            exact (((hB.out.below h).cut 8 (by rw [← HL.out]; exact hc2)).take (v - 8))
          have HcR : Hid (Byt w w.heap.size (cutA A2 c2 v) (rest.drop v)) := hB.out.cut v (by rw [← HL.out]; exact hc2)
          have HLD : Hid (v - 8 = (Bx.firstD rest).length) := by
            have := HL.out
            show _ = _
            unfold Bx.firstD
            rw [HO.out, List.length_take, List.length_drop]; omega
          have cv : ∀ w', Below w.heap.size w w' → Sem.run Try.prog (convert 31 9 (.slice (cutA A2 c2 4) 4 (c2 - 4))) w' = .ok (.string (Bx.firstT rest)) w' := fun w' h => run_conv8 bytesT Try.underlying9 _ 4 (c2 - 4) _ (HcT.out w' h) (by have := HL.out; rw [List.length_take, List.length_drop]; omega)
          generalize cutA A2 c2 4 = A4 at *
          generalize cutA A2 c2 8 = A8 at *
          generalize cutA A2 c2 v = AR at *
          obtain ⟨T, hT⟩ : ∃ T, Bx.firstT rest = T := ⟨_, rfl⟩
          have HTT := hide hT
          rw [hT] at cv
          clear hT HcT h8
          obtain ⟨hown, hge, bel⟩ := hP2
          have hP3 : RSt w pre A1 n1 c1 W := ⟨hown, hge, bel⟩
          have d0 : Below w.heap.size w W.drew := bel.drew
          have dE : Below w.heap.size w (W.alloc (.cells #[] 5)).drew := (bel.alloc bel.size _).drew
          have dZ : Below w.heap.size w (W.alloc (.cells #[.string ⟨#[]⟩, .slice none 0 0] 53)).drew := (bel.alloc bel.size _).drew
          have dEZ : Below w.heap.size w ((W.alloc (.cells #[] 5)).alloc (.cells #[.string ⟨#[]⟩, .slice none 0 0] 53)).drew := ((bel.alloc bel.size _).alloc (by have := bel.size; simp; omega) _).drew
          have dZE : Below w.heap.size w ((W.alloc (.cells #[.string ⟨#[]⟩, .slice none 0 0] 53)).alloc (.cells #[] 5)).drew := ((bel.alloc bel.size _).alloc (by have := bel.size; simp; omega) _).drew
          have oE : Own8 (W.alloc (.cells #[] 5)).drew 5 (some ⟨W.heap.size, 0, none⟩) 0 0 [] := Own8.new W #[] 5 0 [] rfl rfl (by decide)
          have oEZ : Own8 ((W.alloc (.cells #[] 5)).alloc (.cells #[.string ⟨#[]⟩, .slice none 0 0] 53)).drew 5 (some ⟨W.heap.size, 0, none⟩) 0 0 [] := (Own8.new W #[] 5 0 [] rfl rfl (by decide)).alloc _
          have oZE : Own8 ((W.alloc (.cells #[.string ⟨#[]⟩, .slice none 0 0] 53)).alloc (.cells #[] 5)).drew 5 (some ⟨W.heap.size + 1, 0, none⟩) 0 0 [] := Own8.newAt (W.alloc (.cells #[.string ⟨#[]⟩, .slice none 0 0] 53)) #[] 5 0 [] (W.heap.size + 1) (by simp) rfl rfl (by decide)
          have yEZ : Blk ((W.alloc (.cells #[] 5)).alloc (.cells #[.string ⟨#[]⟩, .slice none 0 0] 53)).drew (W.heap.size + 1) 53 #[.string ⟨#[]⟩, .slice none 0 0] := by
            have := Blk.new (W.alloc (.cells #[] 5)) 53 #[.string ⟨#[]⟩, .slice none 0 0]
            rwa [World.size_alloc] at this
          have yZE : Blk ((W.alloc (.cells #[.string ⟨#[]⟩, .slice none 0 0] 53)).alloc (.cells #[] 5)).drew W.heap.size 53 #[.string ⟨#[]⟩, .slice none 0 0] := (Blk.new W 53 #[.string ⟨#[]⟩, .slice none 0 0]).alloc _
          have bE : Below W.heap.size W (W.alloc (.cells #[] 5)).drew := ((Below.refl _ _).alloc (Nat.le_refl _) _).drew
          have bEZ : Below W.heap.size W ((W.alloc (.cells #[] 5)).alloc (.cells #[.string ⟨#[]⟩, .slice none 0 0] 53)).drew := (((Below.refl _ _).alloc (Nat.le_refl _) _).alloc (by simp) _).drew
          have bZE : Below W.heap.size W ((W.alloc (.cells #[.string ⟨#[]⟩, .slice none 0 0] 53)).alloc (.cells #[] 5)).drew := (((Below.refl _ _).alloc (Nat.le_refl _) _).alloc (by simp) _).drew
          go_wp2_with fail
          go_region_held3 (fun w' => Below w.heap.size w w')
            (first | with_reducible exact d0 | with_reducible exact dE | with_reducible exact dZ | with_reducible exact dEZ | with_reducible exact dZE | with_reducible exact e1 | with_reducible exact e1a | with_reducible exact e1s | (trace "KEEP"; trace_state; fail))
            (first
              | (refine step_append8 (by rfl) (.tmp 28) (.tmp 31) 31 5 (by rfl) bytesT _ _ _ [] (by rfl) oE _ _ _ _ (Bx.firstD rest) (by rfl) (HcD.out _ dE) HLD.out (by omega) ?_; intro A9 c9 w9 own9 grow9 at9; simp only [Nat.zero_add, List.nil_append] at own9 ⊢; have F9 := box_app bE grow9 at9 (Nat.le_refl _); have e1 : Below w.heap.size w w9 := bnext bel F9.1; have e1a : Below w.heap.size w (w9.alloc (.cells #[.string ⟨#[]⟩, .slice none 0 0] 53)) := e1.alloc e1.size _; have e1s : Below w.heap.size w (w9.alloc (.cells #[.string T, .slice A9 (v - 8) c9] 53)) := e1.alloc e1.size _; have bkV := Blk.new w9 53 #[.string T, .slice A9 (v - 8) c9]; have oV := own9.alloc (.cells #[.string T, .slice A9 (v - 8) c9] 53); have bV : Below W.heap.size W (w9.alloc (.cells #[.string T, .slice A9 (v - 8) c9] 53)) := F9.1.alloc F9.1.size _)
              | (refine step_append8 (by rfl) (.tmp 28) (.tmp 31) 31 5 (by rfl) bytesT _ _ _ [] (by rfl) oEZ _ _ _ _ (Bx.firstD rest) (by rfl) (HcD.out _ dEZ) HLD.out (by omega) ?_; intro A9 c9 w9 own9 grow9 at9; simp only [Nat.zero_add, List.nil_append] at own9 ⊢; have F9 := box_app bEZ grow9 at9 (Nat.le_refl _); have e1 : Below w.heap.size w w9 := bnext bel F9.1; have y9 := yEZ.grown grow9 (by simp [blkOf]); have y0 : w9.cell? ⟨W.heap.size + 1, 0, none⟩ = some (.string ⟨#[]⟩) := y9.cell 0; have y1 : w9.cell? ⟨W.heap.size + 1, 1, none⟩ = some (.slice none 0 0) := y9.cell 1; have yf0 := y9.frozen 0; have yf1 := y9.frozen 1; have e1s : Below w.heap.size w ((w9.setCell ⟨W.heap.size + 1, 0, none⟩ (.string T)).setCell ⟨W.heap.size + 1, 1, none⟩ (.slice A9 (v - 8) c9)) := (e1.setCell (p := ⟨W.heap.size + 1, 0, none⟩) (Nat.le_succ_of_le bel.size) _).setCell (p := ⟨W.heap.size + 1, 1, none⟩) (Nat.le_succ_of_le bel.size) _; have bkV := (y9.set_ 0 (.string T)).set_ 1 (.slice A9 (v - 8) c9); have oV := (own9.setFar (p := ⟨W.heap.size + 1, 0, none⟩) (far8 own9 y9) (.string T)).setFar (p := ⟨W.heap.size + 1, 1, none⟩) (far8 own9 y9) (.slice A9 (v - 8) c9); have bV : Below W.heap.size W ((w9.setCell ⟨W.heap.size + 1, 0, none⟩ (.string T)).setCell ⟨W.heap.size + 1, 1, none⟩ (.slice A9 (v - 8) c9)) := (F9.1.setCell (p := ⟨W.heap.size + 1, 0, none⟩) (Nat.le_succ _) _).setCell (p := ⟨W.heap.size + 1, 1, none⟩) (Nat.le_succ _) _)
              | (refine step_append8 (by rfl) (.tmp 28) (.tmp 31) 31 5 (by rfl) bytesT _ _ _ [] (by rfl) oZE _ _ _ _ (Bx.firstD rest) (by rfl) (HcD.out _ dZE) HLD.out (by omega) ?_; intro A9 c9 w9 own9 grow9 at9; simp only [Nat.zero_add, List.nil_append] at own9 ⊢; have F9 := box_app bZE grow9 at9 (Nat.le_succ _); have e1 : Below w.heap.size w w9 := bnext bel F9.1; have y9 := yZE.grown grow9 (by simp [blkOf]); have y0 : w9.cell? ⟨W.heap.size, 0, none⟩ = some (.string ⟨#[]⟩) := y9.cell 0; have y1 : w9.cell? ⟨W.heap.size, 1, none⟩ = some (.slice none 0 0) := y9.cell 1; have yf0 := y9.frozen 0; have yf1 := y9.frozen 1; have e1s : Below w.heap.size w ((w9.setCell ⟨W.heap.size, 0, none⟩ (.string T)).setCell ⟨W.heap.size, 1, none⟩ (.slice A9 (v - 8) c9)) := (e1.setCell (p := ⟨W.heap.size, 0, none⟩) bel.size _).setCell (p := ⟨W.heap.size, 1, none⟩) bel.size _; have bkV := (y9.set_ 0 (.string T)).set_ 1 (.slice A9 (v - 8) c9); have oV := (own9.setFar (p := ⟨W.heap.size, 0, none⟩) (far8 own9 y9) (.string T)).setFar (p := ⟨W.heap.size, 1, none⟩) (far8 own9 y9) (.slice A9 (v - 8) c9); have bV : Below W.heap.size W ((w9.setCell ⟨W.heap.size, 0, none⟩ (.string T)).setCell ⟨W.heap.size, 1, none⟩ (.slice A9 (v - 8) c9)) := (F9.1.setCell (p := ⟨W.heap.size, 0, none⟩) (Nat.le_refl _) _).setCell (p := ⟨W.heap.size, 1, none⟩) (Nat.le_refl _) _))
          all_goals
            first
              | (generalize w9.alloc (.cells #[.string T, .slice A9 (v - 8) c9] 53) = V at *
                 obtain ⟨gy, hgy⟩ : ∃ g, g = w9.heap.size := ⟨_, rfl⟩
                 rw [← hgy] at bkV ⊢
                 clear hgy)
              | (generalize (w9.setCell ⟨W.heap.size + 1, 0, none⟩ (.string T)).setCell ⟨W.heap.size + 1, 1, none⟩ (.slice A9 (v - 8) c9) = V at *
                 obtain ⟨gy, hgy⟩ : ∃ g, g = W.heap.size + 1 := ⟨_, rfl⟩
                 rw [← hgy] at bkV ⊢
                 clear hgy)
              | (generalize (w9.setCell ⟨W.heap.size, 0, none⟩ (.string T)).setCell ⟨W.heap.size, 1, none⟩ (.slice A9 (v - 8) c9) = V at *
                 obtain ⟨gy, hgy⟩ : ∃ g, g = W.heap.size := ⟨_, rfl⟩
                 rw [← hgy] at bkV ⊢
                 clear hgy)
            have hPV := hP3.next bV
            have hvl : v - 8 ≤ 1099511627776 := by omega
            obtain ⟨u, hu⟩ : ∃ u, v - 8 = u := ⟨_, rfl⟩
            have HU := hide hu
            rw [hu] at bkV oV hvl ⊢
            have m0 : V.cell? ⟨gy, 0, none⟩ = some (.string T) := bkV.cell 0
            have m1 : V.cell? ⟨gy, 1, none⟩ = some (.slice A9 u c9) := bkV.cell 1
            have hT4 : T.size ≤ 9223372036854775807 := by
              rw [← HTT.out]
              have : (Bx.firstT rest).size ≤ 4 := by
                show ((rest.drop 4).take 4).length ≤ 4
                rw [List.length_take]; omega
              omega
            clear hu hs1 hs2 cv d0 dE dZ dEZ dZE oE oEZ oZE yEZ yZE bE bEZ bZE hP3 hown hge bel e1s e1
            go_wp2_with fail
            refine (refright_calls T A9 u c9 _ (by omega) hT4).mono ?_
            rintro e w3 ⟨rfl, b3⟩
            have bkV3 := bkV.below b3 bkV.lt
            have o3 := oV.below b3 oV.lt
            have hP4 := hPV.next b3
            have m2 : w3.cell? ⟨gy, 0, none⟩ = some (.string T) := bkV3.cell 0
            have m3 : w3.cell? ⟨gy, 1, none⟩ = some (.slice A9 u c9) := bkV3.cell 1
            have HFN : Hid (Bx.firstN rest = if Bx.right T u = true then v else 0) := by
              show _ = _
              unfold Bx.firstN
              have h2 := HL.out
              rw [if_neg (by omega), HO.out, if_neg (by omega), HTT.out, HU.out]
            clear m0 m1
            cases hq : Bx.right T u
            · have HF : Hid (Bx.firstN rest = 0) := by rw [HFN.out, hq]; exact rfl
              have HE : Hid (Bx.even m = false) := hev.out.trans (Bx.even_no (by rw [← HL.out]; omega) HF.out)
              clear hq
              go_wp2
              go_ret2
              exact .inr ⟨HE.out, rfl, hP4.bel⟩
            · have HF : Hid (Bx.firstN rest = v) := by rw [HFN.out, hq]; exact rfl
              have hne : Bx.firstN rest ≠ 0 := by rw [HF.out]; omega
              have HBX : Hid (Bx.boxes m = Bx.boxs (pre ++ [⟨T, A9, u, c9, Bx.firstD rest⟩]) ++ Bx.boxes (rest.drop v)) := by
                show _ = _
                rw [hbx.out, Bx.boxes_yes hne, Bx.boxs_append, HF.out, HTT.out]
                simp [Bx.boxs, Bx.Cel.box]
              have HEV : Hid (Bx.even m = Bx.even (rest.drop v)) := by rw [hev.out, Bx.even_yes hne, HF.out]; exact rfl
              have HLr : Hid (n2 - v = (rest.drop v).length) := by show _ = _; rw [List.length_drop, ← HL.out]
              have hpl := HPL.out
              clear hq hne
              go_wp2_with (at_builtin; refine wpList_appendR (by rfl) (.tmp 38) (.tmp 40) 54 53 2 40 (by rfl) boxesT _ _ _ _ (by rfl) (hP4.own.1.alloc _) _ _ _ _ [(⟨T, A9, u, c9, Bx.firstD rest⟩ : Bx.Cel).row] (by rfl) (Recs.new _ _ _ _ _ _ rfl rfl) (by rfl) (by simp [Bx.Cel.row]) (by simp [Bx.Cel.row, Value.oneCell']) (by omega) (by unfold maxLen; omega) ?_; intro A5 c5 w5 own5 grow5 at5)
              have hP5 := hP4.app (x := ⟨T, A9, u, c9, Bx.firstD rest⟩) o3 own5 grow5 at5
              go_roundw
              case rel => exact ⟨_, _, A5, AR, n1 + 1, c5, n2 - v, c2 - v, rfl, rfl, HLr, by omega, by omega, HcR, hP5, HBX, HEV⟩
              case measure => simp; omega
end Go.Proofs.Ytakglalebjkpeaa.C16
