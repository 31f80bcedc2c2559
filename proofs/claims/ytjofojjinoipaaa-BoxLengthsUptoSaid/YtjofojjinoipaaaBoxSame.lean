/- Boxes' types, and whether two lists of boxes are one, each by its contract. Conditions: the slices read as boxes. -/
import Derived.Test.YtjofojjinoipaaaBoxFind
import Derived.Test.YtjofojjinoipaaaConv
namespace Go.Proofs.Ytjofojjinoipaaa
open Go.RowKit Kin

theorem textsT : IsRows Try.prog 33 9 1 16 := isRows_of (z := .string ⟨#[]⟩) Try.underlying33 (by decide) (by kernel_rfl) rfl
def kindRow (x : Bx.Cel) : List Value := [.string x.t]
theorem OwnR.new0 (w : World) (cs : Array Value) (e : TypeId) (k c : Nat) (hs : cs.size = c * k) (hm : c ≤ maxLen) : OwnR (w.alloc (.cells cs e)) e k (some ⟨w.heap.size, 0, none⟩) 0 c [] :=
  ⟨rfl, by simp, by simp, Or.inr ⟨w.heap.size, c, cs, rfl, Nat.zero_le _, heap_alloc_new w _, Nat.zero_le _, hm, hs, by simp⟩⟩
theorem take_map {xs : List Bx.Cel} {k : Nat} (h : k < xs.length) : (xs.take (k + 1)).map kindRow = (xs.take k).map kindRow ++ [kindRow xs[k]] := by
  rw [List.take_add_one, List.getElem?_eq_getElem h, List.map_append]; rfl

set_option maxRecDepth 100000 in
set_option maxHeartbeats 1000000 in
theorem kinds_calls (A : Option Addr) (n c : Nat) (xs : List Bx.Cel) (w : World) (hn : n = xs.length) (hm : n ≤ 1099511627776) (hA : Bx.Boxes w w.heap.size A xs) :
    Calls Try.prog 15 #[.slice A n c] w fun e w' => ∃ A' n' c', e = .returned (.slice A' n' c') ∧ OwnR w' 9 1 A' n' c' (xs.map kindRow) ∧ (∀ g, blkOf A' = some g → w.heap.size ≤ g) ∧ Below w.heap.size w w' := by
  have HN := hide hn
  clear hn
  have hmk : ∀ w', Sem.run Try.prog (Instr.makeSlice 33 (.int .i64 0) (.int .i64 (n : Int))) w' = .ok (.slice (some ⟨w'.heap.size, 0, none⟩) 0 n) (w'.alloc (.cells (madeCells #[.string ⟨#[]⟩] n) 9)) := fun w' => by
    obtain ⟨ht, _, i, z, hi, hz, hsize, hby, _⟩ := textsT
    have hz' : i.zero = some (.string ⟨#[]⟩) := by
      have : (Try.prog.info? 9).map (fun i => i.zero) = some (some (.string ⟨#[]⟩)) := by kernel_rfl
      rw [hi] at this
      simpa using this
    have := run_make0 (P := Try.prog) 33 9 i _ ht hi hz' .i64 .i64 n (by rw [hby]; omega) (by unfold maxLen; omega) w'
    rw [hsize, Nat.mul_one] at this
    exact this
  go_enter Try.func15, Try.ntmps15
  go_wp2_with fail
  have own0 := OwnR.new0 w (madeCells #[.string ⟨#[]⟩] n) 9 1 n (by rw [size_madeCells, Nat.mul_one]) (by unfold maxLen; omega)
  have bel0 : Below w.heap.size w (w.alloc (.cells (madeCells #[.string ⟨#[]⟩] n) 9)) := (Below.refl _ _).alloc (Nat.le_refl _) _
  generalize w.alloc (.cells (madeCells #[.string ⟨#[]⟩] n) 9) = W0 at *
  clear hmk
  go_loopw [3, 11] (fun sv iv wr => ∃ (k n1 c1 : Nat) (A1 : Option Addr), k ≤ n ∧ iv = .int .i64 (k : Int) ∧ sv = .slice A1 n1 c1 ∧ OwnR wr 9 1 A1 n1 c1 ((xs.take k).map kindRow) ∧ (∀ g, blkOf A1 = some g → w.heap.size ≤ g) ∧ Below w.heap.size w wr) (fun _ iv _ => n - (intOf iv).toNat)
  case atStart => exact ⟨0, 0, n, _, by omega, rfl, rfl, own0, by intro g hg; simp [blkOf] at hg; omega, bel0⟩
  case round =>
    obtain ⟨k, n1, c1, A1, hk, rfl, rfl, own, gA, bel⟩ := hrel
    clear own0 bel0
    by_cases hlt : k < n
    · have hkx : k < xs.length := by rw [← HN.out]; exact hlt
      obtain ⟨b, off, rfl, hb, c0, c1', _⟩ := (hA.below bel).at_ hkx
      have HT := hide (take_map hkx)
      have hn1 : n1 ≤ 1099511627776 := by have := own.1; rw [List.length_map, List.length_take] at this; omega
      obtain ⟨x, hx⟩ : ∃ x, xs[k] = x := ⟨_, rfl⟩
      rw [hx] at c0 c1' HT
      obtain ⟨t, xA, xn, xc, xd⟩ := x
      dsimp only at c0 c1' HT
      clear hx
      have HA := hide hA
      clear hA
      have i0 : (0 : Int) ≤ (k : Int) := by omega
      have i1 : (k : Int) < (n : Int) := by omega
      have own1 := own.alloc (.cells #[.string t, .slice xA xn xc] 36)
      have bel1 := bel.alloc bel.size (.cells #[.string t, .slice xA xn xc] 36)
      have recN : Recs ((wr.alloc (.cells #[.string t, .slice xA xn xc] 36)).alloc (.cells #[.string t] 9)) (wr.heap.size + 1 + 1) 1 (some ⟨wr.heap.size + 1, 0, none⟩) [kindRow ⟨t, xA, xn, xc, xd⟩] := by
        have := Recs.new (wr.alloc (.cells #[.string t, .slice xA xn xc] 36)) #[.string t] 9 (0, 0) 1 (kindRow ⟨t, xA, xn, xc, xd⟩) rfl rfl
        rwa [World.size_alloc] at this
      go_wp2_with (at_builtin; refine wpList_appendR (by rfl) (.tmp 15) (.tmp 18) 33 9 1 16 (by rfl) textsT _ _ _ _ (by rfl) (own1.alloc _) _ _ _ _ [kindRow ⟨t, xA, xn, xc, xd⟩] (by rfl) recN (by rfl) (by simp [kindRow]) (by simp [kindRow, Value.oneCell']) (by omega) (by unfold maxLen; omega) ?_; intro A2 c2 w2 own2 grow2 at2)
      have belA := bel1.alloc bel1.size (.cells #[.string t] 9)
      rw [← HT.out] at own2
      go_roundw
      case rel =>
        refine ⟨k + 1, n1 + 1, c2, A2, by omega, by go_num, rfl, own2, ?_, belA.grown grow2 belA.size gA⟩
        intro g hg
        rcases at2 with e | e
        · exact gA g (by rw [← e]; exact hg)
        · rw [hg] at e; injection e with e; rw [e]; exact belA.size
      case measure => simp [intOf]; omega
    · obtain rfl : n = k := by omega
      have HT := hide (List.take_of_length_le (l := xs) (i := n) (by rw [← HN.out]; omega))
      rw [HT.out] at own
      clear hlt
      go_wp2
      go_ret
      exact ⟨A1, n1, c1, rfl, own, gA, bel⟩

theorem boxs_ne {xs ys : List Bx.Cel} {k : Nat} (h1 : k < xs.length) (h2 : k < ys.length) (h : ¬ (xs[k].t = ys[k].t ∧ xs[k].d = ys[k].d)) : decide (Bx.boxs xs = Bx.boxs ys) = false := by
  rw [decide_eq_false_iff_not]
  intro e
  have e1 := Bx.boxs_at xs h1
  rw [e, Bx.boxs_at ys h2] at e1
  injection e1 with e1
  injection e1 with e1 e2
  exact h ⟨e1.symm, e2.symm⟩

set_option maxRecDepth 100000 in
set_option maxHeartbeats 2000000 in
theorem same_calls (A A' : Option Addr) (n c n' c' : Nat) (xs ys : List Bx.Cel) (w : World) (hn : n = xs.length) (hm : n ≤ 9223372036854775807) (hn' : n' = ys.length) (hm' : n' ≤ 9223372036854775807) (hA : Bx.Boxes w w.heap.size A xs) (hA' : Bx.Boxes w w.heap.size A' ys) :
    Calls Try.prog 16 #[.slice A n c, .slice A' n' c'] w (RetBool w (decide (Bx.boxs xs = Bx.boxs ys))) := by
  have HN := hide hn
  have HN' := hide hn'
  clear hn hn'
  by_cases hl : n = n'
  · subst hl
    go_enter Try.func16, Try.ntmps16
    go_wp2
    go_loopw [5] (fun iv wr => ∃ (k : Nat), k ≤ n ∧ iv = .int .i64 (k : Int) ∧ Hid ((Bx.boxs xs).take k = (Bx.boxs ys).take k) ∧ Below w.heap.size w wr) (fun iv _ => n - (intOf iv).toNat)
    case atStart => exact ⟨0, by omega, rfl, rfl, Below.refl _ _⟩
    case round =>
      obtain ⟨k, hk, rfl, hs, bel⟩ := hrel
      by_cases hlt : k < n
      · have hkx : k < xs.length := by rw [← HN.out]; exact hlt
        have hky : k < ys.length := by rw [← HN'.out]; exact hlt
        obtain ⟨b, off, rfl, hb, c0, c1, hok⟩ := (hA.below bel).at_ hkx
        obtain ⟨b', off', rfl, hb', c0', c1', hok'⟩ := (hA'.below bel).at_ hky
        have HT := hide (Bx.take_boxs xs hkx)
        have HT' := hide (Bx.take_boxs ys hky)
        have HNE := hide (fun (h : ¬ (xs[k].t = ys[k].t ∧ xs[k].d = ys[k].d)) => boxs_ne hkx hky h)
        have cv1 : ∀ w', Below w.heap.size w w' → Sem.run Try.prog (convert 23 9 (.slice xs[k].A xs[k].n xs[k].c)) w' = .ok (.string (str xs[k].d)) w' := fun w' h => run_conv8 bytesT Try.underlying9 _ _ _ _ ((hA.below h).2 _ (List.getElem_mem hkx)).2.2 hok.1
        have cv2 : ∀ w', Below w.heap.size w w' → Sem.run Try.prog (convert 23 9 (.slice ys[k].A ys[k].n ys[k].c)) w' = .ok (.string (str ys[k].d)) w' := fun w' h => run_conv8 bytesT Try.underlying9 _ _ _ _ ((hA'.below h).2 _ (List.getElem_mem hky)).2.2 hok'.1
        obtain ⟨x, hx⟩ : ∃ x, xs[k] = x := ⟨_, rfl⟩
        obtain ⟨y, hy⟩ : ∃ y, ys[k] = y := ⟨_, rfl⟩
        rw [hx] at c0 c1 HT cv1 HNE
        rw [hy] at c0' c1' HT' cv2 HNE
        obtain ⟨t, xA, xn, xc, xd⟩ := x
        obtain ⟨t', yA, yn, yc, yd⟩ := y
        dsimp only at c0 c1 c0' c1' HT HT' cv1 cv2 HNE
        have HCV1 := hide cv1
        have HCV2 := hide cv2
        clear hx hy hok hok' cv1 cv2
        have HA := hide hA
        have HA2 := hide hA'
        clear hA hA'
        have i0 : (0 : Int) ≤ (k : Int) := by omega
        have i1 : (k : Int) < (n : Int) := by omega
        have cvA : ∀ q, Sem.run Try.prog (convert 23 9 (.slice xA xn xc)) (wr.drewN q) = .ok (.string (str xd)) (wr.drewN q) := fun q => HCV1.out _ (bnext bel (dN _ q))
        have cvB : ∀ q, Sem.run Try.prog (convert 23 9 (.slice yA yn yc)) (wr.drewN q) = .ok (.string (str yd)) (wr.drewN q) := fun q => HCV2.out _ (bnext bel (dN _ q))
        by_cases ht : t = t'
        · subst ht
          have hte : (t.toList != t.toList) = false := by simp
          by_cases hd : xd = yd
          · subst hd
            have hde : ((str xd).toList != (str xd).toList) = false := by simp
            have HE : Hid ((Bx.boxs xs).take (k + 1) = (Bx.boxs ys).take (k + 1)) := by show _ = _; rw [HT.out, HT'.out, hs.out]
            generalize str xd = S at *
            go_wp2_with fail
            go_quiet (fail)
            have b2 := bnext bel (dN _ nq)
            go_wp2
            go_roundw
            case rel => exact ⟨k + 1, by omega, by go_num, HE, b2⟩
            case measure => simp [intOf]; omega
          · have hne : ¬ str xd = str yd := fun e => hd (str_inj e)
            have hde : ((str xd).toList != (str yd).toList) = true := by rw [bne, tl_ne hne]; rfl
            have hdf := tl_ne hne
            have HF := hide (HNE.out (fun h => hd h.2))
            clear hne
            generalize str xd = S at *
            generalize str yd = S' at *
            go_wp2_with fail
            go_quiet (fail)
            have b2 := bnext bel (dN _ nq)
            go_wp2
            go_ret
            exact ⟨by rw [HF.out]; rfl, b2⟩
        · have hte : (t.toList != t'.toList) = true := by rw [bne, tl_ne ht]; rfl
          have htf := tl_ne ht
          have HF := hide (HNE.out (fun h => ht h.1))
          go_wp2_with fail
          go_quiet (fail)
          have b2 := bnext bel (dN _ nq)
          go_wp2
          go_ret
          exact ⟨by rw [HF.out]; rfl, b2⟩
      · obtain rfl : n = k := by omega
        have HE : Hid (decide (Bx.boxs xs = Bx.boxs ys) = true) := by
          have h := hs.out
          rw [List.take_of_length_le (by rw [Bx.length_boxs, ← HN.out]; omega), List.take_of_length_le (by rw [Bx.length_boxs, ← HN'.out]; omega)] at h
          rw [h]; simp [Hid]
        clear hlt
        go_wp2
        go_ret
        exact ⟨by rw [HE.out]; rfl, bel⟩
  · have HE : Hid (decide (Bx.boxs xs = Bx.boxs ys) = false) := by
      refine decide_eq_false (fun e => hl ?_)
      have := congrArg List.length e
      rw [Bx.length_boxs, Bx.length_boxs, ← HN.out, ← HN'.out] at this
      exact this
    have hl' : ¬ (n : Int) = (n' : Int) := by omega
    go_enter Try.func16, Try.ntmps16
    go_wp2
    go_ret
    exact ⟨by rw [HE.out]; rfl, Below.refl _ _⟩
end Go.Proofs.Ytjofojjinoipaaa
