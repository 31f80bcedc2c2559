/- Whether two media are one, by the contract of the document's function. Conditions: the slices read as samples. -/
import Derived.Test.YtakglalebjkpeaaHSegOpen
namespace Go.Proofs.Ytakglalebjkpeaa.C17
open Go.RowKit Kin Go.Proofs.Ytakglalebjkpeaa Go.Proofs.Ytakglalebjkpeaa.C16

def sameM (N F : Int) (L : List (List UInt8)) (N' F' : Int) (L' : List (List UInt8)) : Bool := decide (N = N' ∧ F = F' ∧ L = L')
theorem same_no {N F N' F' : Int} {L L' : List (List UInt8)} (h : ¬ (N = N' ∧ F = F' ∧ L = L')) : sameM N F L N' F' L' = false := decide_eq_false h
theorem dats_ne {xs ys : List Sg.Smp} {k : Nat} (h1 : k < xs.length) (h2 : k < ys.length) (h : ¬ xs[k].d = ys[k].d) : ¬ Sg.dats xs = Sg.dats ys := by
  intro e
  have e1 := Sg.dats_at xs h1
  rw [e, Sg.dats_at ys h2] at e1
  injection e1 with e1
  exact h e1.symm

set_option maxRecDepth 100000 in
set_option maxHeartbeats 4000000 in
theorem same_calls (N F N' F' : Int) (A A' : Option Addr) (n c n' c' : Nat) (xs ys : List Sg.Smp) (w : World) (hn : n = xs.length) (hm : n ≤ 9223372036854775807) (hn' : n' = ys.length) (hA : Sg.Samps w w.heap.size A xs) (hA' : Sg.Samps w w.heap.size A' ys) :
    Calls Try.prog 23 #[medV N F A n c, medV N' F' A' n' c'] w (C16.RetBool w (sameM N F (Sg.dats xs) N' F' (Sg.dats ys))) := by
  have b0 : Below w.heap.size w ((w.alloc (.cells #[.int .i64 N, .int .i64 F, .slice A n c] 28)).alloc (.cells #[.int .i64 N', .int .i64 F', .slice A' n' c'] 28)) := ((Below.refl w.heap.size w).alloc (Nat.le_refl _) _).alloc (by simp) _
  have bk1 := (Blk.new w 28 #[.int .i64 N, .int .i64 F, .slice A n c]).alloc (.cells #[.int .i64 N', .int .i64 F', .slice A' n' c'] 28)
  have bk2 := Blk.new (w.alloc (.cells #[.int .i64 N, .int .i64 F, .slice A n c] 28)) 28 #[.int .i64 N', .int .i64 F', .slice A' n' c']
  rw [World.size_alloc] at bk2
  have HN := hide hn
  have HN' := hide hn'
  clear hn hn'
  obtain ⟨c0, c1, c2⟩ := med_cells bk1
  obtain ⟨d0, d1, d2⟩ := med_cells bk2
  by_cases h1 : N = N'
  · subst h1
    by_cases h2 : F = F'
    · subst h2
      by_cases h3 : n = n'
      · subst h3
        have HA := hide hA
        have HA' := hide hA'
        clear hA hA'
        go_enter Try.func23, Try.ntmps23
        go_wp2
        generalize (w.alloc (.cells #[.int .i64 N, .int .i64 F, .slice A n c] 28)).alloc (.cells #[.int .i64 N, .int .i64 F, .slice A' n c'] 28) = V at *
        clear c0 c1 c2 d0 d1 d2
        go_loopw [5] (fun iv wr => ∃ k : Nat, k ≤ n ∧ iv = .int .i64 (k : Int) ∧ Hid (∀ i, i < k → (Sg.dats xs)[i]? = (Sg.dats ys)[i]?) ∧ Below V.heap.size V wr) (fun iv _ => n - (intOf iv).toNat)
        case atStart => exact ⟨0, by omega, rfl, (by intro i hi; omega), Below.refl _ _⟩
        case round =>
          obtain ⟨k, hk, rfl, hs, belV⟩ := hrel
          have bel := b0.trans (belV.mono b0.size)
          obtain ⟨c0, c1, c2⟩ := med_cells (bk1.below belV bk1.lt)
          obtain ⟨d0, d1, d2⟩ := med_cells (bk2.below belV bk2.lt)
          by_cases hlt : k < n
          · have hkx : k < xs.length := by rw [← HN.out]; exact hlt
            have hky : k < ys.length := by rw [← HN'.out]; exact hlt
            obtain ⟨b, off, rfl, hb, q0, ok0⟩ := samp_cell HA.out bel hkx
            obtain ⟨b', off', rfl, hb', q1, ok1⟩ := samp_cell HA'.out bel hky
            have HG1 := hide (Sg.dats_at xs hkx)
            have HG2 := hide (Sg.dats_at ys hky)
            have HDN : Hid (¬ xs[k].d = ys[k].d → sameM N F (Sg.dats xs) N F (Sg.dats ys) = false) := fun h => same_no (fun x => dats_ne hkx hky h x.2.2)
            have cv1 : ∀ j, Sem.run Try.prog (convert 31 9 (.slice xs[k].A xs[k].n xs[k].c)) (wr.drewN j) = .ok (.string (str xs[k].d)) (wr.drewN j) := fun j => run_conv8 bytesT Try.underlying9 _ _ _ _ (ok0.2.2.drewN j) ok0.1
            have cv2 : ∀ j, Sem.run Try.prog (convert 31 9 (.slice ys[k].A ys[k].n ys[k].c)) (wr.drewN j) = .ok (.string (str ys[k].d)) (wr.drewN j) := fun j => run_conv8 bytesT Try.underlying9 _ _ _ _ (ok1.2.2.drewN j) ok1.1
            generalize xs[k] = x at *
            generalize ys[k] = y at *
            obtain ⟨xA, xn, xc, xd⟩ := x
            obtain ⟨yA, yn, yc, yd⟩ := y
            dsimp only at q0 q1 HG1 HG2 HDN cv1 cv2
            clear ok0 ok1
            have i0 : (0 : Int) ≤ (k : Int) := by omega
            have i1 : (k : Int) < (n : Int) := by omega
            by_cases hxy : xd = yd
            · subst hxy
              have HS : Hid (∀ i, i < k + 1 → (Sg.dats xs)[i]? = (Sg.dats ys)[i]?) := by
                intro i hi
                by_cases h : i < k
                · exact hs.out i h
                · obtain rfl : i = k := by omega
                  rw [HG1.out, HG2.out]
              go_wp2_with fail
              go_quiet (fail)
              go_wp2
              go_roundw
              case rel => exact ⟨k + 1, by omega, by go_num, HS, belV.trans ((dN _ nq).mono belV.size)⟩
              case measure => simp [intOf]; omega
            · have HE := hide (HDN.out hxy)
              have hne : ((str xd).toList == (str yd).toList) = false := by rw [str_beq]; exact decide_eq_false hxy
              go_wp2_with fail
              go_quiet (fail)
              go_wp2
              go_ret
              exact ⟨by rw [HE.out]; rfl, bel.trans ((dN _ nq).mono bel.size)⟩
          · obtain rfl : n = k := by omega
            have HE : Hid (sameM N F (Sg.dats xs) N F (Sg.dats ys) = true) := by
              unfold sameM
              rw [decide_eq_true]
              · exact rfl
              · refine ⟨rfl, rfl, ?_⟩
                apply List.ext_getElem?
                intro i
                by_cases h : i < n
                · exact hs.out i h
                · rw [List.getElem?_eq_none (by rw [Sg.length_dats, ← HN.out]; omega), List.getElem?_eq_none (by rw [Sg.length_dats, ← HN'.out]; omega)]
            clear hlt
            go_wp2
            go_ret
            exact ⟨by rw [HE.out]; rfl, bel⟩
      · have HE : Hid (sameM N F (Sg.dats xs) N F (Sg.dats ys) = false) := same_no (fun x => by
          have := congrArg List.length x.2.2
          rw [Sg.length_dats, Sg.length_dats, ← HN.out, ← HN'.out] at this
          exact h3 this)
        have hd : ¬ (n : Int) = (n' : Int) := by omega
        clear hA hA'
        go_enter Try.func23, Try.ntmps23
        go_wp2
        go_ret
        exact ⟨by rw [HE.out]; rfl, b0⟩
    · have HE : Hid (sameM N F (Sg.dats xs) N F' (Sg.dats ys) = false) := same_no (fun x => h2 x.2.1)
      clear hA hA'
      go_enter Try.func23, Try.ntmps23
      go_wp2
      go_ret
      exact ⟨by rw [HE.out]; rfl, b0⟩
  · have HE : Hid (sameM N F (Sg.dats xs) N' F' (Sg.dats ys) = false) := same_no (fun x => h1 x.1)
    clear hA hA'
    go_enter Try.func23, Try.ntmps23
    go_wp2
    go_ret
    exact ⟨by rw [HE.out]; rfl, b0⟩
end Go.Proofs.Ytakglalebjkpeaa.C17
