/- The statement BoxBack, walked: it returns true and changes nothing that was there. Conditions: the slices read as boxes, as bytes. -/
import Derived.Test.YtjofojjinoipaaaBoxTwo
namespace Go.Proofs.Ytjofojjinoipaaa
open Go.RowKit Kin

theorem back_sizes (m : List UInt8) (h : Bx.even m = true) : Bx.sizes (Bx.boxes m) = m.length := by
  rw [← Bx.length_file _ (Bx.boxes_right m), Bx.file_even h]
theorem file_len8 {L : List Bx.Box} (h : L.all Bx.rightB = true) (h0 : 0 < L.length) : 8 ≤ (Bx.file L).length := by
  rw [Bx.length_file L h]
  rcases L with _ | ⟨x, L⟩
  · simp at h0
  · show 8 ≤ 8 + x.2.length + Bx.sizes L
    omega
theorem less_even {L : List Bx.Box} (h : L.all Bx.rightB = true) {k : Nat} (hk : (Bx.file L).length = k + 1) : Bx.even ((Bx.file L).take k) = false := by
  have e : (Bx.file L) = (Bx.file L).take k ++ [(Bx.file L)[k]'(by omega)] := by
    have h1 := List.take_append_drop k (Bx.file L)
    rw [List.drop_eq_getElem_cons (by omega), List.drop_of_length_le (by omega)] at h1
    exact h1.symm
  exact Bx.even_less h e

set_option maxRecDepth 100000 in
set_option maxHeartbeats 4000000 in
theorem boxBack_bad (A : Option Addr) (n c : Nat) (xs : List Bx.Cel) (A' : Option Addr) (n' c' : Nat) (more : Int) (w : World) (hn : n = xs.length) (hm : n ≤ maxLen) (hA : Bx.Boxes w w.heap.size A xs) (hm' : n' ≤ maxLen) (h : Bx.fits xs = false ∨ 1000 < n') :
    Calls Try.prog 4 #[.slice A n c, .slice A' n' c', .int .i64 more] w fun e w' => e = .returned (.bool true) ∧ Below w.heap.size w w' := by
  unfold maxLen at hm hm'
  have hF := fits_calls A n c xs w hn hm hA
  have hal := alive16_calls w
  clear hn hA
  generalize Bx.fits xs = p at *
  cases p
  case' true => have h5 : (1000 : Int) < (n' : Int) := by rcases h with h | h; · cases h
                                                          · omega
  all_goals
    clear h
    go_enter Try.func4, Try.ntmps4
    go_wp2_with fail
    refine hF.mono ?_
    rintro e w0 ⟨rfl, rfl⟩
    go_wp2_with fail
    refine hal.mono ?_
    rintro e w1 ⟨rfl, b1⟩
    go_wp2
    go_ret
    exact ⟨rfl, b1⟩

set_option maxRecDepth 100000 in
set_option maxHeartbeats 8000000 in
theorem boxBack_good (A : Option Addr) (n c : Nat) (xs : List Bx.Cel) (A' : Option Addr) (n' c' : Nat) (m : List UInt8) (more : Int) (w : World) (hn : n = xs.length) (hA : Bx.Boxes w w.heap.size A xs) (hn' : n' = m.length) (hc' : n' ≤ c') (hA' : Byt w w.heap.size A' m) (hf : Bx.fits xs = true) (hl : n' ≤ 1000) (hmo : (Lit.int .i64 more).wf = true) :
    Calls Try.prog 4 #[.slice A n c, .slice A' n' c', .int .i64 more] w fun e w' => e = .returned (.bool true) ∧ Below w.heap.size w w' := by
  obtain ⟨f1, f2, f3⟩ := fits_sizes hf hA
  have HN := hide hn
  have HN' := hide hn'
  have ⟨m1, m2⟩ := bounds_i64 hmo
  have hn20 : n ≤ 20 := by rw [hn]; exact f1
  have hF := fits_calls A n c xs w hn (by omega) hA
  rw [hf] at hF
  have d1 : decide ((1000 : Int) < (n' : Int)) = false := by simp; omega
  have HP := hide (parse_calls A' n' c' m w hn' hc' (by omega) hA')
  have HW : Hid (∀ w', Below w.heap.size w w' → Calls Try.prog 9 #[.slice A n c] w' (RetBE w' (wrL (Bx.boxs xs)) (wrE (Bx.boxs xs)))) := fun w' h => write_calls A n c xs w' hn (by omega) ((hA.below h).more h.size) (by omega)
  have HS : Hid (∀ w' A1 n1 c1 ys, Below w.heap.size w w' → Bx.OwnB w' 36 5 A1 n1 c1 ys → Calls Try.prog 16 #[.slice A1 n1 c1, .slice A n c] w' (RetBool w' (decide (Bx.boxs ys = Bx.boxs xs)))) := fun w' A1 n1 c1 ys h o => same_calls A1 A n1 c1 n c ys xs w' o.len (ownB_max o) hn (by omega) o.boxes ((hA.below h).more h.size)
  have HM : Hid (∀ w', Below w.heap.size w w' → Byt w' w'.heap.size A' m) := fun w' h => (hA'.below h).more h.size
  have HLX := hide (Bx.length_boxs xs)
  have hsz : Bx.sizes (Bx.boxs xs) ≤ 20160 := f3
  clear hn hn' hA hA' f1 f2 f3 hf hc' hmo
  generalize Bx.boxs xs = L at *
  go_enter Try.func4, Try.ntmps4
  go_wp2_with fail
  refine hF.mono ?_
  rintro e w0 ⟨rfl, rfl⟩
  clear hF
  go_wp2_with fail
  refine HP.out.mono ?_
  rintro e w1 (⟨hev, A1, n1, c1, zs, rfl, o1, hz, g1, b1⟩ | ⟨hev, rfl, b1⟩)
  case' inl =>
    have hzs : Bx.sizes (Bx.boxs zs) ≤ 1000 := by rw [hz, back_sizes m hev]; have := HN'.out; omega
    have hWz := write_calls A1 n1 c1 zs w1 o1.len (ownB_max o1) o1.boxes (by omega)
    rw [hz, (wr_yes (Bx.boxes_right m)).1, (wr_yes (Bx.boxes_right m)).2, Bx.file_even hev] at hWz
    clear hzs hz hev d1 g1 o1
    go_wp2_with fail
    refine hWz.mono ?_
    rintro e V ⟨A2, n2, c2, rfl, o2, g2, b2⟩
    have belV := bnext b1 b2
    have cv1 : Sem.run Try.prog (convert 23 9 (.slice A2 n2 c2)) V = .ok (.string (str m)) V := run_conv8 bytesT Try.underlying9 A2 n2 c2 _ o2.byt o2.1
    have cv2 : Sem.run Try.prog (convert 23 9 (.slice A' n' c')) V = .ok (.string (str m)) V := run_conv8 bytesT Try.underlying9 A' n' c' _ (HM.out _ belV) HN'.out
    generalize str m = SM at *
    clear b1 b2 g2 o2 hWz
    go_wp2_with fail
    clear cv1 cv2
  case' inr =>
    obtain ⟨V, hV⟩ : ∃ V, V = w1 := ⟨_, rfl⟩
    have belV : Below w.heap.size w V := by rw [hV]; exact b1
    clear hev d1
    go_wp2_with fail
    rw [← hV]
    clear hV b1
  all_goals
    refine (HW.out _ belV).mono ?_
    rintro e w3 ⟨A3, n3, c3, rfl, o3, g3, b3⟩
    have bel3 := bnext belV b3
    cases hr : L.all Bx.rightB
    · rw [(wr_no hr).2]
      rw [(wr_no hr).1] at o3
      obtain rfl : n3 = 0 := o3.1
      clear hr
      go_wp2_with fail
      refine (alive16_calls _).mono ?_
      rintro e w4 ⟨rfl, b4⟩
      go_wp2
      go_ret
      exact ⟨rfl, bnext bel3 b4⟩
    · rw [(wr_yes hr).2]
      rw [(wr_yes hr).1] at o3
      have hl3 : n3 ≤ 20160 := by rw [o3.1, Bx.length_file L hr]; exact hsz
      have hpa := parse_calls A3 n3 c3 (Bx.file L) w3 o3.1 (own8_cap o3) (by omega) o3.byt
      go_wp2_with fail
      refine hpa.mono ?_
      rintro e w4 (⟨hev, A4, n4, c4, ys, rfl, o4, hy, g4, b4⟩ | ⟨hev, _⟩)
      · rw [(Bx.boxes_file hr).1] at hy
        have bel4 := bnext bel3 b4
        have hsa := HS.out w4 A4 n4 c4 ys bel4 o4
        rw [hy] at hsa
        have he : decide (L = L) = true := by simp
        rw [he] at hsa
        have HL4 : Hid (n4 = n) := by
          have h1 := o4.len
          have h2 := congrArg List.length hy
          rw [Bx.length_boxs] at h2
          have h3 := HLX.out
          have h4 := HN.out
          show _ = _
          omega
        clear hev he hpa g4
        by_cases hn0 : n = 0
        · have hn4 : n4 = 0 := by rw [HL4.out, hn0]
          subst hn0 hn4
          go_wp2_with fail
          refine hsa.mono ?_
          rintro e w5 ⟨rfl, b5⟩
          go_wp2_with fail
          refine (alive16_calls _).mono ?_
          rintro e w6 ⟨rfl, b6⟩
          go_wp2
          go_ret
          exact ⟨rfl, bnext (bnext bel4 b5) b6⟩
        · have h8 : 8 ≤ n3 := by
            rw [o3.1]
            exact file_len8 hr (by rw [HLX.out, ← HN.out]; omega)
          have hn0' : ((n : Int) == 0) = false := by simpa using hn0
          have hn0d : ¬ (n : Int) = 0 := by omega
          obtain ⟨k, hk⟩ : ∃ k, n3 = k + 1 := ⟨n3 - 1, by omega⟩
          have HO3 := hide o3.1
          have hcap := own8_cap o3
          have HLs := hide (less_even hr (k := k) (by rw [← HO3.out, hk]))
          have HMo := hide (fun (q : Nat) (hq : q < 8) => Bx.even_more hr q hq)
          have ok : Hid (k = ((Bx.file L).take k).length) := by show _ = _; rw [List.length_take, ← HO3.out, hk]; omega
          subst hk
          generalize Bx.file L = FL at *
          have o34 := o3.below b4 o3.lt
          clear o3 b4 b3 o4 hr
          have hs1 : ∀ w', Sem.run Try.prog (Instr.sliceAt 23 (.slice A3 (k + 1) c3) none (some (.int .i64 (k : Int))) none) w' = .ok (.slice A3 k c3) w' := fun w' => run_cut8h bytesT A3 (k + 1) c3 .i64 k _ rfl (by omega) w'
          by_cases hneg : more.tmod 8 < 0
          case' pos =>
            obtain ⟨q, hq⟩ : ∃ q : Nat, - (more.tmod 8) = (q : Int) := ⟨(- (more.tmod 8)).toNat, by omega⟩
          case' neg =>
            obtain ⟨q, hq⟩ : ∃ q : Nat, more.tmod 8 = (q : Int) := ⟨(more.tmod 8).toNat, by omega⟩
          all_goals
            have hq8 : q < 8 := by
              have := Int.tmod_lt_of_pos more (show (0 : Int) < 8 by decide)
              have := Int.lt_tmod_of_pos more (show (0 : Int) < 8 by decide)
              omega
            have HQ := hide hq
            go_wp2_with fail
            refine hsa.mono ?_
            rintro e w5 ⟨rfl, b5⟩
            have o35 := o34.below b5 o34.lt
            have bel5 := bnext bel4 b5
            have hp1 := parse_calls A3 k c3 (FL.take k) w5 ok.out (by omega) (by omega) (o35.byt.take k)
            clear o34 b5 bel4 hsa
            go_wp2_with fail
            refine hp1.mono ?_
            rintro e w6 (⟨hev, _⟩ | ⟨_, rfl, b6⟩)
            · rw [HLs.out] at hev; cases hev
            · have o36 := o35.below b6 o35.lt
              have bel6 := bnext bel5 b6
              have bE : Below w6.heap.size w6 (w6.alloc (.cells #[] 5)) := (Below.refl _ _).alloc (Nat.le_refl _) _
              clear o35 b6 bel5 hp1
              go_wp2_with (first
                | (at_builtin; refine wpList_append8 (by rfl) (.tmp 118) (.tmp 119) 23 5 (by rfl) bytesT _ _ _ [] (by rfl) (Own8.new w6 #[] 5 0 [] rfl rfl (by decide)) _ _ _ _ FL (by rfl) (o36.byt.below bE) HO3.out (by omega) ?_; intro A7 c7 w7 own7 grow7 at7; have F7 := box_app bE grow7 at7 (Nat.le_refl _); simp only [Nat.zero_add, List.nil_append] at own7)
                | (at_builtin; refine wpList_append8z (by rfl) (.tmp 120) (.tmp 121) 23 5 3 (by rfl) bytesT .i64 Try.underlying3 _ _ _ _ (by rfl) own7 .i64 (q : Int) q (by rfl) rfl (by omega) ?_; intro A8 c8 w8 own8 grow8 at8; have F8 := app_nxt own7 F7.1 F7.2 grow8 at8))
              have bel8 := bnext bel6 F8.1
              have hp2 := parse_calls A8 (k + 1 + q) c8 (FL ++ List.replicate q 0) w8 own8.1 (own8_cap own8) (by omega) own8.byt
              have HEv := hide (HMo.out q hq8)
              clear own7 grow7 at7 F7 grow8 at8 F8 own8 bE o36 HQ hq
              refine hp2.mono ?_
              rintro e w9 (⟨hev, A9, n9, c9, us, rfl, _, _, _, b9⟩ | ⟨hev, rfl, b9⟩)
              · rw [HEv.out] at hev
                have hq0 : q = 0 := of_decide_eq_true hev
                subst hq0
                go_wp2_with fail
                refine (alive16_calls _).mono ?_
                rintro e w10 ⟨rfl, b10⟩
                go_wp2
                go_ret
                exact ⟨rfl, bnext (bnext bel8 b9) b10⟩
              · rw [HEv.out] at hev
                have hq0 : q ≠ 0 := of_decide_eq_false hev
                have hqp : (0 : Int) < (q : Int) := by omega
                have hqd : 0 < q := by omega
                clear hev
                go_wp2_with fail
                refine (alive16_calls _).mono ?_
                rintro e w10 ⟨rfl, b10⟩
                go_wp2
                go_ret
                exact ⟨rfl, bnext (bnext bel8 b9) b10⟩
      · rw [(Bx.boxes_file hr).2] at hev; cases hev

theorem boxBack_walk (A : Option Addr) (n c : Nat) (xs : List Bx.Cel) (A' : Option Addr) (n' c' : Nat) (m : List UInt8) (more : Int) (w : World) (hn : n = xs.length) (hm : n ≤ maxLen) (hA : Bx.Boxes w w.heap.size A xs) (_ : ∀ x ∈ xs, x.t.size ≤ maxLen) (hn' : n' = m.length) (hm' : n' ≤ maxLen) (hc' : n' ≤ c') (hA' : Byt w w.heap.size A' m) (hmo : (Lit.int .i64 more).wf = true) :
    Calls Try.prog 4 #[.slice A n c, .slice A' n' c', .int .i64 more] w fun e w' => e = .returned (.bool true) ∧ Below w.heap.size w w' := by
  cases hf : Bx.fits xs
  · exact boxBack_bad A n c xs A' n' c' more w hn hm hA hm' (.inl hf)
  · by_cases h1 : 1000 < n'
    · exact boxBack_bad A n c xs A' n' c' more w hn hm hA hm' (.inr h1)
    · exact boxBack_good A n c xs A' n' c' m more w hn hA hn' hc' hA' hf (by omega) hmo
end Go.Proofs.Ytjofojjinoipaaa
