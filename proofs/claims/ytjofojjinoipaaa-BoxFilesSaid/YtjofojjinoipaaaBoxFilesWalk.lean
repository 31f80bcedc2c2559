/- The statement BoxFiles, walked: it returns true and changes nothing that was there. Conditions: the slices read as boxes, as bytes. -/
import Derived.Test.YtjofojjinoipaaaBoxTwo
namespace Go.Proofs.Ytjofojjinoipaaa
open Go.RowKit Kin

set_option maxRecDepth 100000 in
set_option maxHeartbeats 4000000 in
theorem boxFiles_bad (A : Option Addr) (n c : Nat) (xs : List Bx.Cel) (A' : Option Addr) (n' c' : Nat) (kind : ByteArray) (w : World) (hn : n = xs.length) (hm : n ≤ maxLen) (hA : Bx.Boxes w w.heap.size A xs) (hm' : n' ≤ maxLen) (h : Bx.fits xs = false ∨ 1000 < n' ∨ 1000 < kind.size) :
    Calls Try.prog 3 #[.slice A n c, .slice A' n' c', .string kind] w fun e w' => e = .returned (.bool true) ∧ Below w.heap.size w w' := by
  unfold maxLen at hm hm'
  have hF := fits_calls A n c xs w hn hm hA
  have hal := alive16_calls w
  clear hn
  cases hq : Bx.fits xs
  · rw [hq] at hF
    clear hq h hA
    go_enter Try.func3, Try.ntmps3
    go_wp2_with fail
    refine hF.mono ?_
    rintro e w0 ⟨rfl, rfl⟩
    go_wp2_with fail
    refine hal.mono ?_
    rintro e w1 ⟨rfl, b1⟩
    go_wp2
    go_ret
    exact ⟨rfl, b1⟩
  · have h2 : 1000 < n' ∨ 1000 < kind.size := by
      rcases h with h | h
      · rw [h] at hq; cases hq
      · exact h
    rw [hq] at hF
    have h3 : (1000 : Int) < (n' : Int) ∨ (1000 : Int) < (kind.size : Int) := by omega
    clear hq h hA
    go_enter Try.func3, Try.ntmps3
    by_cases h4 : (1000 : Int) < (n' : Int)
    · clear h2 h3
      go_wp2_with fail
      refine hF.mono ?_
      rintro e w0 ⟨rfl, rfl⟩
      go_wp2_with fail
      refine hal.mono ?_
      rintro e w1 ⟨rfl, b1⟩
      go_wp2
      go_ret
      exact ⟨rfl, b1⟩
    · have h5 : (1000 : Int) < (kind.size : Int) := by omega
      have h6 : decide ((1000 : Int) < (n' : Int)) = false := by simp; omega
      clear h2 h3
      go_wp2_with fail
      refine hF.mono ?_
      rintro e w0 ⟨rfl, rfl⟩
      go_wp2_with fail
      refine hal.mono ?_
      rintro e w1 ⟨rfl, b1⟩
      go_wp2
      go_ret
      exact ⟨rfl, b1⟩

set_option maxRecDepth 100000 in
set_option maxHeartbeats 8000000 in
theorem boxFiles_good (A : Option Addr) (n c : Nat) (xs : List Bx.Cel) (A' : Option Addr) (n' c' : Nat) (m : List UInt8) (kind : ByteArray) (w : World) (hn : n = xs.length) (hA : Bx.Boxes w w.heap.size A xs) (hn' : n' = m.length) (hc' : n' ≤ c') (hA' : Byt w w.heap.size A' m) (hf : Bx.fits xs = true) (hl : n' ≤ 1000) (hk : kind.size ≤ 1000) :
    Calls Try.prog 3 #[.slice A n c, .slice A' n' c', .string kind] w fun e w' => e = .returned (.bool true) ∧ Below w.heap.size w w' := by
  obtain ⟨f1, f2, f3⟩ := fits_sizes hf hA
  have HN := hide hn
  have HN' := hide hn'
  have hn20 : n ≤ 20 := by rw [hn]; exact f1
  have hF := fits_calls A n c xs w hn (by omega) hA
  rw [hf] at hF
  have d1 : decide ((1000 : Int) < (n' : Int)) = false := by simp; omega
  have d2 : decide ((1000 : Int) < (kind.size : Int)) = false := by simp; omega
  have hW := write_calls A n c xs w hn (by omega) hA (by omega)
  have HR : Hid (∀ w', Below w.heap.size w w' → Calls Try.prog 10 #[.slice A n c] w' (RetBE w' (wrL (Bx.boxs xs)) (wrE (Bx.boxs xs)))) := fun w' h => refwrite_calls A n c xs w' hn (by omega) ((hA.below h).more h.size) (by omega) (fun x hx => by have := (f2 x hx).2; omega)
  have HP : Hid (∀ w', Below w.heap.size w w' → Calls Try.prog 11 #[.slice A' n' c'] w' (RetPa w' (paL m) (paE m))) := fun w' h => pa_calls A' n' c' m w' hn' hc' (by omega) ((hA'.below h).more h.size)
  have HQ : Hid (∀ w', Below w.heap.size w w' → Calls Try.prog 12 #[.slice A' n' c'] w' (RetPa w' (paL m) (paE m))) := fun w' h => refpa_calls A' n' c' m w' hn' hc' (by omega) ((hA'.below h).more h.size)
  have HFi : Hid (∀ w', Below w.heap.size w w' → Calls Try.prog 13 #[.slice A n c, .string kind] w' (RetFind w' (Bx.boxs xs) kind)) := fun w' h => find_calls A n c xs kind w' hn (by omega) ((hA.below h).more h.size) (fun x hx => by have := (f2 x hx).1; omega)
  have HRf : Hid (∀ w', Below w.heap.size w w' → Calls Try.prog 14 #[.slice A n c, .string kind] w' (RetFind w' (Bx.boxs xs) kind)) := fun w' h => reffind_calls A n c xs kind w' hn (by omega) ((hA.below h).more h.size)
  have HK : Hid (∀ w', Below w.heap.size w w' → Calls Try.prog 15 #[.slice A n c] w' fun e w'' => ∃ A' n' c', e = .returned (.slice A' n' c') ∧ OwnR w'' 9 1 A' n' c' (xs.map kindRow) ∧ (∀ g, blkOf A' = some g → w'.heap.size ≤ g) ∧ Below w'.heap.size w' w'') := fun w' h => kinds_calls A n c xs w' hn (by omega) ((hA.below h).more h.size)
  have HA := hide hA
  clear hn hn' hA hA' f1 f2 f3 hf hc'
  generalize wrL (Bx.boxs xs) = WL at *
  generalize wrE (Bx.boxs xs) = WE at *
  generalize paL m = PL at *
  generalize paE m = PE at *
  generalize hFD : Bx.find (Bx.boxs xs) kind = FD at *
  go_enter Try.func3, Try.ntmps3
  go_wp2_with fail
  refine hF.mono ?_
  rintro e w0 ⟨rfl, rfl⟩
  clear hF
  go_wp2_with fail
  refine hW.mono ?_
  rintro e w1 ⟨A1, n1, c1, rfl, o1, g1, b1⟩
  clear hW d1 d2
  go_wp2_with fail
  refine (HR.out _ b1).mono ?_
  rintro e w2 ⟨A2, n2, c2, rfl, o2, g2, b2⟩
  have o12 := o1.below b2 o1.lt
  have bel2 := bnext b1 b2
  clear o1 b1 b2 HR
  go_wp2_with fail
  refine (HP.out _ bel2).mono ?_
  rintro e w3 ⟨A3, n3, c3, ys, rfl, o3, hy, g3, b3⟩
  have o13 := o12.below b3 o12.lt
  have o23 := o2.below b3 o2.lt
  have bel3 := bnext bel2 b3
  clear o12 o2 bel2 b3 HP
  go_wp2_with fail
  refine (HQ.out _ bel3).mono ?_
  rintro e w4 ⟨A4, n4, c4, zs, rfl, o4, hz, g4, b4⟩
  have o14 := o13.below b4 o13.lt
  have o24 := o23.below b4 o23.lt
  have o34 := o3.next b4
  have bel4 := bnext bel3 b4
  clear o13 o23 o3 bel3 b4 HQ
  go_wp2_with fail
  refine (HFi.out _ bel4).mono ?_
  rintro e w5 ⟨A5, n5, c5, rfl, hn5, y5, b5⟩
  rw [hFD] at hn5 y5 ⊢
  have o15 := o14.below b5 o14.lt
  have o25 := o24.below b5 o24.lt
  have o35 := o34.next b5
  have o45 := o4.next b5
  have bel5 := bnext bel4 b5
  have HN5 := hide hn5
  clear o14 o24 o34 o4 bel4 b5 HFi hn5
  go_wp2_with fail
  refine (HRf.out _ bel5).mono ?_
  rintro e w6 ⟨A6, n6, c6, rfl, hn6, y6, b6⟩
  rw [hFD] at hn6 y6 ⊢
  have o16 := o15.below b6 o15.lt
  have o26 := o25.below b6 o25.lt
  have o36 := o35.next b6
  have o46 := o45.next b6
  have y56 := (y5.below b6).more b6.size
  have bel6 := bnext bel5 b6
  have HN6 := hide hn6
  clear o15 o25 o35 o45 y5 bel5 b6 HRf hn6
  go_wp2_with fail
  refine (HK.out _ bel6).mono ?_
  rintro e w7 ⟨A7, n7, c7, rfl, o7, g7, b7⟩
  have o17 := o16.below b7 o16.lt
  have o27 := o26.below b7 o26.lt
  have o37 := o36.next b7
  have o47 := o46.next b7
  have y57 := (y56.below b7).more b7.size
  have y67 := (y6.below b7).more b7.size
  have bel7 := bnext bel6 b7
  have hn7 : n7 = n := by rw [o7.1, List.length_map, ← HN.out]
  subst hn7
  clear o16 o26 o36 o46 y56 y6 bel6 b7 HK hFD
  go_wp2
  go_loopw [21] (fun iv wr => ∃ k : Nat, k ≤ n7 ∧ iv = .int .i64 (k : Int) ∧ Below w7.heap.size w7 wr) (fun iv _ => n7 - (intOf iv).toNat)
  case atStart => exact ⟨0, by omega, rfl, Below.refl _ _⟩
  case round =>
    obtain ⟨k, hk7, rfl, bb⟩ := hrel
    by_cases hlt : k < n7
    · have hkx : k < xs.length := by rw [← HN.out]; exact hlt
      obtain ⟨b, off, rfl, hb, q0, _, _⟩ := (HA.out.below (bel7.trans (bb.mono bel7.size))).at_ hkx
      obtain ⟨g8, r, rfl, hr, hrl, hc⟩ := (o7.next bb).at_ hlt
      rw [List.getElem?_map, List.getElem?_eq_getElem hkx] at hr
      injection hr with hr
      subst hr
      have q1 : wr.cell? ⟨g8, k, none⟩ = some (.string xs[k].t) := by
        have := hc 0 _ rfl
        simpa using this
      generalize xs[k].t = t at *
      have i0 : (0 : Int) ≤ (k : Int) := by omega
      have i1 : (k : Int) < (n7 : Int) := by omega
      have e1 : ((n7 : Int) != (n7 : Int)) = false := by simp
      have e2 : (t.toList != t.toList) = false := by simp
      clear hc
      go_wp2_with fail
      go_quiet (fail)
      have b9 := bnext bb (dN _ nq)
      go_wp2
      go_roundw
      case rel => exact ⟨k + 1, by omega, by go_num, b9⟩
      case measure => simp [intOf]; omega
    · obtain rfl : n7 = k := by omega
      have p1 := (o17.below bb o17.lt)
      have p2 := (o27.below bb o27.lt)
      have p3 := o37.next bb
      have p4 := o47.next bb
      have p5 := (y57.below bb).more bb.size
      have p6 := (y67.below bb).more bb.size
      have bel8 := bnext bel7 bb
      clear o17 o27 o37 o47 y57 y67 bel7 o7 hlt
      go_wp2_with fail
      refine (alive16_calls _).mono ?_
      rintro e w9 ⟨rfl, b9⟩
      have q1 := (p1.below b9 p1.lt)
      have q2 := (p2.below b9 p2.lt)
      have q3 := p3.next b9
      have q4 := p4.next b9
      have q5 := (p5.below b9).more b9.size
      have q6 := (p6.below b9).more b9.size
      have bel9 := bnext bel8 b9
      have cv1 : Sem.run Try.prog (convert 23 9 (.slice A1 n1 c1)) w9 = .ok (.string (str WL)) w9 := run_conv8 bytesT Try.underlying9 A1 n1 c1 _ q1.byt q1.1
      have cv2 : Sem.run Try.prog (convert 23 9 (.slice A2 n2 c2)) w9 = .ok (.string (str WL)) w9 := run_conv8 bytesT Try.underlying9 A2 n2 c2 _ q2.byt q2.1
      have hsa := same_calls A3 A4 n3 c3 n4 c4 ys zs w9 q3.len (ownB_max q3) q4.len (ownB_max q4) q3.boxes q4.boxes
      have cv5 : ∀ w', Below w9.heap.size w9 w' → Sem.run Try.prog (convert 23 9 (.slice A5 n5 c5)) w' = .ok (.string (str FD.1)) w' := fun w' h => run_conv8 bytesT Try.underlying9 A5 n5 c5 _ (q5.below h) HN5.out
      have cv6 : ∀ w', Below w9.heap.size w9 w' → Sem.run Try.prog (convert 23 9 (.slice A6 n6 c6)) w' = .ok (.string (str FD.1)) w' := fun w' h => run_conv8 bytesT Try.underlying9 A6 n6 c6 _ (q6.below h) HN6.out
      rw [hy, hz] at hsa
      have he : decide (PL = PL) = true := by simp
      rw [he] at hsa
      have s1 : ((str WL).toList == (str WL).toList) = true := by simp
      have s2 : (WE == WE) = true := by simp
      have s3 : (PE == PE) = true := by simp
      have s4 : ((str FD.1).toList == (str FD.1).toList) = true := by simp
      have s5 : (FD.2 == FD.2) = true := by simp
      have HC5 := hide cv5
      have HC6 := hide cv6
      clear cv5 cv6 he p1 p2 p3 p4 p5 p6 bel8 q1 q2 q5 q6
      generalize str WL = SW at *
      generalize str FD.1 = SF at *
      generalize FD.2 = FB at *
      go_wp2_with fail
      refine hsa.mono ?_
      rintro e w10 ⟨rfl, b10⟩
      have cv5 := HC5.out _ b10
      have cv6 := HC6.out _ b10
      go_wp2
      go_ret
      exact ⟨rfl, bnext bel9 b10⟩

theorem boxFiles_walk (A : Option Addr) (n c : Nat) (xs : List Bx.Cel) (A' : Option Addr) (n' c' : Nat) (m : List UInt8) (kind : ByteArray) (w : World) (hn : n = xs.length) (hm : n ≤ maxLen) (hA : Bx.Boxes w w.heap.size A xs) (_ : ∀ x ∈ xs, x.t.size ≤ maxLen) (hn' : n' = m.length) (hm' : n' ≤ maxLen) (hc' : n' ≤ c') (hA' : Byt w w.heap.size A' m) (_ : kind.size ≤ maxLen) :
    Calls Try.prog 3 #[.slice A n c, .slice A' n' c', .string kind] w fun e w' => e = .returned (.bool true) ∧ Below w.heap.size w w' := by
  cases hf : Bx.fits xs
  · exact boxFiles_bad A n c xs A' n' c' kind w hn hm hA hm' (.inl hf)
  · by_cases h1 : 1000 < n'
    · exact boxFiles_bad A n c xs A' n' c' kind w hn hm hA hm' (.inr (.inl h1))
    · by_cases h2 : 1000 < kind.size
      · exact boxFiles_bad A n c xs A' n' c' kind w hn hm hA hm' (.inr (.inr h2))
      · exact boxFiles_good A n c xs A' n' c' m kind w hn hA hn' hc' hA' hf (by omega) (by omega)
end Go.Proofs.Ytjofojjinoipaaa
