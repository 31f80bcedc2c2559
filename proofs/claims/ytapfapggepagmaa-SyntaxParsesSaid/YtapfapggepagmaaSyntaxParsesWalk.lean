/- The statement SyntaxParses, walked: it returns true and changes nothing that was there. Conditions: the slices read as bytes. -/
import Derived.Test.YtapfapggepagmaaLaw12Alive
import Derived.Test.YtapfapggepagmaaSynEq
import Derived.Test.YtapfapggepagmaaSynRefHead
namespace Go.Proofs.Ytapfapggepagmaa
open Go.RowKit Kin

set_option maxRecDepth 100000 in
set_option maxHeartbeats 2000000 in
theorem syntaxParses_bad (A : Option Addr) (n c : Nat) (A' : Option Addr) (n' c' : Nat) (W H G : Int) (w : World) (hm : n ≤ 9223372036854775807) (hm' : n' ≤ 9223372036854775807) (h : 100 < n ∨ 100 < n') :
    Calls Try.prog 7 #[.slice A n c, .slice A' n' c', seqV W H G] w fun e w' => e = .returned (.bool true) ∧ Below w.heap.size w w' := by
  have bb0 : Below w.heap.size w (w.alloc (.cells #[.int .i64 W, .int .i64 H, .int .i64 G] 23)) := (Below.refl w.heap.size w).alloc (Nat.le_refl _) _
  by_cases h1 : (100 : Int) < (n : Int)
  case' neg =>
    have h2 : (100 : Int) < (n' : Int) := by omega
    have d1 : decide ((100 : Int) < (n : Int)) = false := by simp; omega
  all_goals
    clear h
    go_enter Try.func7, Try.ntmps7
    go_wp2_with fail
    refine (alive12_calls _).mono ?_
    rintro e w1 ⟨rfl, hb⟩
    go_wp2
    go_ret
    exact ⟨rfl, bnext bb0 hb⟩

set_option maxRecDepth 100000 in
set_option maxHeartbeats 8000000 in
theorem syntaxParses_good (A : Option Addr) (n c : Nat) (l : List UInt8) (A' : Option Addr) (n' c' : Nat) (m : List UInt8) (W H G : Int) (w : World) (hn : n = l.length) (hm : n ≤ 100) (hA : Byt w w.heap.size A l) (hn' : n' = m.length) (hc' : n' ≤ c') (hm' : n' ≤ 100) (hA' : Byt w w.heap.size A' m) :
    Calls Try.prog 7 #[.slice A n c, .slice A' n' c', seqV W H G] w fun e w' => e = .returned (.bool true) ∧ Below w.heap.size w w' := by
  have d1 : decide ((100 : Int) < (n : Int)) = false := by simp; omega
  have d2 : decide ((100 : Int) < (n' : Int)) = false := by simp; omega
  have bb0 : Below w.heap.size w (w.alloc (.cells #[.int .i64 W, .int .i64 H, .int .i64 G] 23)) := (Below.refl w.heap.size w).alloc (Nat.le_refl _) _
  have bS := Blk.new w 23 #[.int .i64 W, .int .i64 H, .int .i64 G]
  have HC1 : Hid (∀ w', Below w.heap.size w w' → Calls Try.prog 17 #[.slice A n c] w' (RetSeq w' (psRW l) (psRH l) (psRG l) (psRE l))) := fun w' h => parseSeq_calls A n c l w' hn (by omega) (hA.below h) h.size
  have HC2 : Hid (∀ w', Below w.heap.size w w' → Calls Try.prog 19 #[.slice A n c] w' (RetSeq w' (psRW l) (psRH l) (psRG l) (psRE l))) := fun w' h => refparseSeq_calls A n c l w' hn (by omega) ((hA.below h).more h.size)
  have HC3 : Hid (∀ w', Below w.heap.size w w' → Calls Try.prog 18 #[.slice A' n' c', seqV W H G] w' (RetHead w' (phRK m W H G) (phRN m W H G) (phRQ m W H G) (phRest m W H G) (phRE m W H G))) := fun w' h => parseHead_calls A' n' c' m W H G w' hn' (by omega) (hA'.below h) h.size
  have HC4 : Hid (∀ w', Below w.heap.size w w' → Calls Try.prog 20 #[.slice A' n' c', seqV W H G] w' (RetHead w' (phRK m W H G) (phRN m W H G) (phRQ m W H G) (phRest m W H G) (phRE m W H G))) := fun w' h => refparseHead_calls A' n' c' m W H G w' hn' hc' (by omega) ((hA'.below h).more h.size)
  clear hn hn' hA hA' hc'
  generalize psRW l = a1 at *
  generalize psRH l = a2 at *
  generalize psRG l = a3 at *
  generalize psRE l = E1 at *
  generalize phRK m W H G = K at *
  generalize phRN m W H G = N at *
  generalize phRQ m W H G = Q at *
  generalize phRest m W H G = R at *
  generalize phRE m W H G = E2 at *
  go_enter Try.func7, Try.ntmps7
  go_wp2_with fail
  generalize w.alloc (.cells #[.int .i64 W, .int .i64 H, .int .i64 G] 23) = W0 at *
  refine (HC1.out _ bb0).mono ?_
  rintro e w1 ⟨rfl, b1⟩
  have bX := (Below.refl w1.heap.size w1).alloc (Nat.le_refl _) (.cells #[.int .i64 a1, .int .i64 a2, .int .i64 a3] 23)
  have kx := Blk.new w1 23 #[.int .i64 a1, .int .i64 a2, .int .i64 a3]
  have bel1 := bnext (bnext bb0 b1) bX
  have bS1 := (bS.below b1 bS.lt).below bX (bS.below b1 bS.lt).lt
  clear d1 d2 bS b1 bX HC1
  go_wp2_with fail
  generalize w1.alloc (.cells #[.int .i64 a1, .int .i64 a2, .int .i64 a3] 23) = W1 at *
  refine (HC2.out _ bel1).mono ?_
  rintro e w2 ⟨rfl, b2⟩
  have bX := (Below.refl w2.heap.size w2).alloc (Nat.le_refl _) (.cells #[.int .i64 a1, .int .i64 a2, .int .i64 a3] 23)
  have ky := Blk.new w2 23 #[.int .i64 a1, .int .i64 a2, .int .i64 a3]
  have b2X := bnext b2 bX
  have bel2 := bnext bel1 b2X
  have bS2 := bS1.below b2X bS1.lt
  have kx2 := kx.below b2X kx.lt
  obtain ⟨s0, s1, s2⟩ := seq_cells' bS2
  clear bS1 b2 bX HC2 kx bel1 b2X
  go_wp2_with fail
  generalize w2.alloc (.cells #[.int .i64 a1, .int .i64 a2, .int .i64 a3] 23) = W2 at *
  refine (HC3.out _ bel2).mono ?_
  rintro e w3 ⟨A3, n3, c3, rfl, o3, g3, b3⟩
  have bX := (Below.refl w3.heap.size w3).alloc (Nat.le_refl _) (.cells #[.bool K, .int .i64 N, .int .i64 Q] 25)
  have kh := Blk.new w3 25 #[.bool K, .int .i64 N, .int .i64 Q]
  have b3X := bnext b3 bX
  have bel3 := bnext bel2 b3X
  have bS3 := bS2.below b3X bS2.lt
  have kx3 := kx2.below b3X kx2.lt
  have ky3 := ky.below b3X ky.lt
  have o33 := o3.below bX o3.lt
  clear s0 s1 s2
  obtain ⟨s0, s1, s2⟩ := seq_cells' bS3
  clear bS2 b3 bX HC3 kx2 ky bel2 b3X o3 g3
  go_wp2_with fail
  generalize w3.alloc (.cells #[.bool K, .int .i64 N, .int .i64 Q] 25) = W3 at *
  refine (HC4.out _ bel3).mono ?_
  rintro e w4 ⟨A4, n4, c4, rfl, o4, g4, b4⟩
  have bX := (Below.refl w4.heap.size w4).alloc (Nat.le_refl _) (.cells #[.bool K, .int .i64 N, .int .i64 Q] 25)
  have kk := Blk.new w4 25 #[.bool K, .int .i64 N, .int .i64 Q]
  have b4X := bnext b4 bX
  have bel4 := bnext bel3 b4X
  have kx4 := kx3.below b4X kx3.lt
  have ky4 := ky3.below b4X ky3.lt
  have kh4 := kh.below b4X kh.lt
  have o34 := o33.below b4X o33.lt
  have o44 := o4.below bX o4.lt
  clear s0 s1 s2 bS3 b4 bX HC4 kx3 ky3 kh bel3 b4X o4 g4 o33
  go_wp2_with fail
  generalize w4.alloc (.cells #[.bool K, .int .i64 N, .int .i64 Q] 25) = W4 at *
  refine (alive12_calls _).mono ?_
  rintro e w5 ⟨rfl, b5⟩
  have bel5 := bnext bel4 b5
  obtain ⟨p0, p1, p2⟩ := seq_cells' (kx4.below b5 kx4.lt)
  obtain ⟨q0, q1, q2⟩ := seq_cells' (ky4.below b5 ky4.lt)
  obtain ⟨t0, t1, t2⟩ := seq_cells' (kh4.below b5 kh4.lt)
  obtain ⟨u0, u1, u2⟩ := seq_cells' (kk.below b5 kk.lt)
  have o35 := o34.below b5 o34.lt
  have o45 := o44.below b5 o44.lt
  have hs := seq_eq a1 a2 a3 a1 a2 a3
  have e1 : (a1 == a1 && a2 == a2 && a3 == a3) = true := by simp
  rw [e1] at hs
  have hh := head_eq K N Q K N Q
  have e2 : (K == K && N == N && Q == Q) = true := by simp
  rw [e2] at hh
  have e3 : (E1 == E1) = true := by simp
  have e4 : (E2 == E2) = true := by simp
  have cv1 : Sem.run Try.prog (convert 26 9 (.slice A3 n3 c3)) w5 = .ok (.string (str R)) w5 := run_conv8 bytesT Try.underlying9 A3 n3 c3 _ o35.byt o35.1
  have cv2 : Sem.run Try.prog (convert 26 9 (.slice A4 n4 c4)) w5 = .ok (.string (str R)) w5 := run_conv8 bytesT Try.underlying9 A4 n4 c4 _ o45.byt o45.1
  have e5 : ((str R).toList == (str R).toList) = true := by simp
  generalize str R = SR at *
  clear kx4 ky4 kh4 kk o34 o44 o35 o45 bel4 b5
  go_wp2
  go_ret
  exact ⟨rfl, bel5⟩

theorem syntaxParses_walk (A : Option Addr) (n c : Nat) (l : List UInt8) (A' : Option Addr) (n' c' : Nat) (m : List UInt8) (W H G : Int) (w : World) (hn : n = l.length) (hm : n ≤ maxLen) (_ : n ≤ c) (hA : Byt w w.heap.size A l) (hn' : n' = m.length) (hm' : n' ≤ maxLen) (hc' : n' ≤ c') (hA' : Byt w w.heap.size A' m) :
    Calls Try.prog 7 #[.slice A n c, .slice A' n' c', seqV W H G] w fun e w' => e = .returned (.bool true) ∧ Below w.heap.size w w' := by
  by_cases h : 100 < n ∨ 100 < n'
  · exact syntaxParses_bad A n c A' n' c' W H G w (Nat.le_trans hm (by decide)) (Nat.le_trans hm' (by decide)) h
  · exact syntaxParses_good A n c l A' n' c' m W H G w hn (by omega) hA hn' hc' (by omega) hA'
end Go.Proofs.Ytapfapggepagmaa
