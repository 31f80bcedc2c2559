/- The statement SyntaxApart, walked: it returns true and changes nothing that was there. No conditions. -/
import Derived.Test.YtapfapggepagmaaLaw12Alive
import Derived.Test.YtapfapggepagmaaSynEq
import Derived.Test.YtapfapggepagmaaSynPlain2
import Derived.Test.YtapfapggepagmaaConv
import Derived.Test.YtapfapggepagmaaCut
import Derived.WalkLawsBesides
import Derived.WalkSpells
import Derived.BigQuiet
import Derived.Deep.QuietTactic
namespace Go.Proofs.Ytapfapggepagmaa
open Go.RowKit Kin

theorem str_beq (X Y : List UInt8) (p : Prop) [Decidable p] (h : X = Y ↔ p) : ((str X).toList == (str Y).toList) = decide p := by
  rw [str_toList, str_toList]
  by_cases hp : p
  · rw [decide_eq_true hp, h.2 hp]; simp
  · rw [decide_eq_false hp]
    simpa using fun e => hp (h.1 e)
theorem own_cap {w : World} {e : TypeId} {A : Option Addr} {n c : Nat} {l : List UInt8} (h : Own8 w e A n c l) : n ≤ c := by
  rcases h.2.2 with ⟨hv, _⟩ | ⟨g, cap, cur, hv, _, _, h1, _⟩
  · injection hv with _ h2 h3; omega
  · injection hv with _ _ h3; omega
theorem headE_cases (K : Bool) (N Q W H G : Int) : (Syn.fitsB K N Q W H G = true ∧ (Syn.headE K N Q W H G == 0) = true) ∨ (Syn.headE K N Q W H G == 0) = false := by
  cases h : Syn.fitsB K N Q W H G
  · right; rw [Syn.headE_no h]; rfl
  · left; rw [Syn.headE_yes h]; exact ⟨rfl, rfl⟩
theorem seqE_cases (W H G : Int) : (Syn.rightB W H G = true ∧ (Syn.seqE W H G == 0) = true) ∨ (Syn.seqE W H G == 0) = false := by
  cases h : Syn.rightB W H G
  · right; rw [Syn.seqE_no h]; rfl
  · left; rw [Syn.seqE_yes h]; exact ⟨rfl, rfl⟩
theorem three_and (a b : Bool) (c d e f : Int) : (a == b && c == d && e == f) = decide (a = b ∧ c = d ∧ e = f) := by
  cases a <;> cases b <;> by_cases h1 : c = d <;> by_cases h2 : e = f <;> simp [h1, h2]
theorem three_int (a b c d e f : Int) : (a == b && c == d && e == f) = decide (a = b ∧ c = d ∧ e = f) := by
  by_cases h0 : a = b <;> by_cases h1 : c = d <;> by_cases h2 : e = f <;> simp [h0, h1, h2]

set_option maxRecDepth 100000 in
set_option maxHeartbeats 8000000 in
theorem syntaxApart_walk (W H G W' H' G' : Int) (K : Bool) (N Q : Int) (K' : Bool) (N' Q' : Int) (w : World) :
    Calls Try.prog 4 #[.agg #[.int .i64 W, .int .i64 H, .int .i64 G, .int .i64 W', .int .i64 H', .int .i64 G'], headV K N Q, headV K' N' Q'] w fun e w' => e = .returned (.bool true) ∧ Below w.heap.size w w' := by
  have bb0 : Below w.heap.size w (((w.alloc (.cells #[.int .i64 W, .int .i64 H, .int .i64 G, .int .i64 W', .int .i64 H', .int .i64 G'] 35)).alloc (.cells #[.bool K, .int .i64 N, .int .i64 Q] 25)).alloc (.cells #[.bool K', .int .i64 N', .int .i64 Q'] 25)) := (((Below.refl w.heap.size w).alloc (Nat.le_refl _) _).alloc (by simp) _).alloc (by simp; omega) _
  have bS := ((Blk.new w 35 #[.int .i64 W, .int .i64 H, .int .i64 G, .int .i64 W', .int .i64 H', .int .i64 G']).alloc (.cells #[.bool K, .int .i64 N, .int .i64 Q] 25)).alloc (.cells #[.bool K', .int .i64 N', .int .i64 Q'] 25)
  have bA := (Blk.new (w.alloc (.cells #[.int .i64 W, .int .i64 H, .int .i64 G, .int .i64 W', .int .i64 H', .int .i64 G'] 35)) 25 #[.bool K, .int .i64 N, .int .i64 Q]).alloc (.cells #[.bool K', .int .i64 N', .int .i64 Q'] 25)
  have bB := Blk.new ((w.alloc (.cells #[.int .i64 W, .int .i64 H, .int .i64 G, .int .i64 W', .int .i64 H', .int .i64 G'] 35)).alloc (.cells #[.bool K, .int .i64 N, .int .i64 Q] 25)) 25 #[.bool K', .int .i64 N', .int .i64 Q']
  rw [World.size_alloc] at bA
  rw [World.size_alloc, World.size_alloc] at bB
  have H1 := hide (head_calls K N Q W H G)
  have H2 := hide (head_calls K' N' Q' W H G)
  have H3 := hide (seq_calls W H G)
  have H4 := hide (seq_calls W' H' G')
  go_enter Try.func4, Try.ntmps4
  go_wp2_with fail
  generalize ((w.alloc (.cells #[.int .i64 W, .int .i64 H, .int .i64 G, .int .i64 W', .int .i64 H', .int .i64 G'] 35)).alloc (.cells #[.bool K, .int .i64 N, .int .i64 Q] 25)).alloc (.cells #[.bool K', .int .i64 N', .int .i64 Q'] 25) = W0 at *
  refine (H1.out _).mono ?_
  rintro e w1 ⟨A1, n1, c1, rfl, o1, g1, b1⟩
  have bS1 := bS.below b1 bS.lt
  have bA1 := bA.below b1 bA.lt
  have bB1 := bB.below b1 bB.lt
  have s0 : w1.cell? ⟨w.heap.size, 0, none⟩ = some (.int .i64 W) := bS1.cell 0
  have s1 : w1.cell? ⟨w.heap.size, 1, none⟩ = some (.int .i64 H) := bS1.cell 1
  have s2 : w1.cell? ⟨w.heap.size, 2, none⟩ = some (.int .i64 G) := bS1.cell 2
  have t0 : w1.cell? ⟨w.heap.size + 1 + 1, 0, none⟩ = some (.bool K') := bB1.cell 0
  have t1 : w1.cell? ⟨w.heap.size + 1 + 1, 1, none⟩ = some (.int .i64 N') := bB1.cell 1
  have t2 : w1.cell? ⟨w.heap.size + 1 + 1, 2, none⟩ = some (.int .i64 Q') := bB1.cell 2
  go_wp2_with fail
  refine (H2.out _).mono ?_
  rintro e w2 ⟨A2, n2, c2, rfl, o2, g2, b2⟩
  have bS2 := bS1.below b2 bS1.lt
  have bA2 := bA1.below b2 bA1.lt
  have bB2 := bB1.below b2 bB1.lt
  have s0 : w2.cell? ⟨w.heap.size, 0, none⟩ = some (.int .i64 W) := bS2.cell 0
  have s1 : w2.cell? ⟨w.heap.size, 1, none⟩ = some (.int .i64 H) := bS2.cell 1
  have s2 : w2.cell? ⟨w.heap.size, 2, none⟩ = some (.int .i64 G) := bS2.cell 2
  have o12 := o1.below b2 o1.lt
  clear o1 bS1 bA1 bB1 t0 t1 t2
  go_wp2_with fail
  refine (H3.out _).mono ?_
  rintro e w3 ⟨A3, n3, c3, rfl, o3, g3, b3⟩
  have bS3 := bS2.below b3 bS2.lt
  have bA3 := bA2.below b3 bA2.lt
  have bB3 := bB2.below b3 bB2.lt
  have s0 : w3.cell? ⟨w.heap.size, 3, none⟩ = some (.int .i64 W') := bS3.cell 3
  have s1 : w3.cell? ⟨w.heap.size, 4, none⟩ = some (.int .i64 H') := bS3.cell 4
  have s2 : w3.cell? ⟨w.heap.size, 5, none⟩ = some (.int .i64 G') := bS3.cell 5
  have o13 := o12.below b3 o12.lt
  have o23 := o2.below b3 o2.lt
  clear o12 o2 bS2 bA2 bB2
  go_wp2_with fail
  refine (H4.out _).mono ?_
  rintro e w4 ⟨A4, n4, c4, rfl, o4, g4, b4⟩
  have bS4 := bS3.below b4 bS3.lt
  have bA4 := bA3.below b4 bA3.lt
  have bB4 := bB3.below b4 bB3.lt
  have o14 := o13.below b4 o13.lt
  have o24 := o23.below b4 o23.lt
  have o34 := o3.below b4 o3.lt
  have bel : Below w.heap.size w w4 := bb0.trans ((bnext (bnext (bnext b1 b2) b3) b4).mono bb0.size)
  clear o13 o23 o3 bS3 bA3 bB3 b1 b2 b3 b4 g1 g2 g3 g4 s0 s1 s2 bb0 bS bA bB H1 H2 H3 H4
  have heq := head_eq K N Q K' N' Q'
  have hse := seq_eq W H G W' H' G'
  have HX1 := hide (headE_cases K N Q W H G)
  have HX2 := hide (headE_cases K' N' Q' W H G)
  have HX3 := hide (seqE_cases W H G)
  have HX4 := hide (seqE_cases W' H' G')
  have HAP : Hid (∀ n, Syn.fitsB K N Q W H G = true → Syn.fitsB K' N' Q' W H G = true → n = min (Syn.headL K N Q W H G).length (Syn.headL K' N' Q' W H G).length → 0 < n ∧ ((Syn.headL K N Q W H G).take n = (Syn.headL K' N' Q' W H G).take n ↔ K = K' ∧ N = N' ∧ Q = Q')) := fun n h1 h2 h3 => Syn.head_apart h1 h2 h3
  have HAQ : Hid (∀ n, Syn.rightB W H G = true → Syn.rightB W' H' G' = true → n = min (Syn.seqL W H G).length (Syn.seqL W' H' G').length → 3 ≤ n ∧ ((Syn.seqL W H G).take n = (Syn.seqL W' H' G').take n ↔ W = W' ∧ H = H' ∧ G = G')) := fun n h1 h2 h3 => Syn.seq_apart h1 h2 h3
  generalize Syn.headE K N Q W H G = E1 at *
  generalize Syn.headE K' N' Q' W H G = E2 at *
  generalize Syn.seqE W H G = E3 at *
  generalize Syn.seqE W' H' G' = E4 at *
  generalize Syn.headL K N Q W H G = L1 at *
  generalize Syn.headL K' N' Q' W H G = L2 at *
  generalize Syn.seqL W H G = L3 at *
  generalize Syn.seqL W' H' G' = L4 at *
  have hcase : (Syn.fitsB K N Q W H G = true ∧ (E1 == 0) = true ∧ Syn.fitsB K' N' Q' W H G = true ∧ (E2 == 0) = true) ∨ (E1 == 0) = false ∨ ((E1 == 0) = true ∧ (E2 == 0) = false) := by
    rcases HX1.out with ⟨a, b⟩ | a
    · rcases HX2.out with ⟨c, d⟩ | c
      · exact .inl ⟨a, b, c, d⟩
      · exact .inr (.inr ⟨b, c⟩)
    · exact .inr (.inl a)
  clear HX1 HX2
  rcases hcase with ⟨f1, f2, f3, f4⟩ | h | ⟨h, h'⟩
  case' inl =>
    obtain ⟨n, hn⟩ : ∃ n, n = min L1.length L2.length := ⟨_, rfl⟩
    obtain ⟨hn0, hiff⟩ := HAP.out n f1 f3 hn
    have HMN : Hid (min (n1 : Int) (n2 : Int) = (n : Int)) := by show _ = _; have := o14.1; have := o24.1; omega
    have hq0 : ((n : Int) == 0) = false := by simp; omega
    have hsl1 := run_cut8h bytesT A1 n1 c1 .i64 n n rfl (by have := own_cap o14; have := o14.1; omega)
    have hsl2 := run_cut8h bytesT A2 n2 c2 .i64 n n rfl (by have := own_cap o24; have := o24.1; omega)
    have cv1 : ∀ k, Sem.run Try.prog (convert 26 9 (.slice A1 n c1)) (w4.drewN k) = .ok (.string (str (L1.take n))) (w4.drewN k) := fun k => run_conv8 bytesT Try.underlying9 A1 n c1 _ ((o14.byt.drewN k).take n) (by rw [List.length_take]; omega)
    have cv2 : ∀ k, Sem.run Try.prog (convert 26 9 (.slice A2 n c2)) (w4.drewN k) = .ok (.string (str (L2.take n))) (w4.drewN k) := fun k => run_conv8 bytesT Try.underlying9 A2 n c2 _ ((o24.byt.drewN k).take n) (by rw [List.length_take]; omega)
    have hq1 := str_beq _ _ _ hiff
    rw [three_and] at heq
    generalize decide (K = K' ∧ N = N' ∧ Q = Q') = bb at *
    have a0 : w4.cell? ⟨w.heap.size + 1, 0, none⟩ = some (.bool K) := bA4.cell 0
    have a1 : w4.cell? ⟨w.heap.size + 1, 1, none⟩ = some (.int .i64 N) := bA4.cell 1
    have a2 : w4.cell? ⟨w.heap.size + 1, 2, none⟩ = some (.int .i64 Q) := bA4.cell 2
    have t0 : w4.cell? ⟨w.heap.size + 1 + 1, 0, none⟩ = some (.bool K') := bB4.cell 0
    have t1 : w4.cell? ⟨w.heap.size + 1 + 1, 1, none⟩ = some (.int .i64 N') := bB4.cell 1
    have t2 : w4.cell? ⟨w.heap.size + 1 + 1, 2, none⟩ = some (.int .i64 Q') := bB4.cell 2
    clear f1 f3 hn hiff HAP
    generalize str (L1.take n) = M1 at *
    generalize str (L2.take n) = M2 at *
    cases bb
    all_goals
      go_wp2
      rw [HMN.out]
      go_quiet (fail)
      have bS5 := bS4.drewN nq
      have o35 := o34.drewN nq
      have o45 := o4.drewN nq
      have bel5 := bel.trans ((dN _ nq).mono bel.size)
      clear a0 a1 a2 t0 t1 t2 cv1 cv2 hsl1 hsl2 bS4 bA4 bB4 o14 o24 o34 o4 bel heq hq1 hq0 HMN
      generalize w4.drewN nq = V at *
  case' inr.inl =>
    have bS5 := bS4
    have o35 := o34
    have o45 := o4
    have bel5 := bel
    clear bS4 bA4 bB4 o14 o24 o34 o4 bel heq
    obtain ⟨V, rfl⟩ : ∃ x, x = w4 := ⟨_, rfl⟩
  case' inr.inr =>
    have bS5 := bS4
    have o35 := o34
    have o45 := o4
    have bel5 := bel
    clear bS4 bA4 bB4 o14 o24 o34 o4 bel heq
    obtain ⟨V, rfl⟩ : ∃ x, x = w4 := ⟨_, rfl⟩
  all_goals
    have hcase : (Syn.rightB W H G = true ∧ (E3 == 0) = true ∧ Syn.rightB W' H' G' = true ∧ (E4 == 0) = true) ∨ (E3 == 0) = false ∨ ((E3 == 0) = true ∧ (E4 == 0) = false) := by
      rcases HX3.out with ⟨a, b⟩ | a
      · rcases HX4.out with ⟨c, d⟩ | c
        · exact .inl ⟨a, b, c, d⟩
        · exact .inr (.inr ⟨b, c⟩)
      · exact .inr (.inl a)
    clear HX3 HX4
    rcases hcase with ⟨f1, f2, f3, f4⟩ | h | ⟨h, h'⟩
    · obtain ⟨m, hm⟩ : ∃ n, n = min L3.length L4.length := ⟨_, rfl⟩
      obtain ⟨hn0, hiff⟩ := HAQ.out m f1 f3 hm
      have HMN : Hid (min (n3 : Int) (n4 : Int) = (m : Int)) := by show _ = _; have := o35.1; have := o45.1; omega
      have hq0 : decide ((m : Int) < 3) = false := by simp; omega
      have hsl1 := run_cut8h bytesT A3 n3 c3 .i64 m m rfl (by have := own_cap o35; have := o35.1; omega)
      have hsl2 := run_cut8h bytesT A4 n4 c4 .i64 m m rfl (by have := own_cap o45; have := o45.1; omega)
      have cv1 : ∀ k, Sem.run Try.prog (convert 26 9 (.slice A3 m c3)) (V.drewN k) = .ok (.string (str (L3.take m))) (V.drewN k) := fun k => run_conv8 bytesT Try.underlying9 A3 m c3 _ ((o35.byt.drewN k).take m) (by rw [List.length_take]; omega)
      have cv2 : ∀ k, Sem.run Try.prog (convert 26 9 (.slice A4 m c4)) (V.drewN k) = .ok (.string (str (L4.take m))) (V.drewN k) := fun k => run_conv8 bytesT Try.underlying9 A4 m c4 _ ((o45.byt.drewN k).take m) (by rw [List.length_take]; omega)
      have hq1 := str_beq _ _ _ hiff
      rw [three_int] at hse
      generalize decide (W = W' ∧ H = H' ∧ G = G') = bb at *
      have a0 : V.cell? ⟨w.heap.size, 0, none⟩ = some (.int .i64 W) := bS5.cell 0
      have a1 : V.cell? ⟨w.heap.size, 1, none⟩ = some (.int .i64 H) := bS5.cell 1
      have a2 : V.cell? ⟨w.heap.size, 2, none⟩ = some (.int .i64 G) := bS5.cell 2
      have t0 : V.cell? ⟨w.heap.size, 3, none⟩ = some (.int .i64 W') := bS5.cell 3
      have t1 : V.cell? ⟨w.heap.size, 4, none⟩ = some (.int .i64 H') := bS5.cell 4
      have t2 : V.cell? ⟨w.heap.size, 5, none⟩ = some (.int .i64 G') := bS5.cell 5
      clear f1 f3 hm hiff HAQ
      generalize str (L3.take m) = M1 at *
      generalize str (L4.take m) = M2 at *
      cases bb
      all_goals
        go_wp2
        rw [HMN.out]
        go_quiet (fail)
        have bel6 := bel5.trans ((dN _ nq).mono bel5.size)
        go_wp2_with (go_at_call 12; refine (alive12_calls _).mono ?_; rintro e w9 ⟨rfl, hb⟩)
        go_ret
        exact ⟨rfl, bel6.trans (hb.mono bel6.size)⟩
    · go_wp2_with (go_at_call 12; refine (alive12_calls _).mono ?_; rintro e w9 ⟨rfl, hb⟩)
      go_ret
      exact ⟨rfl, bel5.trans (hb.mono bel5.size)⟩
    · go_wp2_with (go_at_call 12; refine (alive12_calls _).mono ?_; rintro e w9 ⟨rfl, hb⟩)
      go_ret
      exact ⟨rfl, bel5.trans (hb.mono bel5.size)⟩
end Go.Proofs.Ytapfapggepagmaa
