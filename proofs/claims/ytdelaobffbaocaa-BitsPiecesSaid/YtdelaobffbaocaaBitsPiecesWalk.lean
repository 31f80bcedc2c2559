/- The statement BitsPieces, walked: it returns true and changes nothing that was there. Conditions: the slice reads as bytes. -/
import Derived.Test.YtdelaobffbaocaaLaw01Alive
import Derived.Test.YtdelaobffbaocaaBitsPlain2
import Derived.Test.YtdelaobffbaocaaConv
import Derived.Test.YtdelaobffbaocaaHeld
import Derived.OpenShut
namespace Go.Proofs.Ytdelaobffbaocaa
open Go.RowKit Kin

set_option maxRecDepth 100000 in
set_option maxHeartbeats 2000000 in
theorem bitsPieces_bad (A : Option Addr) (n c : Nat) (i n0 n1 : Int) (w : World) (hm : n ≤ 9223372036854775807) (_hi : -9223372036854775808 ≤ i) (_h0 : -9223372036854775808 ≤ n0) (_h1 : -9223372036854775808 ≤ n1)
    (h : 300 < n ∨ i < 0 ∨ n0 < 0 ∨ n1 < 0 ∨ 64 < n0 ∨ 64 - n0 < n1 ∨ 8 * (n : Int) - n0 - n1 < i) :
    Calls Try.prog 3 #[.slice A n c, .int .i64 i, .agg #[.int .i64 n0, .int .i64 n1]] w fun e w' => e = .returned (.bool true) ∧ Below w.heap.size w w' := by
  have fin : ∀ w' : World, Below (w.alloc (Obj.cells #[.int .i64 n0, .int .i64 n1] 23)).heap.size (w.alloc (Obj.cells #[.int .i64 n0, .int .i64 n1] 23)) w' → Below w.heap.size w w' := fun w' b => ((Below.refl _ w).alloc (Nat.le_refl _) _).trans (b.mono (by simp))
  have FIN := hide fin
  clear fin
  by_cases h1 : 300 < n
  · clear h
    go_enter Try.func3, Try.ntmps3
    go_wp2_with (go_at_call 15; refine (alive_calls _).mono ?_; rintro e w1 ⟨rfl, hb⟩)
    go_ret
    exact ⟨rfl, FIN.out _ hb⟩
  by_cases h2 : i < 0
  · clear h
    go_enter Try.func3, Try.ntmps3
    go_wp2_with (go_at_call 15; refine (alive_calls _).mono ?_; rintro e w1 ⟨rfl, hb⟩)
    go_ret
    exact ⟨rfl, FIN.out _ hb⟩
  by_cases h3 : n0 < 0
  · clear h
    go_enter Try.func3, Try.ntmps3
    go_wp2_with (go_at_call 15; refine (alive_calls _).mono ?_; rintro e w1 ⟨rfl, hb⟩)
    go_ret
    exact ⟨rfl, FIN.out _ hb⟩
  by_cases h4 : n1 < 0
  · clear h
    go_enter Try.func3, Try.ntmps3
    go_wp2_with (go_at_call 15; refine (alive_calls _).mono ?_; rintro e w1 ⟨rfl, hb⟩)
    go_ret
    exact ⟨rfl, FIN.out _ hb⟩
  by_cases h5 : 64 < n0
  · clear h
    go_enter Try.func3, Try.ntmps3
    go_wp2_with (go_at_call 15; refine (alive_calls _).mono ?_; rintro e w1 ⟨rfl, hb⟩)
    go_ret
    exact ⟨rfl, FIN.out _ hb⟩
  by_cases h6 : 64 - n0 < n1
  · clear h
    go_enter Try.func3, Try.ntmps3
    go_wp2_with (go_at_call 15; refine (alive_calls _).mono ?_; rintro e w1 ⟨rfl, hb⟩)
    go_ret
    exact ⟨rfl, FIN.out _ hb⟩
  have h7 : 8 * (n : Int) - n0 - n1 < i := by omega
  clear h
  go_enter Try.func3, Try.ntmps3
  go_wp2_with (go_at_call 15; refine (alive_calls _).mono ?_; rintro e w1 ⟨rfl, hb⟩)
  go_ret
  exact ⟨rfl, FIN.out _ hb⟩

set_option maxRecDepth 100000 in
set_option maxHeartbeats 4000000 in
theorem bitsPieces_good (A : Option Addr) (n c : Nat) (l : List UInt8) (i n0 n1 : Nat) (w : World) (hn : n = l.length) (hm : n ≤ 300) (h64 : n0 + n1 ≤ 64) (h8 : i + n0 + n1 ≤ 8 * n) (hA : Byt w w.heap.size A l) :
    Calls Try.prog 3 #[.slice A n c, .int .i64 (i : Int), .agg #[.int .i64 (n0 : Int), .int .i64 (n1 : Int)]] w fun e w' => e = .returned (.bool true) ∧ Below w.heap.size w w' := by
  have HN := hide hn
  have h8l : i + n0 + n1 ≤ 8 * l.length := by omega
  clear hn
  have d1 : decide ((300 : Int) < (n : Int)) = false := by simp; omega
  have d2 : decide ((i : Int) < 0) = false := by simp
  have d3 : decide ((n0 : Int) < 0) = false := by simp
  have d4 : decide ((n1 : Int) < 0) = false := by simp
  have d5 : decide ((64 : Int) < (n0 : Int)) = false := by simp; omega
  have d6 : decide ((64 : Int) - (n0 : Int) < (n1 : Int)) = false := by simp; omega
  have d7 : decide (8 * (n : Int) - (n0 : Int) - (n1 : Int) < (i : Int)) = false := by simp; omega
  go_enter Try.func3, Try.ntmps3
  go_wp2_with fail
  have hb0 := Blk.new w 23 #[.int .i64 (n0 : Int), .int .i64 (n1 : Int)]
  have bel0 : Below w.heap.size w (w.alloc (Obj.cells #[.int .i64 (n0 : Int), .int .i64 (n1 : Int)] 23)) := (Below.refl _ _).alloc (Nat.le_refl _) _
  have z0 : w.heap.size < (w.alloc (Obj.cells #[.int .i64 (n0 : Int), .int .i64 (n1 : Int)] 23)).heap.size := by simp
  have hA0 := hA.below bel0
  generalize w.alloc (Obj.cells #[.int .i64 (n0 : Int), .int .i64 (n1 : Int)] 23) = W0 at *
  refine (open_calls _ _ _ l _ HN.out (by omega) hA0).mono ?_
  rintro e w1 ⟨rfl, hr1, b1⟩
  have bel1 := bel0.trans (b1.mono (by omega))
  have hb1 := hb0.below b1 z0
  have y2 := hr1.lt
  go_wp2_with fail
  refine (open_calls _ _ _ l _ HN.out (by omega) (hA.below bel1)).mono ?_
  rintro e w2 ⟨rfl, hr2, b2⟩
  have bel2 := bel1.trans (b2.mono bel1.size)
  have hb2 := hb1.below b2 hb1.lt
  have hr1 := hr1.below b2
  clear hA hA0 hb0 hb1 bel0 bel1 b1 b2
  obtain ⟨r1, hr1e⟩ : ∃ r, r = W0.heap.size := ⟨_, rfl⟩
  obtain ⟨g1, hg1e⟩ : ∃ r, r = W0.heap.size + 1 := ⟨_, rfl⟩
  obtain ⟨r2, hr2e⟩ : ∃ r, r = w1.heap.size := ⟨_, rfl⟩
  obtain ⟨g2, hg2e⟩ : ∃ r, r = w1.heap.size + 1 := ⟨_, rfl⟩
  have k1 : w.heap.size < r1 := by omega
  have k2 : r1 < g1 := by omega
  have k3 : g1 < r2 := by omega
  have k4 : r2 < g2 := by omega
  rw [← hg1e, ← hr1e] at hr1
  rw [← hg2e, ← hr2e] at hr2
  rw [← hg1e, ← hg2e]
  clear hr1e hg1e hr2e hg2e y2 z0
  go_wp2
  go_loopw [9] (fun iv wr => ∃ j : Nat, j ≤ i ∧ iv = .int .i64 j ∧ ReaderIs wr g1 r1 l j ∧ ReaderIs wr g2 r2 l j ∧ Blk wr w.heap.size 23 #[.int .i64 (n0 : Int), .int .i64 (n1 : Int)] ∧ Below w.heap.size w wr) (fun iv _ => i - (intOf iv).toNat)
  case atStart => exact ⟨0, by omega, rfl, hr1, hr2, hb2, bel2⟩
  case round =>
    obtain ⟨j, hj, rfl, q1, q2, qb, qbel⟩ := hrel
    clear hr1 hr2 hb2 bel2
    by_cases hlt : j < i
    · go_wp2_with fail
      refine (get_calls g1 r1 l j 1 _ q1 (by omega) (by omega)).mono ?_
      rintro e t1 ⟨rfl, q1', c1⟩
      have q2' := q2.keep c1 (by intro h; have h : g2 = g1 := h; omega) (by intro h; have h : r2 = g1 := h; omega)
      have qb' := c1.blk qb (by intro h; have h : w.heap.size = g1 := h; omega)
      have qbel' := qbel.trans (c1.below (fun k h => by have h : k = g1 := h; omega) qbel.size)
      clear q1 q2 qb qbel c1
      go_wp2_with fail
      refine (get_calls g2 r2 l j 1 _ q2' (by omega) (by omega)).mono ?_
      rintro e t2 ⟨rfl, q2'', c2⟩
      have q1'' := q1'.keep c2 (by intro h; have h : g1 = g2 := h; omega) (by intro h; have h : r1 = g2 := h; omega)
      have qb'' := c2.blk qb' (by intro h; have h : w.heap.size = g2 := h; omega)
      have qbel'' := qbel'.trans (c2.below (fun k h => by have h : k = g2 := h; omega) qbel'.size)
      clear q1' q2' qb' qbel' c2
      go_wp2
      go_roundw
      case rel => exact ⟨j + 1, by omega, by go_num, q1'', q2'', qb'', qbel''⟩
      case measure => simp [intOf]; omega
    · obtain rfl : j = i := by omega
      clear hlt
      have k0 : wr.cell? ⟨w.heap.size, 0, none⟩ = some (.int .i64 (n0 : Int)) := qb.cell 0
      have k1' : wr.cell? ⟨w.heap.size, 1, none⟩ = some (.int .i64 (n1 : Int)) := qb.cell 1
      have KB : Hid (∀ W : World, Blk W w.heap.size 23 #[.int .i64 (n0 : Int), .int .i64 (n1 : Int)] → W.cell? ⟨w.heap.size, 0, none⟩ = some (.int .i64 (n0 : Int)) ∧ W.cell? ⟨w.heap.size, 1, none⟩ = some (.int .i64 (n1 : Int))) := fun W h => ⟨h.cell 0, h.cell 1⟩
      have HX := hide (Bit.get_add l j n0 n1)
      have hx1 := Bit.get_lt l j n0
      have hx2 := Bit.get_lt l (j + n0) n1
      have hx3 := Bit.get_lt l j (n0 + n1)
      go_wp2_with fail
      rw [show ((n0 : Int) + (n1 : Int)) = ((n0 + n1 : Nat) : Int) from by omega]
      refine (get_calls g1 r1 l j (n0 + n1) _ q1 h64 (by omega)).mono ?_
      rintro e t1 ⟨rfl, q1', c1⟩
      have q2' := q2.keep c1 (by intro h; have h : g2 = g1 := h; omega) (by intro h; have h : r2 = g1 := h; omega)
      have qb' := c1.blk qb (by intro h; have h : w.heap.size = g1 := h; omega)
      have qbel' := qbel.trans (c1.below (fun k h => by have h : k = g1 := h; omega) qbel.size)
      clear q1 q2 qb qbel c1 k0 k1'
      obtain ⟨k0, k1'⟩ := KB.out t1 qb'
      go_wp2_with fail
      refine (get_calls g2 r2 l j n0 _ q2' (by omega) (by omega)).mono ?_
      rintro e t2 ⟨rfl, q2'', c2⟩
      have q1'' := q1'.keep c2 (by intro h; have h : g1 = g2 := h; omega) (by intro h; have h : r1 = g2 := h; omega)
      have qb'' := c2.blk qb' (by intro h; have h : w.heap.size = g2 := h; omega)
      have qbel'' := qbel'.trans (c2.below (fun k h => by have h : k = g2 := h; omega) qbel'.size)
      clear q1' q2' qb' qbel' c2 k0 k1'
      obtain ⟨k0, k1'⟩ := KB.out t2 qb''
      go_wp2_with fail
      refine (get_calls g2 r2 l (j + n0) n1 _ q2'' (by omega) (by omega)).mono ?_
      rintro e t3 ⟨rfl, q2, c3⟩
      have q1 := q1''.keep c3 (by intro h; have h : g1 = g2 := h; omega) (by intro h; have h : r1 = g2 := h; omega)
      have qb := c3.blk qb'' (by intro h; have h : w.heap.size = g2 := h; omega)
      have qbel := qbel''.trans (c3.below (fun k h => by have h : k = g2 := h; omega) qbel''.size)
      clear q1'' q2'' qb'' qbel'' c3 k0 k1'
      rw [show j + n0 + n1 = j + (n0 + n1) from by omega] at q2
      generalize Bit.get l j (n0 + n1) = x at *
      generalize Bit.get l j n0 = y at *
      generalize Bit.get l (j + n0) n1 = z at *
      have HD : Hid (Bit.digits x (n0 + n1) = Bit.digits y n0 ++ Bit.digits z n1) := by rw [HX.out]; exact Bit.digits_add y z n0 n1 hx1 hx2
      have p64 : 2 ^ n1 ≤ 2 ^ 64 := Nat.pow_le_pow_right (by omega) (by omega)
      have p64' : 2 ^ n0 ≤ 2 ^ 64 := Nat.pow_le_pow_right (by omega) (by omega)
      have hyb : y < 18446744073709551616 := by omega
      have hzb : z < 18446744073709551616 := by omega
      clear p64 p64'
      go_wp2_with fail
      refine (new_calls _).mono ?_
      rintro e t4 ⟨rfl, hw4, b4⟩
      go_wp2_with fail
      refine (new_calls _).mono ?_
      rintro e t5 ⟨rfl, hu5, b5⟩
      have hw5 := hw4.below b5
      have z34 := hw4.lt
      have z45 := hu5.lt
      have B5 : Below t3.heap.size t3 t5 := b4.trans (b5.mono b4.size)
      clear hw4 b4 b5
      obtain ⟨gw, hgw⟩ : ∃ g, g = t3.heap.size := ⟨_, rfl⟩
      obtain ⟨gu, hgu⟩ : ∃ g, g = t4.heap.size := ⟨_, rfl⟩
      rw [← hgw] at hw5
      rw [← hgu] at hu5
      rw [← hgw, ← hgu]
      have ge1 : t3.heap.size ≤ gw := by omega
      have ge2 : t3.heap.size ≤ gu := by omega
      have lt1 : gw < gu := by omega
      clear hgw hgu z34
      obtain ⟨k0, k1'⟩ := KB.out t5 (qb.below B5 qb.lt)
      have D5 : Disj gw none gu none := ⟨by omega, by simp, by simp, by simp⟩
      go_wp2_with fail
      rw [show ((n0 : Int) + (n1 : Int)) = ((n0 + n1 : Nat) : Int) from by omega]
      refine (put_calls gw none [] x (n0 + n1) _ hw5 (by simp) h64 hx3).mono ?_
      rintro e t6 ⟨rfl, Rw, hw6, c6, r6⟩
      have hu6 := hu5.keep c6 D5.foot
      have D6 := D5.left r6 hu5.lt (by simp)
      have B6 := B5.trans (c6.below (Foot.ge ge1 (by simp)) B5.size)
      have gr6 := r6.ge (B := t3.heap.size) (by simp) B5.size
      clear hu5 c6 r6 k0 k1' hw5
      obtain ⟨k0, k1'⟩ := KB.out t6 (qb.below B6 qb.lt)
      go_wp2_with fail
      refine (put_calls gu none [] y n0 _ hu6 (by simp) (by omega) hx1).mono ?_
      rintro e t7 ⟨rfl, Ru, hu7, c7, r7⟩
      have hw7 := hw6.keep c7 D6.symm.foot
      have D7 := (D6.symm.left r7 hw6.lt hw6.rlt).symm
      have B7 := B6.trans (c7.below (Foot.ge ge2 (by simp)) B6.size)
      have gr7 := r7.ge (B := t3.heap.size) (by simp) B6.size
      clear hw6 c7 r7 k0 k1' hu6
      obtain ⟨k0, k1'⟩ := KB.out t7 (qb.below B7 qb.lt)
      go_wp2_with fail
      refine (put_calls gu Ru _ z n1 _ hu7 (by simp [Bit.length_digits]; omega) (by omega) hx2).mono ?_
      rintro e t8 ⟨rfl, Ru8, hu8, c8, r8⟩
      have hw8 := hw7.keep c8 D7.symm.foot
      have B8 := B7.trans (c8.below (Foot.ge ge2 gr7) B7.size)
      clear hw7 c8 r8 k0 k1' hu7 D5 D6 D7 gr6 gr7 B5 B6 B7
      obtain ⟨k0, k1'⟩ := KB.out t8 (qb.below B8 qb.lt)
      have q18 := q1.below B8
      have q28 := q2.below B8
      have qb8 := qb.below B8 qb.lt
      have bel8 := qbel.trans (B8.mono qbel.size)
      rw [List.nil_append, HD.out] at hw8
      rw [List.nil_append] at hu8
      have hlen : (Bit.digits y n0 ++ Bit.digits z n1).length ≤ 64 := by rw [List.length_append, Bit.length_digits, Bit.length_digits]; omega
      generalize Bit.digits y n0 ++ Bit.digits z n1 = L at *
      clear q1 q2 qb qbel B8 HD
      have e1 : IntKind.u64.wrap (n1 : Int) = (n1 : Int) := by rw [IntKind.wrap_u64]; omega
      have hor : bits BinOp.or IntKind.u64 (IntKind.u64.wrap ((y : Int) * 2 ^ n1)) (z : Int) = (x : Int) := by
        rw [IntKind.wrap_u64]
        have e := u64_or_nat (y * 2 ^ n1 % 18446744073709551616) z (Nat.mod_lt _ (by omega)) hzb
        rw [Bit.shl_or y z n0 n1 hx1 hx2 h64, ← HX.out] at e
        rw [← e]
        congr 1
      go_wp2
      have q18d := q18.below (Below.refl _ _).drew
      have q28d := q28.below (Below.refl _ _).drew
      have hw8d := hw8.below (Below.refl _ _).drew
      have hu8d := hu8.below (Below.refl _ _).drew
      have qb8d := qb8.drew
      have bel8d := bel8.drew
      go_region_held3 (fun w' => w'.cell? ⟨w.heap.size, 1, none⟩ = some (.int .i64 (n1 : Int)))
        (first | exact k1' | exact (KB.out _ qb9).2 | exact ⟨(KB.out _ qb10).2, Below.refl _ _⟩ | exact ⟨⟨(KB.out _ qb11).2, b11⟩, Below.refl _ _⟩)
        (first
          | (go_at_call 15; refine (alive_calls _).mono ?_; rintro e t9 ⟨rfl, b9⟩; have q19 := q18d.below b9; have q29 := q28d.below b9; have hw9 := hw8d.below b9; have hu9 := hu8d.below b9; have qb9 := qb8d.below b9 qb8d.lt; have bel9 := bel8d.trans (b9.mono bel8d.size))
          | (go_at_call 20; ((with_reducible refine (at_calls g1 r1 l _ _ q19).mono ?_)); rintro e v1 ⟨rfl, rfl⟩)
          | (go_at_call 20; ((with_reducible refine (at_calls g2 r2 l _ _ q29).mono ?_)); rintro e v1 ⟨rfl, rfl⟩)
          | (go_at_call 21; ((with_reducible refine (len_calls gw Rw L _ hw9).mono ?_)); rintro e v1 ⟨rfl, rfl⟩)
          | (go_at_call 21; ((with_reducible refine (len_calls gu Ru8 L _ hu9).mono ?_)); rintro e v1 ⟨rfl, rfl⟩)
          | (go_at_call 22; ((with_reducible refine (wbytes_calls gw Rw L _ hw9 (by omega)).mono ?_)); rintro e t10 ⟨A10, n10, c10, rfl, o10, gg10, b10⟩; have hu10 := hu9.below b10; have qb10 := qb9.below b10 qb9.lt; have cv10 : ∀ w', Below t10.heap.size t10 w' → Sem.run Try.prog (convert 22 9 (.slice A10 n10 c10)) w' = .ok (.string (str (Bit.pack L))) w' := (fun w' b => run_conv8 bytesT Try.underlying9 A10 n10 c10 _ (o10.byt.below b) o10.1); simp only [shut_strong (fun w' => Below t10.heap.size t10 w')] at *)
          | (go_at_call 22; ((with_reducible refine (wbytes_calls gu Ru8 L _ hu10 (by omega)).mono ?_)); rintro e t11 ⟨A11, n11, c11, rfl, o11, gg11, b11⟩; have qb11 := qb10.below b11 qb10.lt; have cv11 : ∀ w', Below t11.heap.size t11 w' → Sem.run Try.prog (convert 22 9 (.slice A11 n11 c11)) w' = .ok (.string (str (Bit.pack L))) w' := (fun w' b => run_conv8 bytesT Try.underlying9 A11 n11 c11 _ (o11.byt.below b) o11.1); simp only [shut_strong (fun w' => Below t11.heap.size t11 w')] at *))
      all_goals
        go_wp2
        go_ret
        exact ⟨rfl, (bel9.trans (b10.mono bel9.size)).trans (b11.mono (bel9.trans (b10.mono bel9.size)).size)⟩

theorem bitsPieces_walk (A : Option Addr) (n c : Nat) (l : List UInt8) (i n0 n1 : Int) (w : World) (hn : n = l.length) (hm : n ≤ maxLen) (hA : Byt w w.heap.size A l)
    (wi : (Lit.int .i64 i).wf = true) (w0 : (Lit.int .i64 n0).wf = true) (w1 : (Lit.int .i64 n1).wf = true) :
    Calls Try.prog 3 #[.slice A n c, .int .i64 i, .agg #[.int .i64 n0, .int .i64 n1]] w fun e w' => e = .returned (.bool true) ∧ Below w.heap.size w w' := by
  have ⟨a1, _⟩ := bounds_i64 wi
  have ⟨a2, _⟩ := bounds_i64 w0
  have ⟨a3, _⟩ := bounds_i64 w1
  have hm' : n ≤ 9223372036854775807 := Nat.le_trans hm (by decide)
  by_cases h : 300 < n ∨ i < 0 ∨ n0 < 0 ∨ n1 < 0 ∨ 64 < n0 ∨ 64 - n0 < n1 ∨ 8 * (n : Int) - n0 - n1 < i
  · exact bitsPieces_bad A n c i n0 n1 w hm' a1 a2 a3 h
  · obtain ⟨i, rfl⟩ : ∃ k : Nat, i = k := ⟨i.toNat, by omega⟩
    obtain ⟨n0, rfl⟩ : ∃ k : Nat, n0 = k := ⟨n0.toNat, by omega⟩
    obtain ⟨n1, rfl⟩ : ∃ k : Nat, n1 = k := ⟨n1.toNat, by omega⟩
    exact bitsPieces_good A n c l i n0 n1 w hn (by omega) (by omega) (by omega) hA
end Go.Proofs.Ytdelaobffbaocaa
