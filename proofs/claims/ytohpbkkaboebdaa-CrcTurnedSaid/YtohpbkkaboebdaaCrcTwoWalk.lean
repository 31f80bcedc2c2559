/- The statement CrcTwo, walked: it returns true and changes nothing that was there. Conditions: the slice reads as bytes. -/
import Derived.Test.YtohpbkkaboebdaaCrcAlive
import Derived.Test.YtohpbkkaboebdaaCrcPlain2
namespace Go.Proofs.Ytohpbkkaboebdaa
open Go.RowKit Kin

theorem u8_flip (b : UInt8) (i : Nat) : bits BinOp.xor IntKind.u8 (b.toNat : Int) ((2 : Int) ^ (i % 8) % 256) = ((b ^^^ UInt8.ofNat (2 ^ (i % 8))).toNat : Int) := by
  have hp : i % 8 < 8 := Nat.mod_lt _ (by omega)
  have h8 : 2 ^ (i % 8) < 2 ^ 8 := Nat.pow_lt_pow_right (by omega) hp
  have h2 : (UInt8.ofNat (2 ^ (i % 8))).toNat = 2 ^ (i % 8) := by rw [UInt8.toNat_ofNat_of_lt']; exact h8
  have e := u8_xor_nat b.toNat (2 ^ (i % 8)) b.toNat_lt h8
  rw [UInt8.toNat_xor, h2, ← e]
  congr 1
  have : ((2 ^ (i % 8) : Nat) : Int) = (2 : Int) ^ (i % 8) := by simp
  rw [← this]
  omega

theorem u8_flip' (b : UInt8) (i : Nat) : ∃ x : UInt8, bits BinOp.xor IntKind.u8 (b.toNat : Int) ((2 : Int) ^ (i % 8) % 256) = (x.toNat : Int) ∧ Hid (x = b ^^^ UInt8.ofNat (2 ^ (i % 8))) := ⟨_, u8_flip b i, rfl⟩
theorem flip_eq {l : List UInt8} {i : Nat} {b x : UInt8} (hb : l[i / 8]? = some b) (hx : x = b ^^^ UInt8.ofNat (2 ^ (i % 8))) : l.set (i / 8) x = Crc.flip l i := by
  unfold Crc.flip
  rw [hx, List.getD, hb]; rfl

set_option maxRecDepth 100000 in
set_option maxHeartbeats 1000000 in
theorem crcTwo_bad (A : Option Addr) (n c : Nat) (i k : Int) (w : World) (hm : n ≤ 9223372036854775807) (h : 300 < n ∨ i < 0 ∨ k < 0 ∨ 8 * (n : Int) ≤ i ∨ 8 * (n : Int) ≤ k ∨ i = k) :
    Calls Try.prog 6 #[.slice A n c, .int .i64 i, .int .i64 k] w fun e w' => e = .returned (.bool true) ∧ Below w.heap.size w w' := by
  by_cases h1 : 300 < n
  · clear h
    go_enter Try.func6, Try.ntmps6
    go_wp2_with (go_at_call 9; refine (alive_calls _).mono ?_; rintro e w1 ⟨rfl, hb⟩)
    go_ret
    exact ⟨rfl, hb⟩
  · by_cases h2 : i < 0
    · clear h
      go_enter Try.func6, Try.ntmps6
      go_wp2_with (go_at_call 9; refine (alive_calls _).mono ?_; rintro e w1 ⟨rfl, hb⟩)
      go_ret
      exact ⟨rfl, hb⟩
    · by_cases h3 : k < 0
      · clear h
        go_enter Try.func6, Try.ntmps6
        go_wp2_with (go_at_call 9; refine (alive_calls _).mono ?_; rintro e w1 ⟨rfl, hb⟩)
        go_ret
        exact ⟨rfl, hb⟩
      · by_cases h4 : 8 * (n : Int) ≤ i
        · clear h
          go_enter Try.func6, Try.ntmps6
          go_wp2_with (go_at_call 9; refine (alive_calls _).mono ?_; rintro e w1 ⟨rfl, hb⟩)
          go_ret
          exact ⟨rfl, hb⟩
        · by_cases h5 : 8 * (n : Int) ≤ k
          · clear h
            go_enter Try.func6, Try.ntmps6
            go_wp2_with (go_at_call 9; refine (alive_calls _).mono ?_; rintro e w1 ⟨rfl, hb⟩)
            go_ret
            exact ⟨rfl, hb⟩
          · obtain rfl : i = k := by omega
            clear h
            go_enter Try.func6, Try.ntmps6
            go_wp2_with (go_at_call 9; refine (alive_calls _).mono ?_; rintro e w1 ⟨rfl, hb⟩)
            go_ret
            exact ⟨rfl, hb⟩

set_option maxRecDepth 100000 in
set_option maxHeartbeats 1000000 in
theorem crcTwo_good (A : Option Addr) (n c : Nat) (l : List UInt8) (i k : Nat) (w : World) (hn : n = l.length) (h1 : n ≤ 300) (h2 : i < 8 * n) (h3 : k < 8 * n) (hne : ((i : Int) == (k : Int)) = false) (hA : Byt w w.heap.size A l) :
    Calls Try.prog 6 #[.slice A n c, .int .i64 (i : Int), .int .i64 (k : Int)] w fun e w' => e = .returned (.bool true) ∧ Below w.heap.size w w' := by
  have HN := hide hn
  clear hn
  have d1 : decide ((300 : Int) < (n : Int)) = false := by simp; omega
  have d2 : decide ((i : Int) < 0) = false := by simp
  have d3 : decide ((k : Int) < 0) = false := by simp
  have d4 : decide (8 * (n : Int) ≤ (i : Int)) = false := by simp; omega
  have d5 : decide (8 * (n : Int) ≤ (k : Int)) = false := by simp; omega
  go_enter Try.func6, Try.ntmps6
  go_wp2_with (first
    | (at_builtin; refine wpList_append8 (by rfl) (.tmp 40) (.tmp 41) 22 5 (by rfl) bytesT _ _ _ [] (by rfl) (Own8.new w #[] 5 0 [] rfl rfl (by decide)) _ _ _ _ l (by rfl) (hA.below ((Below.refl _ _).alloc (Nat.le_refl _) _)) HN.out (by omega) ?_; intro A1 c1 w1 hown1 hgrow1 hat1; simp only [Nat.zero_add, List.nil_append] at hown1; obtain ⟨g1, b1, rfl, hb1, hc1, hf1⟩ := hown1.at_ (k := i / 8) (by omega); have HB1 := hide hb1; clear hb1; obtain ⟨x1, hx1, HX1⟩ := u8_flip' b1 i)
    | (at_builtin; have own1 := hown1.set (k := i / 8) rfl x1; refine wpList_append8 (by rfl) (.tmp 57) (.tmp 58) 22 5 (by rfl) bytesT _ _ _ [] (by rfl) (Own8.newAt _ #[] 5 0 [] _ (by simp) rfl rfl (by decide)) _ _ _ _ (l.set (i / 8) x1) (by rfl) (own1.byt.below ((Below.refl _ _).alloc (Nat.le_refl _) _)) (by rw [List.length_set]; exact HN.out) (by omega) ?_; intro A2 c2 w2 hown2 hgrow2 hat2; simp only [Nat.zero_add, List.nil_append] at hown2; obtain ⟨g2, b2, rfl, hb2, hc2, hf2⟩ := hown2.at_ (k := k / 8) (by omega); have HB2 := hide hb2; clear hb2; obtain ⟨x2, hx2, HX2⟩ := u8_flip' b2 k))
  have e1 : l.set (i / 8) x1 = Crc.flip l i := flip_eq HB1.out HX1.out
  have e2 : (l.set (i / 8) x1).set (k / 8) x2 = Crc.flip (Crc.flip l i) k := by rw [flip_eq HB2.out HX2.out, e1]
  have own2 := hown2.set (k := k / 8) rfl x2
  rw [e2] at own2
  rw [e1] at own1
  have z0 : w.heap.size ≤ w1.heap.size := by have := hgrow1.size; simp at this; omega
  have z1 : g1 < w1.heap.size := by have := own1.lt g1 rfl; simpa using this
  have z1' : w.heap.size ≤ g1 := by
    rcases hat1 with h | h
    · simp [blkOf] at h; omega
    · simp [blkOf] at h; omega
  have z2 : w1.heap.size ≤ g2 := by
    rcases hat2 with h | h
    · simp [blkOf] at h; omega
    · simp [blkOf] at h; omega
  have own1' := ((own1.alloc (Obj.cells #[] 5)).kept hgrow2 (.inr (by simp [blkOf]; omega))).setFar (p := ⟨g2, k / 8, none⟩) (by simp [blkOf]; omega) (.int .u8 (x2.toNat : Int))
  have HB : Below w.heap.size w (w2.setCell ⟨g2, k / 8, none⟩ (.int .u8 (x2.toNat : Int))) := by
    refine Below.setCell ?_ (by simp; omega) _
    refine Below.grown ?_ hgrow2 (by simp; omega) (by simp [blkOf]; omega)
    refine Below.alloc ?_ (by simp; omega) _
    refine Below.setCell ?_ (by simp; omega) _
    exact Below.grown ((Below.refl _ _).alloc (Nat.le_refl _) _) hgrow1 (by simp) (by simp [blkOf])
  have hX := own1'.byt
  have hY := own2.byt
  have hA' := hA.below HB
  have q1 : (((Crc.sum (Crc.flip l i) : Nat) : Int) != ((Crc.sum l : Nat) : Int)) = true := by
    have := Crc.sum_flip l i (by rw [← HN.out]; exact h2)
    simp; omega
  have q2 : (((Crc.sum (Crc.flip (Crc.flip l i) k) : Nat) : Int) != ((Crc.sum l : Nat) : Int)) = true := by
    have := Crc.sum_flip2 l i k (by rw [← HN.out]; exact h1) (by rw [← HN.out]; exact h2) (by rw [← HN.out]; exact h3) (by intro e; subst e; simp at hne)
    simp; omega
  have q3 : (((Crc.sum (Crc.flip (Crc.flip l i) k) : Nat) : Int) != ((Crc.sum (Crc.flip l i) : Nat) : Int)) = true := by
    have := Crc.sum_flip (Crc.flip l i) k (by rw [Crc.length_flip, ← HN.out]; exact h3)
    simp; omega
  have n1 : Hid (n = (Crc.flip l i).length) := by rw [Crc.length_flip]; exact HN
  have n2 : Hid (n = (Crc.flip (Crc.flip l i) k).length) := by rw [Crc.length_flip, Crc.length_flip]; exact HN
  have hl : l.length ≤ 300 := by rw [← HN.out]; exact h1
  have hl1 : (Crc.flip l i).length ≤ 300 := by rw [Crc.length_flip]; exact hl
  have hl2 : (Crc.flip (Crc.flip l i) k).length ≤ 300 := by rw [Crc.length_flip, Crc.length_flip]; exact hl
  clear own1' own2 own1 hown2 hown1 e1 e2 hgrow1 hgrow2 hat1 hat2 hc1 hf1 hc2 hf2 HB1 HX1 HB2 HX2 hx1 hx2 z0 z1 z1' z2 hA d1 d2 d3 d4 d5
  generalize w2.setCell ⟨g2, k / 8, none⟩ (.int .u8 (x2.toNat : Int)) = W at *
  generalize Crc.flip (Crc.flip l i) k = Y at *
  generalize Crc.flip l i = X at *
  refine (alive_calls _).mono ?_
  rintro e u1 ⟨rfl, b1⟩
  go_wp2_with fail
  refine (sum_calls _ _ X _ _ n1.out (by omega) (hX.below b1)).mono ?_
  rintro e u2 ⟨rfl, b2⟩
  have c2 := bnext b1 b2
  go_wp2_with fail
  refine (sum_calls _ _ l _ _ HN.out (by omega) (hA'.below (c2.mono HB.size))).mono ?_
  rintro e u3 ⟨rfl, b3⟩
  have c3 := bnext c2 b3
  go_wp2_with fail
  refine (sum_calls _ _ Y _ _ n2.out (by omega) (hY.below c3)).mono ?_
  rintro e u4 ⟨rfl, b4⟩
  have c4 := bnext c3 b4
  go_wp2_with fail
  refine (sum_calls _ _ l _ _ HN.out (by omega) (hA'.below (c4.mono HB.size))).mono ?_
  rintro e u5 ⟨rfl, b5⟩
  have c5 := bnext c4 b5
  go_wp2_with fail
  refine (sum_calls _ _ Y _ _ n2.out (by omega) (hY.below c5)).mono ?_
  rintro e u6 ⟨rfl, b6⟩
  have c6 := bnext c5 b6
  go_wp2_with fail
  refine (sum_calls _ _ X _ _ n1.out (by omega) (hX.below c6)).mono ?_
  rintro e u7 ⟨rfl, b7⟩
  have c7 := bnext c6 b7
  go_wp2_with fail
  go_ret
  exact ⟨rfl, bnext HB c7⟩

theorem crcTwo_walk (A : Option Addr) (n c : Nat) (l : List UInt8) (i k : Int) (w : World) (hn : n = l.length) (hm : n ≤ maxLen) (hA : Byt w w.heap.size A l) (_hi : (Lit.int .i64 i).wf = true) (_hk : (Lit.int .i64 k).wf = true) :
    Calls Try.prog 6 #[.slice A n c, .int .i64 i, .int .i64 k] w fun e w' => e = .returned (.bool true) ∧ Below w.heap.size w w' := by
  unfold maxLen at hm
  by_cases h : 300 < n ∨ i < 0 ∨ k < 0 ∨ 8 * (n : Int) ≤ i ∨ 8 * (n : Int) ≤ k ∨ i = k
  · exact crcTwo_bad A n c i k w (by omega) h
  · obtain ⟨i, rfl⟩ := Int.eq_ofNat_of_zero_le (show 0 ≤ i by omega)
    obtain ⟨k, rfl⟩ := Int.eq_ofNat_of_zero_le (show 0 ≤ k by omega)
    exact crcTwo_good A n c l i k w hn (by omega) (by omega) (by omega) (by simp; omega) hA
end Go.Proofs.Ytohpbkkaboebdaa
