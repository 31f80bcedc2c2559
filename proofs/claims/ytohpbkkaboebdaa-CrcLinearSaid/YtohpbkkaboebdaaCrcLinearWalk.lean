/- The statement CrcLinear, walked: it returns true and changes nothing that was there. Conditions: the slices read as bytes. -/
import Derived.Test.YtohpbkkaboebdaaCrcAlive
import Derived.Test.YtohpbkkaboebdaaCrcPlain2
import Derived.BigRegion
namespace Go.Proofs.Ytohpbkkaboebdaa
open Go.RowKit Kin

theorem u8_xor' (a b : UInt8) : ∃ x : UInt8, bits BinOp.xor IntKind.u8 (a.toNat : Int) (b.toNat : Int) = (x.toNat : Int) ∧ Hid (x = a ^^^ b) :=
  ⟨a ^^^ b, by rw [u8_xor_nat a.toNat b.toNat a.toNat_lt b.toNat_lt, UInt8.toNat_xor], rfl⟩

theorem xors_at {l m : List UInt8} {k : Nat} {a b x : UInt8} (h1 : l[k]? = some a) (h2 : m[k]? = some b) (hx : x = a ^^^ b) : (Crc.xors l m)[k]? = some x := by
  rw [Crc.getElem?_xors, h1, h2, hx]
/-- the first k bytes of F, noughts behind -/
def part (F : List UInt8) (k : Nat) : List UInt8 := F.take k ++ List.replicate (F.length - k) 0
theorem part_zero (F : List UInt8) : part F 0 = List.replicate F.length 0 := by simp [part]
theorem part_all (F : List UInt8) : part F F.length = F := by simp [part]
theorem part_set (F : List UInt8) (k : Nat) (x : UInt8) (h : F[k]? = some x) : (part F k).set k x = part F (k + 1) := by
  have hk := (List.getElem?_eq_some_iff.1 h).1
  have hx := (List.getElem?_eq_some_iff.1 h).2
  unfold part
  rw [List.set_append_right _ _ (by simp; omega)]
  rw [List.length_take, Nat.min_eq_left (by omega), Nat.sub_self]
  rw [show F.length - k = (F.length - (k + 1)) + 1 from by omega, List.replicate_succ, List.set_cons_zero]
  rw [List.take_succ_eq_append_getElem hk, hx, List.append_assoc]; rfl

set_option maxRecDepth 100000 in
set_option maxHeartbeats 1000000 in
theorem crcLinear_bad (A0 : Option Addr) (n0 c0 : Nat) (A1 : Option Addr) (n1 c1 : Nat) (A2 : Option Addr) (n2 c2 : Nat) (w : World) (hm : n0 ≤ 9223372036854775807) (h : 300 < n0 ∨ n1 ≠ n0 ∨ n2 ≠ n0) :
    Calls Try.prog 7 #[.slice A0 n0 c0, .slice A1 n1 c1, .slice A2 n2 c2] w fun e w' => e = .returned (.bool true) ∧ Below w.heap.size w w' := by
  by_cases h1 : 300 < n0
  · clear h
    go_enter Try.func7, Try.ntmps7
    go_wp2_with (go_at_call 9; refine (alive_calls _).mono ?_; rintro e w1 ⟨rfl, hb⟩)
    go_ret
    exact ⟨rfl, hb⟩
  · by_cases h2 : n1 = n0
    · subst h2
      have q : ((n2 : Int) != (n1 : Int)) = true := by simp; omega
      clear h
      go_enter Try.func7, Try.ntmps7
      go_wp2_with (go_at_call 9; refine (alive_calls _).mono ?_; rintro e w1 ⟨rfl, hb⟩)
      go_ret
      exact ⟨rfl, hb⟩
    · have q : ((n1 : Int) != (n0 : Int)) = true := by simp; omega
      clear h
      go_enter Try.func7, Try.ntmps7
      go_wp2_with (go_at_call 9; refine (alive_calls _).mono ?_; rintro e w1 ⟨rfl, hb⟩)
      go_ret
      exact ⟨rfl, hb⟩

set_option maxRecDepth 100000 in
set_option maxHeartbeats 1000000 in
theorem crcLinear_good (n : Nat) (A0 : Option Addr) (c0 : Nat) (la : List UInt8) (A1 : Option Addr) (c1 : Nat) (lb : List UInt8) (A2 : Option Addr) (c2 : Nat) (lc : List UInt8) (w : World)
    (ha : n = la.length) (hb : n = lb.length) (hc : n = lc.length) (h1 : n ≤ 300) (bA : Byt w w.heap.size A0 la) (bB : Byt w w.heap.size A1 lb) (bC : Byt w w.heap.size A2 lc) :
    Calls Try.prog 7 #[.slice A0 n c0, .slice A1 n c1, .slice A2 n c2] w fun e w' => e = .returned (.bool true) ∧ Below w.heap.size w w' := by
  have Ha := hide ha
  have Hb := hide hb
  have Hc := hide hc
  clear ha hb hc
  have d1 : decide ((300 : Int) < (n : Int)) = false := by simp; omega
  have hmk := run_make8 (P := Try.prog) bytesT .i64 .i64 n (by omega)
  go_enter Try.func7, Try.ntmps7
  go_wp2
  obtain ⟨X, HX⟩ : ∃ X, Hid (X = Crc.xors (Crc.xors la lb) lc) := ⟨_, rfl⟩
  obtain ⟨Y, HY⟩ : ∃ Y, Hid (Y = Crc.xors la lc) := ⟨_, rfl⟩
  obtain ⟨Z, HZ⟩ : ∃ Z, Hid (Z = Crc.xors lb lc) := ⟨_, rfl⟩
  have lX : Hid (X.length = n) := by rw [HX.out, Crc.length_xors (by rw [Crc.length_xors (by rw [← Ha.out, ← Hb.out]), ← Ha.out, ← Hc.out]), Crc.length_xors (by rw [← Ha.out, ← Hb.out])]; exact Ha.out.symm
  have lY : Hid (Y.length = n) := by rw [HY.out, Crc.length_xors (by rw [← Ha.out, ← Hc.out])]; exact Ha.out.symm
  have lZ : Hid (Z.length = n) := by rw [HZ.out, Crc.length_xors (by rw [← Hb.out, ← Hc.out])]; exact Hb.out.symm
  clear hmk
  go_loopw [10] (fun i wr => ∃ k : Nat, k ≤ n ∧ i = .int .i64 k ∧ Own8 wr 5 (some ⟨w.heap.size, 0, none⟩) n n (part X k) ∧ Own8 wr 5 (some ⟨w.heap.size + 1, 0, none⟩) n n (part Y k) ∧ Own8 wr 5 (some ⟨w.heap.size + 1 + 1, 0, none⟩) n n (part Z k) ∧ Below w.heap.size w wr) (fun i _ => n - (intOf i).toNat)
  case atStart =>
    refine ⟨0, by omega, rfl, ?_, ?_, ?_, ?_⟩
    · exact ((Own8.newAt _ _ _ _ _ _ rfl (by rw [part_zero, lX.out]; simp) (by rw [part_zero, lX.out]; exact toList_mk8 n) (by unfold maxLen; omega)).alloc _).alloc _
    · exact (Own8.newAt _ _ _ _ _ _ (by simp) (by rw [part_zero, lY.out]; simp) (by rw [part_zero, lY.out]; exact toList_mk8 n) (by unfold maxLen; omega)).alloc _
    · exact (Own8.newAt _ _ _ _ _ _ (by simp) (by rw [part_zero, lZ.out]; simp) (by rw [part_zero, lZ.out]; exact toList_mk8 n) (by unfold maxLen; omega))
    · exact (((Below.refl _ _).alloc (by omega) _).alloc (by simp) _).alloc (by simp; omega) _
  case round =>
    obtain ⟨k, hk, rfl, oX, oY, oZ, hbel⟩ := hrel
    by_cases hlt : k < n
    · obtain ⟨p0, f0, rfl, l0, e0⟩ := bA.at_ (k := k) (by rw [← Ha.out]; exact hlt)
      obtain ⟨p1, f1, rfl, l1, e1⟩ := bB.at_ (k := k) (by rw [← Hb.out]; exact hlt)
      obtain ⟨p2, f2, rfl, l2, e2⟩ := bC.at_ (k := k) (by rw [← Hc.out]; exact hlt)
      obtain ⟨va, hva⟩ : ∃ v, la[k]? = some v := ⟨_, List.getElem?_eq_getElem (by rw [← Ha.out]; exact hlt)⟩
      obtain ⟨vb, hvb⟩ : ∃ v, lb[k]? = some v := ⟨_, List.getElem?_eq_getElem (by rw [← Hb.out]; exact hlt)⟩
      obtain ⟨vc, hvc⟩ : ∃ v, lc[k]? = some v := ⟨_, List.getElem?_eq_getElem (by rw [← Hc.out]; exact hlt)⟩
      have K0 : Hid (∀ W : World, Below w.heap.size w W → W.cell? ⟨p0, f0 + k, none⟩ = some (.int .u8 (va.toNat : Int))) := fun W hW => by
        rw [hW.cell (p := ⟨p0, f0 + k, none⟩) l0, e0]; congr 4; exact (List.getElem?_eq_some_iff.1 hva).2
      have K1 : Hid (∀ W : World, Below w.heap.size w W → W.cell? ⟨p1, f1 + k, none⟩ = some (.int .u8 (vb.toNat : Int))) := fun W hW => by
        rw [hW.cell (p := ⟨p1, f1 + k, none⟩) l1, e1]; congr 4; exact (List.getElem?_eq_some_iff.1 hvb).2
      have K2 : Hid (∀ W : World, Below w.heap.size w W → W.cell? ⟨p2, f2 + k, none⟩ = some (.int .u8 (vc.toNat : Int))) := fun W hW => by
        rw [hW.cell (p := ⟨p2, f2 + k, none⟩) l2, e2]; congr 4; exact (List.getElem?_eq_some_iff.1 hvc).2
      obtain ⟨x1, hx1, HX1⟩ := u8_xor' va vb
      obtain ⟨x2, hx2, HX2⟩ := u8_xor' x1 vc
      obtain ⟨y1, hy1, HY1⟩ := u8_xor' va vc
      obtain ⟨z1, hz1, HZ1⟩ := u8_xor' vb vc
      have gX : Hid (X[k]? = some x2) := by rw [HX.out]; exact xors_at (xors_at hva hvb HX1.out) hvc HX2.out
      have gY : Hid (Y[k]? = some y1) := by rw [HY.out]; exact xors_at hva hvc HY1.out
      have gZ : Hid (Z[k]? = some z1) := by rw [HZ.out]; exact xors_at hvb hvc HZ1.out
      clear hva hvb hvc e0 e1 e2 bA bB bC HX HY HZ HX1 HX2 HY1 HZ1
      have hlt' : (k : Int) < (n : Int) := by omega
      have hk0 : (0 : Int) ≤ (k : Int) := by omega
      obtain ⟨bx, cx, fx⟩ := oX.at0 hlt
      have q0 := K0.out wr hbel
      have q1 := K1.out wr hbel
      have q2 := K2.out wr hbel
      go_wp2
      go_region
      have oX' := oX.set (k := k) rfl x2
      rw [part_set X k x2 gX.out] at oX'
      have oY' := (oY.setFar (p := ⟨w.heap.size, k, none⟩) (by simp [blkOf]) (.int .u8 (x2.toNat : Int))).drew
      have oZ' := (oZ.setFar (p := ⟨w.heap.size, k, none⟩) (by simp [blkOf]; omega) (.int .u8 (x2.toNat : Int))).drew
      have hbel' := (hbel.setCell (p := ⟨w.heap.size, k, none⟩) (Nat.le_refl _) (.int .u8 (x2.toNat : Int))).drew
      have oX'' := oX'.drew
      clear oX oY oZ hbel oX' q0 q1 q2 cx fx hx1 hx2
      generalize (wr.setCell ⟨w.heap.size, k, none⟩ (.int .u8 (x2.toNat : Int))).drew = W1 at *
      obtain ⟨by', cy, fy⟩ := oY'.at0 hlt
      have q0 := K0.out W1 hbel'
      have q2 := K2.out W1 hbel'
      go_wp2
      go_region
      have oY1 := oY'.set (k := k) rfl y1
      rw [part_set Y k y1 gY.out] at oY1
      have oX1 := (oX''.setFar (p := ⟨w.heap.size + 1, k, none⟩) (by simp [blkOf]) (.int .u8 (y1.toNat : Int))).drew
      have oZ1 := (oZ'.setFar (p := ⟨w.heap.size + 1, k, none⟩) (by simp [blkOf]) (.int .u8 (y1.toNat : Int))).drew
      have hbel1 := (hbel'.setCell (p := ⟨w.heap.size + 1, k, none⟩) (by simp) (.int .u8 (y1.toNat : Int))).drew
      have oY2 := oY1.drew
      clear oX'' oY' oZ' hbel' oY1 q0 q2 cy fy hy1
      generalize (W1.setCell ⟨w.heap.size + 1, k, none⟩ (.int .u8 (y1.toNat : Int))).drew = W2 at *
      obtain ⟨bz, cz, fz⟩ := oZ1.at0 hlt
      have q1 := K1.out W2 hbel1
      have q2 := K2.out W2 hbel1
      go_wp2
      go_region
      have oZ2 := oZ1.set (k := k) rfl z1
      rw [part_set Z k z1 gZ.out] at oZ2
      have oX2 := (oX1.setFar (p := ⟨w.heap.size + 1 + 1, k, none⟩) (by simp [blkOf]; omega) (.int .u8 (z1.toNat : Int))).drew
      have oY3 := (oY2.setFar (p := ⟨w.heap.size + 1 + 1, k, none⟩) (by simp [blkOf]) (.int .u8 (z1.toNat : Int))).drew
      have hbel2 := (hbel1.setCell (p := ⟨w.heap.size + 1 + 1, k, none⟩) (by simp; omega) (.int .u8 (z1.toNat : Int))).drew
      have oZ3 := oZ2.drew
      clear oX1 oY2 oZ1 hbel1 oZ2 q1 q2 cz fz hz1 K0 K1 K2
      generalize (W2.setCell ⟨w.heap.size + 1 + 1, k, none⟩ (.int .u8 (z1.toNat : Int))).drew = W3 at *
      go_wp2
      go_roundw
      case rel => exact ⟨k + 1, by omega, by go_num, oX2, oY3, oZ3, hbel2⟩
      case measure => simp [intOf]; omega
    · obtain rfl : k = n := by omega
      have pX : part X k = X := by have := part_all X; rwa [lX.out] at this
      have pY : part Y k = Y := by have := part_all Y; rwa [lY.out] at this
      have pZ : part Z k = Z := by have := part_all Z; rwa [lZ.out] at this
      rw [pX] at oX
      rw [pY] at oY
      rw [pZ] at oZ
      have bX := oX.byt
      have bY := oY.byt
      have bZ := oZ.byt
      have bA' := bA.below hbel
      have bB' := bB.below hbel
      have bC' := bC.below hbel
      have s3 := Crc.sum_three (a := la) (b := lb) (c := lc) (by rw [← Ha.out, ← Hb.out]) (by rw [← Ha.out, ← Hc.out])
      have s2 := Crc.sum_pairs (a := la) (b := lb) (c := lc) (by rw [← Ha.out, ← Hb.out]) (by rw [← Ha.out, ← Hc.out])
      rw [← HX.out] at s3
      rw [← HY.out, ← HZ.out] at s2
      have r1 : (((Crc.sum X : Nat) : Int) == bits BinOp.xor IntKind.u32 (bits BinOp.xor IntKind.u32 ((Crc.sum la : Nat) : Int) ((Crc.sum lb : Nat) : Int)) ((Crc.sum lc : Nat) : Int)) = true := by
        rw [u32_xor_nat _ _ (Crc.sum_lt _) (Crc.sum_lt _), u32_xor_nat _ _ (Nat.xor_lt_two_pow (n := 32) (Crc.sum_lt _) (Crc.sum_lt _)) (Crc.sum_lt _), s3]
        simp
      have r2 : (bits BinOp.xor IntKind.u32 ((Crc.sum la : Nat) : Int) ((Crc.sum Y : Nat) : Int) == bits BinOp.xor IntKind.u32 ((Crc.sum lb : Nat) : Int) ((Crc.sum Z : Nat) : Int)) = true := by
        rw [u32_xor_nat _ _ (Crc.sum_lt _) (Crc.sum_lt _), u32_xor_nat _ _ (Crc.sum_lt _) (Crc.sum_lt _), s2]
        simp
      have ma : la.length ≤ 300 := by rw [← Ha.out]; exact h1
      have mb : lb.length ≤ 300 := by rw [← Hb.out]; exact h1
      have mc : lc.length ≤ 300 := by rw [← Hc.out]; exact h1
      have mx : X.length ≤ 300 := by rw [lX.out]; exact h1
      have my : Y.length ≤ 300 := by rw [lY.out]; exact h1
      have mz : Z.length ≤ 300 := by rw [lZ.out]; exact h1
      clear oX oY oZ s2 s3 pX pY pZ HX HY HZ bA bB bC
      have hB := hbel.size
      go_wp2_with fail
      refine (alive_calls _).mono ?_
      rintro e t1 ⟨rfl, b1⟩
      go_wp2_with fail
      refine (sum_calls _ _ X _ _ lX.out.symm (by omega) (bX.below b1)).mono ?_
      rintro e t2 ⟨rfl, b2⟩
      have b2 := bnext b1 b2
      go_wp2_with fail
      refine (sum_calls _ _ la _ _ Ha.out (by omega) (bA'.below (b2.mono hB))).mono ?_
      rintro e t3 ⟨rfl, b3⟩
      have b3 := bnext b2 b3
      go_wp2_with fail
      refine (sum_calls _ _ lb _ _ Hb.out (by omega) (bB'.below (b3.mono hB))).mono ?_
      rintro e t4 ⟨rfl, b4⟩
      have b4 := bnext b3 b4
      go_wp2_with fail
      refine (sum_calls _ _ lc _ _ Hc.out (by omega) (bC'.below (b4.mono hB))).mono ?_
      rintro e t5 ⟨rfl, b5⟩
      have b5 := bnext b4 b5
      go_wp2_with fail
      refine (sum_calls _ _ la _ _ Ha.out (by omega) (bA'.below (b5.mono hB))).mono ?_
      rintro e t6 ⟨rfl, b6⟩
      have b6 := bnext b5 b6
      go_wp2_with fail
      refine (sum_calls _ _ Y _ _ lY.out.symm (by omega) (bY.below b6)).mono ?_
      rintro e t7 ⟨rfl, b7⟩
      have b7 := bnext b6 b7
      go_wp2_with fail
      refine (sum_calls _ _ lb _ _ Hb.out (by omega) (bB'.below (b7.mono hB))).mono ?_
      rintro e t8 ⟨rfl, b8⟩
      have b8 := bnext b7 b8
      go_wp2_with fail
      refine (sum_calls _ _ Z _ _ lZ.out.symm (by omega) (bZ.below b8)).mono ?_
      rintro e t9 ⟨rfl, b9⟩
      have b9 := bnext b8 b9
      go_wp2_with fail
      go_ret
      exact ⟨rfl, bnext hbel b9⟩

theorem crcLinear_walk (A0 : Option Addr) (n0 c0 : Nat) (l0 : List UInt8) (A1 : Option Addr) (n1 c1 : Nat) (l1 : List UInt8) (A2 : Option Addr) (n2 c2 : Nat) (l2 : List UInt8) (w : World)
    (h0 : n0 = l0.length) (m0 : n0 ≤ maxLen) (b0 : Byt w w.heap.size A0 l0) (h1 : n1 = l1.length) (_m1 : n1 ≤ maxLen) (b1 : Byt w w.heap.size A1 l1) (h2 : n2 = l2.length) (_m2 : n2 ≤ maxLen) (b2 : Byt w w.heap.size A2 l2) :
    Calls Try.prog 7 #[.slice A0 n0 c0, .slice A1 n1 c1, .slice A2 n2 c2] w fun e w' => e = .returned (.bool true) ∧ Below w.heap.size w w' := by
  unfold maxLen at m0
  by_cases h : 300 < n0 ∨ n1 ≠ n0 ∨ n2 ≠ n0
  · exact crcLinear_bad A0 n0 c0 A1 n1 c1 A2 n2 c2 w (by omega) h
  · obtain rfl : n1 = n0 := by omega
    obtain rfl : n2 = n1 := by omega
    exact crcLinear_good n2 A0 c0 l0 A1 c1 l1 A2 c2 l2 w h0 h1 h2 (by omega) b0 b1 b2
end Go.Proofs.Ytohpbkkaboebdaa
