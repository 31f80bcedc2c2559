/- Golomb codes that are got, the program's and the document's readers, each function by its contract. Conditions: the objects are as the calls leave them; at most 2^40 bytes. -/
import Derived.Test.YtijcollcncjdoaaGolWalks
import Derived.Test.YtijcollcncjdoaaBitsRAny
namespace Go.Proofs.Ytijcollcncjdoaa
open Go.RowKit Kin

/-- the bits from k on -/
abbrev bitsOf (l : List UInt8) (k : Nat) : List Bool := (Bit.row l).drop k
theorem length_bitsOf (l : List UInt8) (k : Nat) : (bitsOf l k).length = 8 * l.length - k := by rw [List.length_drop, Bit.length_row]
theorem bitsOf_at (l : List UInt8) (k n : Nat) (h : k + n < 8 * l.length) : (bitsOf l k).getD n false = Bit.rbit l (k + n) := by
  rw [List.getD, List.getElem?_drop, Bit.row_at l h]; rfl
theorem get_one (l : List UInt8) (m : Nat) : Bit.get l m 1 = (Bit.rbit l m).toNat := by
  have := Bit.get_succ l m 0
  rw [Bit.get_zero] at this
  simpa using this
theorem get_zeros {l : List UInt8} {k n : Nat} (h : Gol.zerosTo (bitsOf l k) n) (hk : k ≤ 8 * l.length) : Bit.get l k n = 0 := by
  induction n with
  | zero => rfl
  | succ n ih =>
    have h1 := h.1
    rw [length_bitsOf] at h1
    rw [Bit.get_succ, ih ⟨by rw [length_bitsOf]; omega, fun i hi => h.2 i (by omega)⟩, ← bitsOf_at l k n (by omega), h.2 n (by omega)]; rfl
theorem gol_val {l : List UInt8} {k n : Nat} (h : Gol.zerosTo (bitsOf l k) n) (hn : n < 32) (hb : Bit.rbit l (k + n) = true) (hl : k + n + 1 + n ≤ 8 * l.length) :
    Gol.gE (bitsOf l k) = 0 ∧ Gol.gK (bitsOf l k) = 2 * n + 1 ∧ Gol.gV (bitsOf l k) = 2 ^ n + Bit.get l (k + n + 1) n - 1 := by
  have hs : (bitsOf l k).getD n false = true := by rw [bitsOf_at l k n (by omega)]; exact hb
  obtain ⟨e1, e2, e3⟩ := Gol.gE_good h hn hs (by rw [length_bitsOf]; omega)
  refine ⟨e1, e2, ?_⟩
  rw [e3, get_row l k (2 * n + 1) (by omega), show 2 * n + 1 = n + (1 + n) from by omega, Bit.get_add, get_zeros h (by omega), Bit.get_add, get_one, hb]
  simp

theorem gget_nil (w : World) : Calls Try.prog 41 #[.pointer none] w fun e w' => e = .returned (.tuple #[.int .u64 0, .int .i64 1]) ∧ w = w' := by
  go_enter Try.func41, Try.ntmps41
  go_wp2
  go_ret2
  exact ⟨rfl, rfl⟩

theorem u64_top (n low : Nat) (hn : n < 32) (hl : low < 2 ^ n) : bits BinOp.or IntKind.u64 (IntKind.u64.wrap (2 ^ n)) (low : Int) = ((2 ^ n + low : Nat) : Int) := by
  have hp : 2 ^ n ≤ 2 ^ 31 := Nat.pow_le_pow_right (by omega) (by omega)
  have ew : IntKind.u64.wrap (2 ^ n) = 2 ^ n := by
    have e1 : ((2 ^ n : Nat) : Int) = 2 ^ n := by simp
    rw [← e1, IntKind.wrap_u64]; omega
  rw [ew]
  have e := u64_or_nat (2 ^ n) low (by omega) (by omega)
  rw [show (((2 ^ n : Nat)) : Int) = 2 ^ n from by simp] at e
  rw [e]
  congr 1
  have h3 := Nat.two_pow_add_eq_or_of_lt hl 1
  rw [Nat.mul_one] at h3
  exact h3.symm

set_option maxRecDepth 100000 in
set_option maxHeartbeats 4000000 in
theorem gget_any (g r : Nat) (l : List UInt8) (k : Nat) (w : World) (h : ReaderIs w g r l k) :
    Calls Try.prog 41 #[.pointer (some ⟨g, 0, none⟩)] w
      fun e w' => e = .returned (.tuple #[.int .u64 (Gol.gV (bitsOf l k) : Int), .int .i64 (Gol.gE (bitsOf l k))]) ∧ ReaderIs w' g r l (k + Gol.gK (bitsOf l k)) ∧ Chg (One g) w w' := by
  have c0 : w.cell? ⟨g, 0, none⟩ = some (.slice (some ⟨r, 0, none⟩) l.length l.length) := h.1.cell 0
  have c1 : w.cell? ⟨g, 1, none⟩ = some (.int .i64 (k : Int)) := h.1.cell 1
  have hk8 := h.2.2.1
  have hl40 := h.2.2.2
  have hgl := h.lt
  have bA := Blk.new w 84 #[.slice (some ⟨r, 0, none⟩) l.length l.length, .int .i64 (k : Int)]
  have hA : ReaderIs (w.alloc (.cells #[.slice (some ⟨r, 0, none⟩) l.length l.length, .int .i64 (k : Int)] 84)) w.heap.size r l (k + 0) := ⟨bA, h.2.1.alloc _, hk8, hl40⟩
  have hb0 : Below w.heap.size w (w.alloc (.cells #[.slice (some ⟨r, 0, none⟩) l.length l.length, .int .i64 (k : Int)] 84)) := (Below.refl _ _).alloc (Nat.le_refl _) _
  have HGE : Hid (∀ v e, v = Gol.gV (bitsOf l k) → e = Gol.gE (bitsOf l k) → Ending.returned (.tuple #[.int .u64 (v : Int), .int .i64 e]) = .returned (.tuple #[.int .u64 (Gol.gV (bitsOf l k) : Int), .int .i64 (Gol.gE (bitsOf l k))])) := fun v e h1 h2 => by rw [h1, h2]
  have HH := hide h
  clear bA h
  go_enter Try.func41, Try.ntmps41
  go_wp2
  generalize w.alloc (.cells #[.slice (some ⟨r, 0, none⟩) l.length l.length, .int .i64 (k : Int)] 84) = W0 at *
  obtain ⟨ga, hga⟩ : ∃ x, x = w.heap.size := ⟨_, rfl⟩
  rw [← hga] at hA
  rw [← hga]
  have hgg : g < ga := by omega
  have hwga : w.heap.size ≤ ga := by omega
  clear hga c0 c1
  go_loopw [14] (fun nv wr => ∃ n : Nat, n ≤ 32 ∧ nv = .int .i64 (n : Int) ∧ Hid (Gol.zerosTo (bitsOf l k) n) ∧ ReaderIs wr ga r l (k + n) ∧ Below w.heap.size w wr) (fun nv _ => 32 - (intOf nv).toNat)
  case atStart => exact ⟨0, by omega, rfl, ⟨Nat.zero_le _, fun i hi => absurd hi (by omega)⟩, hA, hb0⟩
  case round =>
    obtain ⟨n, hn, rfl, HZ, hr, hb⟩ := hrel
    clear hA hb0
    by_cases hlt : n < 32
    · by_cases hs : 8 * l.length < k + n + 1
      · have hE : Gol.gE (bitsOf l k) = 11 := by
          have h1 := HZ.out.1
          rw [length_bitsOf] at h1
          exact Gol.gE_short HZ.out hlt (.inl (by rw [length_bitsOf]; omega)) (by rw [length_bitsOf]; omega)
        have HE := hide hE
        clear hE
        go_wp2_with fail
        refine (get_short ga r l (k + n) 1 _ hr (by omega) hs).mono ?_
        rintro e t1 ⟨rfl, b1⟩
        go_wp2
        go_ret2
        refine ⟨HGE.out 0 11 (by rw [Gol.gV_bad (by rw [HE.out]; decide)]) HE.out.symm, ?_, Chg.of_below (hb.trans (b1.mono hb.size))⟩
        rw [Gol.gK_bad (by rw [HE.out]; decide), Nat.add_zero]
        exact HH.out.below (hb.trans (b1.mono hb.size))
      · have hg1 := get_one l (k + n)
        have HG1 := hide hg1
        have hbit := bitsOf_at l k n (by omega)
        have HBIT := hide hbit
        clear hg1 hbit
        go_wp2_with fail
        refine (get_calls ga r l (k + n) 1 _ hr (by omega) (by omega)).mono ?_
        rintro e t1 ⟨rfl, hr1, ch1⟩
        have b1 := hb.trans (ch1.below (fun i h => by have h : i = ga := h; omega) hb.size)
        rw [HG1.out]
        cases hrb : Bit.rbit l (k + n)
        · have HZ2 : Hid (Gol.zerosTo (bitsOf l k) (n + 1)) := ⟨by rw [length_bitsOf]; omega, fun i hi => by
            by_cases e : i = n
            · subst e; rw [HBIT.out, hrb]
            · exact HZ.out.2 i (by omega)⟩
          clear hr hb ch1 HG1 HBIT HZ hrb
          rw [show (((false : Bool).toNat : Nat) : Int) = 0 from rfl]
          go_wp2
          go_roundw
          case rel => exact ⟨n + 1, by omega, by go_num, HZ2, by rw [← Nat.add_assoc]; exact hr1, b1⟩
          case measure => simp [intOf]; omega
        · rw [show (((true : Bool).toNat : Nat) : Int) = 1 from rfl]
          have HRB := hide hrb
          clear hr hb ch1 HG1 hrb
          by_cases hs2 : 8 * l.length < k + n + 1 + n
          · have hE : Gol.gE (bitsOf l k) = 11 := Gol.gE_short HZ.out hlt (.inr (by rw [HBIT.out, HRB.out])) (by rw [length_bitsOf]; omega)
            have HE := hide hE
            clear hE
            go_wp2_with fail
            refine (get_short ga r l (k + n + 1) n _ hr1 (by omega) hs2).mono ?_
            rintro e t2 ⟨rfl, b2⟩
            go_wp2
            go_ret2
            refine ⟨HGE.out 0 11 (by rw [Gol.gV_bad (by rw [HE.out]; decide)]) HE.out.symm, ?_, Chg.of_below (b1.trans (b2.mono b1.size))⟩
            rw [Gol.gK_bad (by rw [HE.out]; decide), Nat.add_zero]
            exact HH.out.below (b1.trans (b2.mono b1.size))
          · have HV := hide (gol_val HZ.out hlt HRB.out (by omega))
            have hlow := Bit.get_lt l (k + n + 1) n
            go_wp2_with fail
            refine (get_calls ga r l (k + n + 1) n _ hr1 (by omega) (by omega)).mono ?_
            rintro e t2 ⟨rfl, hr2, ch2⟩
            have b2 := b1.trans (ch2.below (fun i h => by have h : i = ga := h; omega) b1.size)
            have hr2g := HH.out.below b2
            generalize Bit.get l (k + n + 1) n = low at *
            have hor := u64_top n low hlt hlow
            have hpow : 2 ^ n ≤ 2 ^ 31 := Nat.pow_le_pow_right (by omega) (by omega)
            have hp1 : 1 ≤ 2 ^ n := Nat.one_le_two_pow
            have hsum1 : 1 ≤ 2 ^ n + low := by omega
            have hsum2 : 2 ^ n + low < 4294967296 := by omega
            generalize hY : 2 ^ n + low = Y at *
            have hY1 : (1 : Int) ≤ (Y : Int) := by omega
            have hY2 : (Y : Int) < 4294967296 := by omega
            have d0 : t2.cell? ⟨ga, 0, none⟩ = some (.slice (some ⟨r, 0, none⟩) l.length l.length) := hr2.1.cell 0
            have d1 : t2.cell? ⟨ga, 1, none⟩ = some (.int .i64 ((k + n + 1 + n : Nat) : Int)) := hr2.1.cell 1
            have e0 : t2.cell? ⟨g, 0, none⟩ = some (.slice (some ⟨r, 0, none⟩) l.length l.length) := hr2g.1.cell 0
            have e1 : t2.cell? ⟨g, 1, none⟩ = some (.int .i64 (k : Int)) := hr2g.1.cell 1
            have f0 := hr2g.1.frozen 0
            have f1 := hr2g.1.frozen 1
            clear hr1 b1 ch2 hlow hY hpow hp1
            generalize hkk : k + n + 1 + n = kk at *
            have HKK := hide hkk
            clear hkk
            go_wp2
            go_ret2
            have hw3 := (hr2g.1.set_ 0 (.slice (some ⟨r, 0, none⟩) l.length l.length)).set_ 1 (.int .i64 (kk : Int))
            have ho3 := (hr2g.2.1.setFar (p := ⟨g, 0, none⟩) (by have := hr2g.ne; simp [blkOf]; exact this) (.slice (some ⟨r, 0, none⟩) l.length l.length)).setFar (p := ⟨g, 1, none⟩) (by have := hr2g.ne; simp [blkOf]; exact this) (.int .i64 (kk : Int))
            refine ⟨?_, ?_, ((Chg.of_below (S := One g) b2).setCell (p := ⟨g, 0, none⟩) (.inl rfl) _).setCell (p := ⟨g, 1, none⟩) (.inl rfl) _⟩
            · have e := HGE.out (Y - 1) 0 HV.out.2.2.symm HV.out.1.symm
              rw [show ((Y - 1 : Nat) : Int) = (Y : Int) - 1 from by omega] at e
              exact e
            · rw [HV.out.2.1]
              have hk2 : k + (2 * n + 1) = kk := by have := HKK.out; omega
              rw [hk2]
              exact ⟨by simpa using hw3, ho3, by omega, hl40⟩
    · obtain rfl : n = 32 := by omega
      rw [show (((32 : Nat) : Int)) = 32 from rfl]
      have HE := hide (Gol.gE_golomb HZ.out)
      clear hlt hn
      go_wp2
      go_ret2
      refine ⟨HGE.out 0 21 (by rw [Gol.gV_bad (by rw [HE.out]; decide)]) HE.out.symm, ?_, Chg.of_below hb⟩
      rw [Gol.gK_bad (by rw [HE.out]; decide), Nat.add_zero]
      exact HH.out.below hb

theorem zeros_succ {B : List Bool} {n : Nat} (h : Gol.zerosTo B n) (h1 : n < B.length) (h2 : B.getD n false = false) : Gol.zerosTo B (n + 1) :=
  ⟨by omega, fun i hi => by
    by_cases e : i = n
    · subst e; exact h2
    · exact h.2 i (by omega)⟩

set_option maxRecDepth 100000 in
set_option maxHeartbeats 4000000 in
theorem refgget_any (g : Nat) (R : Option Nat) (l : List UInt8) (k : Nat) (w : World) (h : RefRIs w g R (Bit.row l) k) (hl30 : l.length ≤ 1000000) :
    Calls Try.prog 47 #[.pointer (some ⟨g, 0, none⟩)] w
      fun e w' => e = .returned (.tuple #[.int .u64 (Gol.gV (bitsOf l k) : Int), .int .i64 (Gol.gE (bitsOf l k))]) ∧ RefRIs w' g R (Bit.row l) (k + Gol.gK (bitsOf l k)) ∧ Chg (One g) w w' := by
  have HH := hide h
  obtain ⟨⟨A, m, c, h1, h2, hR⟩, hk, hB⟩ := h
  have hm : m = 8 * l.length := by rw [h2.1, Bit.length_zo, Bit.length_row]
  have hmc := Own8.cap h2
  have hk8 : k ≤ m := by rw [Bit.length_row] at hk; omega
  have hm40 : m ≤ 8000000 := by omega
  have hne : blkOf A ≠ some g := by have := own_blk_ne h2.2 h1 (by decide); rwa [ownBlock_slice] at this
  have HNE := hide hne
  have HGE : Hid (∀ v e, v = Gol.gV (bitsOf l k) → e = Gol.gE (bitsOf l k) → Ending.returned (.tuple #[.int .u64 (v : Int), .int .i64 e]) = .returned (.tuple #[.int .u64 (Gol.gV (bitsOf l k) : Int), .int .i64 (Gol.gE (bitsOf l k))])) := fun v e h1 h2 => by rw [h1, h2]
  have HM := hide hm
  have HLB : Hid ((bitsOf l k).length = m - k) := by rw [length_bitsOf, hm]; exact rfl
  clear hm hne hk hB
  go_enter Try.func47, Try.ntmps47
  go_wp2
  go_loopw [4] (fun nv wr => ∃ n : Nat, n ≤ 32 ∧ nv = .int .i64 (n : Int) ∧ Hid (Gol.zerosTo (bitsOf l k) n) ∧ k + n ≤ m ∧ Blk wr g 89 #[.slice A m c, .int .i64 (k : Int)] ∧ Kin.Own8 wr 5 A m c (Bit.zo (Bit.row l)) ∧ Below w.heap.size w wr) (fun nv _ => 32 - (intOf nv).toNat)
  case atStart => exact ⟨0, by omega, rfl, ⟨Nat.zero_le _, fun i hi => absurd hi (by omega)⟩, by omega, h1, h2, Below.refl _ _⟩
  case round =>
    obtain ⟨n, hn, rfl, HZ, hkn, q1, q2, qb⟩ := hrel
    clear h1 h2
    have c0 : wr.cell? ⟨g, 0, none⟩ = some (.slice A m c) := q1.cell 0
    have c1 : wr.cell? ⟨g, 1, none⟩ = some (.int .i64 (k : Int)) := q1.cell 1
    have e1 : IntKind.i64.wrap ((k : Int) + (n : Int)) = (k : Int) + (n : Int) := by rw [IntKind.wrap_i64]; omega
    by_cases hlt : n < 32
    · have d32 : decide ((n : Int) < 32) = true := by simp; omega
      by_cases hin : k + n < m
      · have d2 : decide ((k : Int) + (n : Int) < (m : Int)) = true := by simp; omega
        have hinB : k + n < 8 * l.length := by rw [← HM.out]; exact hin
        obtain ⟨rr, off, rfl, _, hc⟩ := q2.byt.at_ (k := k + n) (by rw [Bit.length_zo, Bit.length_row]; exact hinB)
        have hzo : (Bit.zo (Bit.row l))[k + n]'(by rw [Bit.length_zo, Bit.length_row]; exact hinB) = Bit.one (Bit.rbit l (k + n)) := by
          have e1 := Bit.zo_at (Bit.row l) (k + n)
          rw [List.getElem?_eq_getElem (by rw [Bit.length_zo, Bit.length_row]; exact hinB), Bit.row_at l hinB] at e1
          simpa using e1
        rw [hzo, Bit.one_toNat] at hc
        have HBT := hide (bitsOf_at l k n hinB)
        have i0 : (0 : Int) ≤ (k : Int) + (n : Int) := by omega
        have i1 : (k : Int) + (n : Int) < (m : Int) := by omega
        have i2 : ((k : Int) + (n : Int)).toNat = k + n := by omega
        clear hzo
        cases hrb : Bit.rbit l (k + n)
        · rw [hrb] at hc HBT
          have hc : wr.cell? ⟨rr, off + (k + n), none⟩ = some (.int .u8 0) := hc
          have HZ2 : Hid (Gol.zerosTo (bitsOf l k) (n + 1)) := zeros_succ HZ.out (by rw [HLB.out]; omega) HBT.out
          clear hrb HBT
          go_wp2
          go_quiet (fail)
          have q1q := q1.drewN nq
          have q2q := q2.drewN nq
          have qbq := qb.trans ((dN _ nq).mono qb.size)
          clear c0 c1 hc q1 q2 qb i2 e1
          generalize wr.drewN nq = V at *
          go_wp2
          go_roundw
          case rel => exact ⟨n + 1, by omega, by go_num, HZ2, by omega, q1q, q2q, qbq⟩
          case measure => simp [intOf]; omega
        · rw [hrb] at hc HBT
          have hc : wr.cell? ⟨rr, off + (k + n), none⟩ = some (.int .u8 1) := hc
          have HRB := hide hrb
          clear hrb
          have e2 : IntKind.i64.wrap (2 * (n : Int)) = 2 * (n : Int) := by rw [IntKind.wrap_i64]; omega
          have e3 : IntKind.i64.wrap ((k : Int) + 2 * (n : Int)) = (k : Int) + 2 * (n : Int) := by rw [IntKind.wrap_i64]; omega
          have e4 : IntKind.i64.wrap ((k : Int) + 2 * (n : Int) + 1) = (k : Int) + 2 * (n : Int) + 1 := by rw [IntKind.wrap_i64]; omega
          have n32 : ((n : Int) == 32) = false := by simp; omega
          by_cases hs2 : m < k + n + 1 + n
          · have HE : Hid (Gol.gE (bitsOf l k) = 11) := Gol.gE_short HZ.out hlt (.inr HBT.out) (by rw [HLB.out]; omega)
            have d3 : decide ((m : Int) < (k : Int) + 2 * (n : Int) + 1) = true := by simp; omega
            go_wp2
            go_quiet (fail)
            have qbq := qb.trans ((dN _ nq).mono qb.size)
            have c0q : (wr.drewN nq).cell? ⟨g, 0, none⟩ = some (.slice (some ⟨rr, off, none⟩) m c) := c0
            have c1q : (wr.drewN nq).cell? ⟨g, 1, none⟩ = some (.int .i64 (k : Int)) := c1
            clear c0 c1 q1 q2 qb
            generalize wr.drewN nq = V at *
            go_wp2
            go_quiet (fail)
            have qbr := qbq.trans ((dN _ nq).mono qbq.size)
            go_wp2
            go_ret2
            refine ⟨HGE.out 0 11 (by rw [Gol.gV_bad (by rw [HE.out]; decide)]) HE.out.symm, ?_, Chg.of_below qbr⟩
            rw [Gol.gK_bad (by rw [HE.out]; decide), Nat.add_zero]
            exact HH.out.below qbr
          · have d3 : decide ((m : Int) < (k : Int) + 2 * (n : Int) + 1) = false := by simp; omega
            have HV := hide (gol_val HZ.out hlt HRB.out (by rw [← HM.out]; omega))
            have hsl := run_cut8 bytesT (some ⟨rr, off, none⟩) m c .i64 .i64 k (k + (2 * n + 1)) k ((k : Int) + 2 * (n : Int) + 1) rfl (by omega) (by omega) (by omega)
            rw [Nat.add_sub_cancel_left] at hsl
            have HBY : Hid (∀ w', Byt w' w'.heap.size (some ⟨rr, off, none⟩) (Bit.zo (Bit.row l)) → Byt w' w'.heap.size (cutA (some ⟨rr, off, none⟩) c k) (Bit.zo ((bitsOf l k).take (2 * n + 1)))) := fun w' hb => by
              rw [← Bit.zo_take, ← Bit.zo_drop]
              exact (hb.cut k (by rw [Bit.length_zo, Bit.length_row, ← HM.out]; exact hmc)).take (2 * n + 1)
            have HLEN : Hid (2 * n + 1 = ((bitsOf l k).take (2 * n + 1)).length) := by show _ = _; rw [List.length_take, HLB.out]; omega
            have HNV : Hid (Gol.gV (bitsOf l k) = Bit.num ((bitsOf l k).take (2 * n + 1)) - 1) := (Gol.gE_good HZ.out hlt HBT.out (by rw [HLB.out]; omega)).2.2
            have hnv1 : 1 ≤ Bit.num ((bitsOf l k).take (2 * n + 1)) := by
              have h1 := HNV.out
              have h2 := HV.out.2.2
              have h3 : 1 ≤ 2 ^ n := Nat.one_le_two_pow
              rw [get_row l k (2 * n + 1) (by rw [← HM.out]; omega), show 2 * n + 1 = n + (1 + n) from by omega, Bit.get_add, Bit.get_add, get_one, HRB.out]
              have : 1 * 2 ^ n ≥ 1 := by omega
              have e : (true : Bool).toNat = 1 := rfl
              rw [e]
              omega
            have hnv2 : Bit.num ((bitsOf l k).take (2 * n + 1)) < 9223372036854775808 := by
              have h1 := Bit.num_lt ((bitsOf l k).take (2 * n + 1))
              have h2 : 2 ^ ((bitsOf l k).take (2 * n + 1)).length ≤ 2 ^ 63 := Nat.pow_le_pow_right (by omega) (by rw [List.length_take]; omega)
              omega
            have HNC : Hid (∀ w', Kin.Own8 w' 5 (some ⟨rr, off, none⟩) m c (Bit.zo (Bit.row l)) → Calls Try.prog 59 #[.slice (cutA (some ⟨rr, off, none⟩) c k) (2 * n + 1) (c - k)] w' fun e w'' => e = .returned (.int .u64 (Bit.num ((bitsOf l k).take (2 * n + 1)) : Int)) ∧ w' = w'') :=
              fun w' ho => number_calls _ _ _ ((bitsOf l k).take (2 * n + 1)) _ HLEN.out (by omega) (HBY.out _ ho.byt)
            clear HBY HLEN
            generalize cutA (some ⟨rr, off, none⟩) c k = A' at *
            generalize Bit.num ((bitsOf l k).take (2 * n + 1)) = Y at *
            generalize c - k = cc at *
            go_wp2
            go_quiet (fail)
            have q1q := q1.drewN nq
            have q2q := q2.drewN nq
            have qbq := qb.trans ((dN _ nq).mono qb.size)
            have c0q : (wr.drewN nq).cell? ⟨g, 0, none⟩ = some (.slice (some ⟨rr, off, none⟩) m c) := c0
            have c1q : (wr.drewN nq).cell? ⟨g, 1, none⟩ = some (.int .i64 (k : Int)) := c1
            clear c0 c1 q1 q2 qb hc i2 e1
            generalize wr.drewN nq = V at *
            go_wp2
            go_quiet (fail)
            have q1r := q1q.drewN nq
            have q2r := q2q.drewN nq
            have qbr := qbq.trans ((dN _ nq).mono qbq.size)
            have c0r : (V.drewN nq).cell? ⟨g, 0, none⟩ = some (.slice (some ⟨rr, off, none⟩) m c) := c0q
            have c1r : (V.drewN nq).cell? ⟨g, 1, none⟩ = some (.int .i64 (k : Int)) := c1q
            clear c0q c1q q1q q2q qbq
            generalize V.drewN nq = V2 at *
            go_wp2
            go_quiet ((go_at_call 59; exact quiet_left (HNC.out _ (q2r.drewN _))))
            have q1s := q1r.drewN nq
            have q2s := q2r.drewN nq
            have qbs := qbr.trans ((dN _ nq).mono qbr.size)
            have c1s : (V2.drewN nq).cell? ⟨g, 1, none⟩ = some (.int .i64 (k : Int)) := c1r
            have f1s := q1s.frozen 1
            clear c0r c1r q1r q2r qbr
            generalize V2.drewN nq = V3 at *
            go_wp2
            go_ret2
            have hw3 := q1s.set_ 1 (.int .i64 ((k : Int) + 2 * (n : Int) + 1))
            refine ⟨?_, ?_, (Chg.of_below (S := One g) qbs).setCell (p := ⟨g, 1, none⟩) (.inl rfl) _⟩
            · have e := HGE.out (Y - 1) 0 HNV.out.symm HV.out.1.symm
              rw [show ((Y - 1 : Nat) : Int) = (Y : Int) - 1 from by omega] at e
              exact e
            · rw [HV.out.2.1]
              refine ⟨⟨_, m, c, ?_, q2s.setFar (p := ⟨g, 1, none⟩) HNE.out _, hR⟩, by rw [Bit.length_row, ← HM.out]; omega, HH.out.2.2⟩
              rw [show (((k + (2 * n + 1) : Nat)) : Int) = (k : Int) + 2 * (n : Int) + 1 from by omega]
              simpa using hw3
      · have d2 : decide ((k : Int) + (n : Int) < (m : Int)) = false := by simp; omega
        have e2 : IntKind.i64.wrap (2 * (n : Int)) = 2 * (n : Int) := by rw [IntKind.wrap_i64]; omega
        have e3 : IntKind.i64.wrap ((k : Int) + 2 * (n : Int)) = (k : Int) + 2 * (n : Int) := by rw [IntKind.wrap_i64]; omega
        have e4 : IntKind.i64.wrap ((k : Int) + 2 * (n : Int) + 1) = (k : Int) + 2 * (n : Int) + 1 := by rw [IntKind.wrap_i64]; omega
        have n32 : ((n : Int) == 32) = false := by simp; omega
        have HE : Hid (Gol.gE (bitsOf l k) = 11) := Gol.gE_short HZ.out hlt (.inl (by rw [HLB.out]; omega)) (by rw [HLB.out]; omega)
        have d3 : decide ((m : Int) < (k : Int) + 2 * (n : Int) + 1) = true := by simp; omega
        go_wp2
        go_quiet (fail)
        have qbq := qb.trans ((dN _ nq).mono qb.size)
        have c0q : (wr.drewN nq).cell? ⟨g, 0, none⟩ = some (.slice A m c) := c0
        have c1q : (wr.drewN nq).cell? ⟨g, 1, none⟩ = some (.int .i64 (k : Int)) := c1
        clear c0 c1 q1 q2 qb
        generalize wr.drewN nq = V at *
        go_wp2
        go_quiet (fail)
        have qbr := qbq.trans ((dN _ nq).mono qbq.size)
        go_wp2
        go_ret2
        refine ⟨HGE.out 0 11 (by rw [Gol.gV_bad (by rw [HE.out]; decide)]) HE.out.symm, ?_, Chg.of_below qbr⟩
        rw [Gol.gK_bad (by rw [HE.out]; decide), Nat.add_zero]
        exact HH.out.below qbr
    · obtain rfl : n = 32 := by omega
      rw [show (((32 : Nat) : Int)) = 32 from rfl]
      have HE := hide (Gol.gE_golomb HZ.out)
      have d32 : decide ((32 : Int) < 32) = false := by decide
      clear hlt hn e1
      go_wp2
      go_quiet (fail)
      have qbq := qb.trans ((dN _ nq).mono qb.size)
      go_wp2
      go_ret2
      refine ⟨HGE.out 0 21 (by rw [Gol.gV_bad (by rw [HE.out]; decide)]) HE.out.symm, ?_, Chg.of_below qbq⟩
      rw [Gol.gK_bad (by rw [HE.out]; decide), Nat.add_zero]
      exact HH.out.below qbq

theorem gE_cases (B : List Bool) : Gol.gE B = 0 ∨ ((Gol.gE B == 0) = false ∧ (Gol.gE B != 0) = true) := by
  by_cases h : Gol.gE B = 0
  · exact .inl h
  · exact .inr ⟨by simpa using h, by simpa using h⟩
end Go.Proofs.Ytijcollcncjdoaa
