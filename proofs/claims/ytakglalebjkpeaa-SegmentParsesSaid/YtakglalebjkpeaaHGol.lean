/- Texts of this claim in one: HGol. What each proves, and on what conditions, its own words say. -/
import Derived.Test.YtakglalebjkpeaaShelf
import Derived.Test.YtakglalebjkpeaaHBits
import Derived.Test.YtakglalebjkpeaaHPlain
import Derived.Laws.BitsAllLaws
namespace Go.Proofs.Ytakglalebjkpeaa
open Go.RowKit Kin

theorem ret_ib {k : IntKind} {a b : Int} {p q : Bool} (h : a = b) (h2 : p = q) : Ending.returned (.tuple #[.int k a, .bool p]) = .returned (.tuple #[.int k b, .bool q]) := by rw [h, h2]
theorem ret_ii {k k' : IntKind} {a b c d : Int} (h : a = b) (h2 : c = d) : Ending.returned (.tuple #[.int k a, .int k' c]) = .returned (.tuple #[.int k b, .int k' d]) := by rw [h, h2]

set_option maxRecDepth 100000 in
theorem glen_calls (v : Nat) (w : World) (hv : v < 18446744073709551616) :
    Calls Try.prog 78 #[.int .u64 (v : Int)] w fun e w' => e = .returned (.int .i64 (Gol.gl v : Int)) ∧ w = w' := by
  by_cases h : 4294967294 < v
  · rw [Gol.gl_big h]
    have d : decide ((4294967294 : Int) < (v : Int)) = true := by simp; omega
    go_enter Try.func78, Try.ntmps78
    go_wp2
    go_ret
    exact ⟨rfl, rfl⟩
  · have hb := Gol.bl_code (v := v) (by omega)
    have hg : Hid (((Gol.gl v : Nat) : Int) = 2 * (Gol.bl (v + 1) : Int) - 1) := by show _ = _; rw [Gol.gl_of (by omega)]; omega
    have d : decide ((4294967294 : Int) < (v : Int)) = false := by simp; omega
    have hb2 := hb.2.1
    have hb1 := hb.1
    clear hb
    have CC := fun w => Try.bits_Len64 ((v : Int) + 1) w (by omega) (by omega)
    rw [show ((v : Int) + 1).toNat = v + 1 from by omega] at CC
    have HC := hide CC
    clear CC
    have hbl : Hid (Go.Lib.bitLen (v + 1) = Gol.bl (v + 1)) := rfl
    rw [hbl.out] at HC
    generalize Gol.bl (v + 1) = L at *
    go_enter Try.func78, Try.ntmps78
    go_wp2_with (go_at_call 85; refine (HC.out _).mono ?_; rintro e w1 ⟨rfl, rfl⟩)
    go_ret
    exact ⟨ret_int (by rw [hg.out]), rfl⟩

theorem u64_low (v : Nat) (hv : v < 18446744073709551616) : bits BinOp.and IntKind.u64 (v : Int) 1 = ((v % 2 : Nat) : Int) := by
  have := u64_and_nat v 1 hv (by omega)
  rw [Nat.and_one_is_mod] at this
  exact this

set_option maxRecDepth 100000 in
set_option maxHeartbeats 1000000 in
theorem code_calls (v : Nat) (w : World) (hv : v ≤ 4294967294) :
    Calls Try.prog 51 #[.int .u64 (v : Int)] w (RetBytes w (Bit.zo (Gol.codeB v))) := by
  have hb := Gol.bl_code hv
  have hb1 := hb.1
  have hb2 := hb.2.1
  have HC : Hid (Gol.codeB v = Bit.digits (v + 1) (2 * Gol.bl (v + 1) - 1)) := rfl
  have HZ : Hid (∀ x, x ≤ 4294967295 → 0 < x → Gol.bl x = 1 + Gol.bl (x / 2)) := fun x h1 h2 => Go.Lib.bitLen_half x (by omega) (by omega)
  have HZ0 := hide Gol.bl_zero
  clear hb
  go_enter Try.func51, Try.ntmps51
  go_wp2
  go_loop [3, 4] (fun nv kv => ∃ n x : Nat, x ≤ 4294967295 ∧ n ≤ 32 ∧ nv = .int .i64 (n : Int) ∧ kv = .int .u64 (x : Int) ∧ Hid (n + Gol.bl x = Gol.bl (v + 1))) (fun _ kv => (intOf kv).toNat)
  case atStart => exact ⟨0, v + 1, by omega, by omega, rfl, by go_num, by show _ = _; omega⟩
  case round =>
    obtain ⟨n, x, hx, hn, rfl, rfl, HB⟩ := hrel
    by_cases h0 : 0 < x
    · have HS : Hid (n + 1 + Gol.bl (x / 2) = Gol.bl (v + 1)) := by
        have := HB.out
        have := HZ.out x hx h0
        show _ = _
        omega
      have hn' : n + 1 ≤ 32 := by have := HS.out; omega
      go_wp2
      go_round
      case rel => exact ⟨n + 1, x / 2, by omega, by omega, by go_num, by go_num, HS⟩
      case measure => simp [intOf]; omega
    · obtain rfl : x = 0 := by omega
      have HN : Hid (n = Gol.bl (v + 1)) := by
        have h1 := HB.out
        have h2 := HZ0.out
        show _ = _
        omega
      have hn1 : 1 ≤ n := by rw [HN.out]; exact hb1
      have HC2 : Hid (Gol.codeB v = Bit.digits (v + 1) (2 * n - 1)) := by rw [HC.out, HN.out]; exact rfl
      rw [show (((0 : Nat) : Int)) = 0 from rfl]
      clear hb1 hb2 HB h0
      go_wp2_with fail
      rw [show ((v : Int) + 1) = ((v + 1 : Nat) : Int) from by omega, show (2 * (n : Int) - 1) = ((2 * n - 1 : Nat) : Int) from by omega]
      refine (digits_calls (v + 1) (2 * n - 1) _ (by omega) (by omega)).mono ?_
      rintro e w1 ⟨A1, n1, c1, rfl, o1, g1, b1⟩
      go_wp2
      go_ret
      exact ⟨A1, n1, c1, rfl, by rw [HC2.out]; exact o1, g1, b1⟩
end Go.Proofs.Ytakglalebjkpeaa
namespace Go.Proofs.Ytakglalebjkpeaa
open Go.RowKit Kin

def gputE (v : Nat) : Int := if v ≤ 4294967294 then 0 else 1
def gputB (B : List Bool) (v : Nat) : List Bool := if v ≤ 4294967294 then B ++ Gol.codeB v else B
theorem gputE_ok {v : Nat} (h : v ≤ 4294967294) : gputE v = 0 := if_pos h
theorem gputB_ok {B : List Bool} {v : Nat} (h : v ≤ 4294967294) : gputB B v = B ++ Gol.codeB v := if_pos h
theorem gputE_no {v : Nat} (h : 4294967294 < v) : gputE v = 1 := if_neg (by omega)
theorem gputB_no {B : List Bool} {v : Nat} (h : 4294967294 < v) : gputB B v = B := if_neg (by omega)
theorem length_gputB (B : List Bool) (v : Nat) : (gputB B v).length ≤ B.length + 63 := by
  by_cases h : v ≤ 4294967294
  · rw [gputB_ok h, List.length_append, Gol.length_codeB h]; have := Gol.gl_le v; omega
  · rw [gputB_no (by omega)]; omega

set_option maxRecDepth 100000 in
theorem gput_nil (v : Int) (w : World) : Calls Try.prog 59 #[.pointer none, .int .u64 v] w fun e w' => e = .returned (.int .i64 1) ∧ w = w' := by
  go_enter Try.func59, Try.ntmps59
  go_wp2
  go_ret
  exact ⟨rfl, rfl⟩
set_option maxRecDepth 100000 in
theorem gput_any (g : Nat) (R : Option Nat) (B : List Bool) (v : Nat) (w : World) (h : WriterIs w g R B) (hB : B.length ≤ 1099511627776) (hv : v < 18446744073709551616) :
    Calls Try.prog 59 #[.pointer (some ⟨g, 0, none⟩), .int .u64 (v : Int)] w
      fun e w' => e = .returned (.int .i64 (gputE v)) ∧ ∃ R', WriterIs w' g R' (gputB B v) ∧ Chg (Foot g R) w w' ∧ RowNew w.heap.size R R' := by
  by_cases hm : v ≤ 4294967294
  · rw [gputE_ok hm, gputB_ok hm]
    have d : decide ((4294967294 : Int) < (v : Int)) = false := by simp; omega
    have HF := hide (Gol.code_fits hm)
    have HC : Hid (Gol.codeB v = Bit.digits (v + 1) (Gol.gl v)) := by rw [Gol.gl_of hm]; exact rfl
    have hgl := Gol.gl_le v
    have HL := hide (glen_calls v)
    rw [HC.out]
    clear HC
    generalize Gol.gl v = L at *
    go_enter Try.func59, Try.ntmps59
    go_wp2_with fail
    refine (HL.out _ hv).mono ?_
    rintro e w1 ⟨rfl, rfl⟩
    go_wp2_with fail
    rw [show ((v : Int) + 1) = ((v + 1 : Nat) : Int) from by omega]
    refine (put_calls g R B (v + 1) L _ h hB (by omega) HF.out).mono ?_
    rintro e w2 ⟨rfl, hh⟩
    go_wp2
    go_ret
    exact ⟨rfl, hh⟩
  · rw [gputE_no (by omega), gputB_no (by omega)]
    have d : decide ((4294967294 : Int) < (v : Int)) = true := by simp; omega
    go_enter Try.func59, Try.ntmps59
    go_wp2
    go_ret
    exact ⟨rfl, R, h, Chg.refl _ _, RowNew.refl _ _⟩

def gsE (x : Int) : Int := if Gol.foldOk x then 0 else 1
def gsB (B : List Bool) (x : Int) : List Bool := if Gol.foldOk x then B ++ Gol.codeB (Gol.foldV x).toNat else B
theorem length_gsB (B : List Bool) (x : Int) : (gsB B x).length ≤ B.length + 63 := by
  unfold gsB
  have hr := Gol.foldV_range x
  split
  · rw [List.length_append, Gol.length_codeB (by omega)]; have := Gol.gl_le (Gol.foldV x).toNat; omega
  · omega
end Go.Proofs.Ytakglalebjkpeaa
namespace Go.Proofs.Ytakglalebjkpeaa
open Go.RowKit Kin

/-- the bits from k on -/
abbrev bitsOf (l : List UInt8) (k : Nat) : List Bool := (Bit.row l).drop k
theorem length_bitsOf (l : List UInt8) (k : Nat) : (bitsOf l k).length = 8 * l.length - k := by rw [List.length_drop, Bit.length_row]
theorem bitsOf_at (l : List UInt8) (k n : Nat) (h : k + n < 8 * l.length) : (bitsOf l k).getD n false = Bit.rbit l (k + n) := by
  rw [List.getD, List.getElem?_drop, Bit.row_at l h]; rfl
theorem get_one (l : List UInt8) (m : Nat) : Bit.get l m 1 = (Bit.rbit l m).toNat := by
  have := Bit.get_succ l m 0
  rw [Bit.get_zero] at this
  simpa using this
theorem get_zeros {l : List UInt8} {k n : Nat} (h : Gol.zerosTo (bitsOf l k) n) (hk : k ≤ 8 * l.length) : Bit.get l k n = 0 := by
  induction n with
  | zero => rfl
  | succ n ih =>
    have h1 := h.1
    rw [length_bitsOf] at h1
    rw [Bit.get_succ, ih ⟨by rw [length_bitsOf]; omega, fun i hi => h.2 i (by omega)⟩, ← bitsOf_at l k n (by omega), h.2 n (by omega)]; rfl
theorem gol_val {l : List UInt8} {k n : Nat} (h : Gol.zerosTo (bitsOf l k) n) (hn : n < 32) (hb : Bit.rbit l (k + n) = true) (hl : k + n + 1 + n ≤ 8 * l.length) :
    Gol.gE (bitsOf l k) = 0 ∧ Gol.gK (bitsOf l k) = 2 * n + 1 ∧ Gol.gV (bitsOf l k) = 2 ^ n + Bit.get l (k + n + 1) n - 1 := by
  have hs : (bitsOf l k).getD n false = true := by rw [bitsOf_at l k n (by omega)]; exact hb
  obtain ⟨e1, e2, e3⟩ := Gol.gE_good h hn hs (by rw [length_bitsOf]; omega)
  refine ⟨e1, e2, ?_⟩
  rw [e3, get_row l k (2 * n + 1) (by omega), show 2 * n + 1 = n + (1 + n) from by omega, Bit.get_add, get_zeros h (by omega), Bit.get_add, get_one, hb]
  simp

theorem gget_nil (w : World) : Calls Try.prog 65 #[.pointer none] w fun e w' => e = .returned (.tuple #[.int .u64 0, .int .i64 1]) ∧ w = w' := by
  go_enter Try.func65, Try.ntmps65
  go_wp2
  go_ret2
  exact ⟨rfl, rfl⟩

theorem u64_top (n low : Nat) (hn : n < 32) (hl : low < 2 ^ n) : bits BinOp.or IntKind.u64 (IntKind.u64.wrap (2 ^ n)) (low : Int) = ((2 ^ n + low : Nat) : Int) := by
  have hp : 2 ^ n ≤ 2 ^ 31 := Nat.pow_le_pow_right (by omega) (by omega)
  have ew : IntKind.u64.wrap (2 ^ n) = 2 ^ n := by
    have e1 : ((2 ^ n : Nat) : Int) = 2 ^ n := by simp
    rw [← e1, IntKind.wrap_u64]; omega
  rw [ew]
  have e := u64_or_nat (2 ^ n) low (by omega) (by omega)
  rw [show (((2 ^ n : Nat)) : Int) = 2 ^ n from by simp] at e
  rw [e]
  congr 1
  have h3 := Nat.two_pow_add_eq_or_of_lt hl 1
  rw [Nat.mul_one] at h3
  exact h3.symm

set_option maxRecDepth 100000 in
set_option maxHeartbeats 4000000 in
theorem gget_any (g r : Nat) (l : List UInt8) (k : Nat) (w : World) (h : ReaderIs w g r l k) :
    Calls Try.prog 65 #[.pointer (some ⟨g, 0, none⟩)] w
      fun e w' => e = .returned (.tuple #[.int .u64 (Gol.gV (bitsOf l k) : Int), .int .i64 (Gol.gE (bitsOf l k))]) ∧ ReaderIs w' g r l (k + Gol.gK (bitsOf l k)) ∧ Chg (One g) w w' := by
  have c0 : w.cell? ⟨g, 0, none⟩ = some (.slice (some ⟨r, 0, none⟩) l.length l.length) := h.1.cell 0
  have c1 : w.cell? ⟨g, 1, none⟩ = some (.int .i64 (k : Int)) := h.1.cell 1
  have hk8 := h.2.2.1
  have hl40 := h.2.2.2
  have hgl := h.lt
  have bA := Blk.new w 110 #[.slice (some ⟨r, 0, none⟩) l.length l.length, .int .i64 (k : Int)]
  have hA : ReaderIs (w.alloc (.cells #[.slice (some ⟨r, 0, none⟩) l.length l.length, .int .i64 (k : Int)] 110)) w.heap.size r l (k + 0) := ⟨bA, h.2.1.alloc _, hk8, hl40⟩
  have hb0 : Below w.heap.size w (w.alloc (.cells #[.slice (some ⟨r, 0, none⟩) l.length l.length, .int .i64 (k : Int)] 110)) := (Below.refl _ _).alloc (Nat.le_refl _) _
  have HGE : Hid (∀ v e, v = Gol.gV (bitsOf l k) → e = Gol.gE (bitsOf l k) → Ending.returned (.tuple #[.int .u64 (v : Int), .int .i64 e]) = .returned (.tuple #[.int .u64 (Gol.gV (bitsOf l k) : Int), .int .i64 (Gol.gE (bitsOf l k))])) := fun v e h1 h2 => by rw [h1, h2]
  have HH := hide h
  clear bA h
  go_enter Try.func65, Try.ntmps65
  go_wp2
  generalize w.alloc (.cells #[.slice (some ⟨r, 0, none⟩) l.length l.length, .int .i64 (k : Int)] 110) = W0 at *
  obtain ⟨ga, hga⟩ : ∃ x, x = w.heap.size := ⟨_, rfl⟩
  rw [← hga] at hA
  rw [← hga]
  have hgg : g < ga := by omega
  have hwga : w.heap.size ≤ ga := by omega
  clear hga c0 c1
  go_loopw [14] (fun nv wr => ∃ n : Nat, n ≤ 32 ∧ nv = .int .i64 (n : Int) ∧ Hid (Gol.zerosTo (bitsOf l k) n) ∧ ReaderIs wr ga r l (k + n) ∧ Below w.heap.size w wr) (fun nv _ => 32 - (intOf nv).toNat)
  case atStart => exact ⟨0, by omega, rfl, ⟨Nat.zero_le _, fun i hi => absurd hi (by omega)⟩, hA, hb0⟩
  case round =>
    obtain ⟨n, hn, rfl, HZ, hr, hb⟩ := hrel
    clear hA hb0
    by_cases hlt : n < 32
    · by_cases hs : 8 * l.length < k + n + 1
      · have hE : Gol.gE (bitsOf l k) = 11 := by
          have h1 := HZ.out.1
          rw [length_bitsOf] at h1
          exact Gol.gE_short HZ.out hlt (.inl (by rw [length_bitsOf]; omega)) (by rw [length_bitsOf]; omega)
        have HE := hide hE
        clear hE
        go_wp2_with fail
        refine (get_short ga r l (k + n) 1 _ hr (by omega) hs).mono ?_
        rintro e t1 ⟨rfl, b1⟩
        go_wp2
        go_ret2
        refine ⟨HGE.out 0 11 (by rw [Gol.gV_bad (by rw [HE.out]; decide)]) HE.out.symm, ?_, Chg.of_below (hb.trans (b1.mono hb.size))⟩
        rw [Gol.gK_bad (by rw [HE.out]; decide), Nat.add_zero]
        exact HH.out.below (hb.trans (b1.mono hb.size))
      · have hg1 := get_one l (k + n)
        have HG1 := hide hg1
        have hbit := bitsOf_at l k n (by omega)
        have HBIT := hide hbit
        clear hg1 hbit
        go_wp2_with fail
        refine (get_calls ga r l (k + n) 1 _ hr (by omega) (by omega)).mono ?_
        rintro e t1 ⟨rfl, hr1, ch1⟩
        have b1 := hb.trans (ch1.below (fun i h => by have h : i = ga := h; omega) hb.size)
        rw [HG1.out]
        cases hrb : Bit.rbit l (k + n)
        · have HZ2 : Hid (Gol.zerosTo (bitsOf l k) (n + 1)) := ⟨by rw [length_bitsOf]; omega, fun i hi => by
            by_cases e : i = n
            · subst e; rw [HBIT.out, hrb]
            · exact HZ.out.2 i (by omega)⟩
          clear hr hb ch1 HG1 HBIT HZ hrb
          rw [show (((false : Bool).toNat : Nat) : Int) = 0 from rfl]
          go_wp2
          go_roundw
          case rel => exact ⟨n + 1, by omega, by go_num, HZ2, by rw [← Nat.add_assoc]; exact hr1, b1⟩
          case measure => simp [intOf]; omega
        · rw [show (((true : Bool).toNat : Nat) : Int) = 1 from rfl]
          have HRB := hide hrb
          clear hr hb ch1 HG1 hrb
          by_cases hs2 : 8 * l.length < k + n + 1 + n
          · have hE : Gol.gE (bitsOf l k) = 11 := Gol.gE_short HZ.out hlt (.inr (by rw [HBIT.out, HRB.out])) (by rw [length_bitsOf]; omega)
            have HE := hide hE
            clear hE
            go_wp2_with fail
            refine (get_short ga r l (k + n + 1) n _ hr1 (by omega) hs2).mono ?_
            rintro e t2 ⟨rfl, b2⟩
            go_wp2
            go_ret2
            refine ⟨HGE.out 0 11 (by rw [Gol.gV_bad (by rw [HE.out]; decide)]) HE.out.symm, ?_, Chg.of_below (b1.trans (b2.mono b1.size))⟩
            rw [Gol.gK_bad (by rw [HE.out]; decide), Nat.add_zero]
            exact HH.out.below (b1.trans (b2.mono b1.size))
          · have HV := hide (gol_val HZ.out hlt HRB.out (by omega))
            have hlow := Bit.get_lt l (k + n + 1) n
            go_wp2_with fail
            refine (get_calls ga r l (k + n + 1) n _ hr1 (by omega) (by omega)).mono ?_
            rintro e t2 ⟨rfl, hr2, ch2⟩
            have b2 := b1.trans (ch2.below (fun i h => by have h : i = ga := h; omega) b1.size)
            have hr2g := HH.out.below b2
            generalize Bit.get l (k + n + 1) n = low at *
            have hor := u64_top n low hlt hlow
            have hpow : 2 ^ n ≤ 2 ^ 31 := Nat.pow_le_pow_right (by omega) (by omega)
            have hp1 : 1 ≤ 2 ^ n := Nat.one_le_two_pow
            have hsum1 : 1 ≤ 2 ^ n + low := by omega
            have hsum2 : 2 ^ n + low < 4294967296 := by omega
            generalize hY : 2 ^ n + low = Y at *
            have hY1 : (1 : Int) ≤ (Y : Int) := by omega
            have hY2 : (Y : Int) < 4294967296 := by omega
            have d0 : t2.cell? ⟨ga, 0, none⟩ = some (.slice (some ⟨r, 0, none⟩) l.length l.length) := hr2.1.cell 0
            have d1 : t2.cell? ⟨ga, 1, none⟩ = some (.int .i64 ((k + n + 1 + n : Nat) : Int)) := hr2.1.cell 1
            have e0 : t2.cell? ⟨g, 0, none⟩ = some (.slice (some ⟨r, 0, none⟩) l.length l.length) := hr2g.1.cell 0
            have e1 : t2.cell? ⟨g, 1, none⟩ = some (.int .i64 (k : Int)) := hr2g.1.cell 1
            have f0 := hr2g.1.frozen 0
            have f1 := hr2g.1.frozen 1
            clear hr1 b1 ch2 hlow hY hpow hp1
            generalize hkk : k + n + 1 + n = kk at *
            have HKK := hide hkk
            clear hkk
            go_wp2
            go_ret2
            have hw3 := (hr2g.1.set_ 0 (.slice (some ⟨r, 0, none⟩) l.length l.length)).set_ 1 (.int .i64 (kk : Int))
            have ho3 := (hr2g.2.1.setFar (p := ⟨g, 0, none⟩) (by have := hr2g.ne; simp [blkOf]; exact this) (.slice (some ⟨r, 0, none⟩) l.length l.length)).setFar (p := ⟨g, 1, none⟩) (by have := hr2g.ne; simp [blkOf]; exact this) (.int .i64 (kk : Int))
            refine ⟨?_, ?_, ((Chg.of_below (S := One g) b2).setCell (p := ⟨g, 0, none⟩) (.inl rfl) _).setCell (p := ⟨g, 1, none⟩) (.inl rfl) _⟩
            · have e := HGE.out (Y - 1) 0 HV.out.2.2.symm HV.out.1.symm
              rw [show ((Y - 1 : Nat) : Int) = (Y : Int) - 1 from by omega] at e
              exact e
            · rw [HV.out.2.1]
              have hk2 : k + (2 * n + 1) = kk := by have := HKK.out; omega
              rw [hk2]
              exact ⟨by simpa using hw3, ho3, by omega, hl40⟩
    · obtain rfl : n = 32 := by omega
      rw [show (((32 : Nat) : Int)) = 32 from rfl]
      have HE := hide (Gol.gE_golomb HZ.out)
      clear hlt hn
      go_wp2
      go_ret2
      refine ⟨HGE.out 0 21 (by rw [Gol.gV_bad (by rw [HE.out]; decide)]) HE.out.symm, ?_, Chg.of_below hb⟩
      rw [Gol.gK_bad (by rw [HE.out]; decide), Nat.add_zero]
      exact HH.out.below hb

theorem zeros_succ {B : List Bool} {n : Nat} (h : Gol.zerosTo B n) (h1 : n < B.length) (h2 : B.getD n false = false) : Gol.zerosTo B (n + 1) :=
  ⟨by omega, fun i hi => by
    by_cases e : i = n
    · subst e; exact h2
    · exact h.2 i (by omega)⟩

set_option maxRecDepth 100000 in
set_option maxHeartbeats 4000000 in
theorem refgget_any (g : Nat) (R : Option Nat) (l : List UInt8) (k : Nat) (w : World) (h : RefRIs w g R (Bit.row l) k) (hl30 : l.length ≤ 1000000) :
    Calls Try.prog 70 #[.pointer (some ⟨g, 0, none⟩)] w
      fun e w' => e = .returned (.tuple #[.int .u64 (Gol.gV (bitsOf l k) : Int), .int .i64 (Gol.gE (bitsOf l k))]) ∧ RefRIs w' g R (Bit.row l) (k + Gol.gK (bitsOf l k)) ∧ Chg (One g) w w' := by
  have HH := hide h
  obtain ⟨⟨A, m, c, h1, h2, hR⟩, hk, hB⟩ := h
  have hm : m = 8 * l.length := by rw [h2.1, Bit.length_zo, Bit.length_row]
  have hmc := Own8.cap h2
  have hk8 : k ≤ m := by rw [Bit.length_row] at hk; omega
  have hm40 : m ≤ 8000000 := by omega
  have hne : blkOf A ≠ some g := by have := own_blk_ne h2.2 h1 (by decide); rwa [ownBlock_slice] at this
  have HNE := hide hne
  have HGE : Hid (∀ v e, v = Gol.gV (bitsOf l k) → e = Gol.gE (bitsOf l k) → Ending.returned (.tuple #[.int .u64 (v : Int), .int .i64 e]) = .returned (.tuple #[.int .u64 (Gol.gV (bitsOf l k) : Int), .int .i64 (Gol.gE (bitsOf l k))])) := fun v e h1 h2 => by rw [h1, h2]
  have HM := hide hm
  have HLB : Hid ((bitsOf l k).length = m - k) := by rw [length_bitsOf, hm]; exact rfl
  clear hm hne hk hB
  go_enter Try.func70, Try.ntmps70
  go_wp2
  go_loopw [4] (fun nv wr => ∃ n : Nat, n ≤ 32 ∧ nv = .int .i64 (n : Int) ∧ Hid (Gol.zerosTo (bitsOf l k) n) ∧ k + n ≤ m ∧ Blk wr g 112 #[.slice A m c, .int .i64 (k : Int)] ∧ Kin.Own8 wr 5 A m c (Bit.zo (Bit.row l)) ∧ Below w.heap.size w wr) (fun nv _ => 32 - (intOf nv).toNat)
  case atStart => exact ⟨0, by omega, rfl, ⟨Nat.zero_le _, fun i hi => absurd hi (by omega)⟩, by omega, h1, h2, Below.refl _ _⟩
  case round =>
    obtain ⟨n, hn, rfl, HZ, hkn, q1, q2, qb⟩ := hrel
    clear h1 h2
    have c0 : wr.cell? ⟨g, 0, none⟩ = some (.slice A m c) := q1.cell 0
    have c1 : wr.cell? ⟨g, 1, none⟩ = some (.int .i64 (k : Int)) := q1.cell 1
    have e1 : IntKind.i64.wrap ((k : Int) + (n : Int)) = (k : Int) + (n : Int) := by rw [IntKind.wrap_i64]; omega
    by_cases hlt : n < 32
    · have d32 : decide ((n : Int) < 32) = true := by simp; omega
      by_cases hin : k + n < m
      · have d2 : decide ((k : Int) + (n : Int) < (m : Int)) = true := by simp; omega
        have hinB : k + n < 8 * l.length := by rw [← HM.out]; exact hin
        obtain ⟨rr, off, rfl, _, hc⟩ := q2.byt.at_ (k := k + n) (by rw [Bit.length_zo, Bit.length_row]; exact hinB)
        have hzo : (Bit.zo (Bit.row l))[k + n]'(by rw [Bit.length_zo, Bit.length_row]; exact hinB) = Bit.one (Bit.rbit l (k + n)) := by
          have e1 := Bit.zo_at (Bit.row l) (k + n)
          rw [List.getElem?_eq_getElem (by rw [Bit.length_zo, Bit.length_row]; exact hinB), Bit.row_at l hinB] at e1
          simpa using e1
        rw [hzo, Bit.one_toNat] at hc
        have HBT := hide (bitsOf_at l k n hinB)
        have i0 : (0 : Int) ≤ (k : Int) + (n : Int) := by omega
        have i1 : (k : Int) + (n : Int) < (m : Int) := by omega
        have i2 : ((k : Int) + (n : Int)).toNat = k + n := by omega
        clear hzo
        cases hrb : Bit.rbit l (k + n)
        · rw [hrb] at hc HBT
          have hc : wr.cell? ⟨rr, off + (k + n), none⟩ = some (.int .u8 0) := hc
          have HZ2 : Hid (Gol.zerosTo (bitsOf l k) (n + 1)) := zeros_succ HZ.out (by rw [HLB.out]; omega) HBT.out
          clear hrb HBT
          go_wp2
          go_quiet (fail)
          have q1q := q1.drewN nq
          have q2q := q2.drewN nq
          have qbq := qb.trans ((dN _ nq).mono qb.size)
          clear c0 c1 hc q1 q2 qb i2 e1
          generalize wr.drewN nq = V at *
          go_wp2
          go_roundw
          case rel => exact ⟨n + 1, by omega, by go_num, HZ2, by omega, q1q, q2q, qbq⟩
          case measure => simp [intOf]; omega
        · rw [hrb] at hc HBT
          have hc : wr.cell? ⟨rr, off + (k + n), none⟩ = some (.int .u8 1) := hc
          have HRB := hide hrb
          clear hrb
          have e2 : IntKind.i64.wrap (2 * (n : Int)) = 2 * (n : Int) := by rw [IntKind.wrap_i64]; omega
          have e3 : IntKind.i64.wrap ((k : Int) + 2 * (n : Int)) = (k : Int) + 2 * (n : Int) := by rw [IntKind.wrap_i64]; omega
          have e4 : IntKind.i64.wrap ((k : Int) + 2 * (n : Int) + 1) = (k : Int) + 2 * (n : Int) + 1 := by rw [IntKind.wrap_i64]; omega
          have n32 : ((n : Int) == 32) = false := by simp; omega
          by_cases hs2 : m < k + n + 1 + n
          · have HE : Hid (Gol.gE (bitsOf l k) = 11) := Gol.gE_short HZ.out hlt (.inr HBT.out) (by rw [HLB.out]; omega)
            have d3 : decide ((m : Int) < (k : Int) + 2 * (n : Int) + 1) = true := by simp; omega
            go_wp2
            go_quiet (fail)
            have qbq := qb.trans ((dN _ nq).mono qb.size)
            have c0q : (wr.drewN nq).cell? ⟨g, 0, none⟩ = some (.slice (some ⟨rr, off, none⟩) m c) := c0
            have c1q : (wr.drewN nq).cell? ⟨g, 1, none⟩ = some (.int .i64 (k : Int)) := c1
            clear c0 c1 q1 q2 qb
            generalize wr.drewN nq = V at *
            go_wp2
            go_quiet (fail)
            have qbr := qbq.trans ((dN _ nq).mono qbq.size)
            go_wp2
            go_ret2
            refine ⟨HGE.out 0 11 (by rw [Gol.gV_bad (by rw [HE.out]; decide)]) HE.out.symm, ?_, Chg.of_below qbr⟩
            rw [Gol.gK_bad (by rw [HE.out]; decide), Nat.add_zero]
            exact HH.out.below qbr
          · have d3 : decide ((m : Int) < (k : Int) + 2 * (n : Int) + 1) = false := by simp; omega
            have HV := hide (gol_val HZ.out hlt HRB.out (by rw [← HM.out]; omega))
            have hsl := run_cut8 bytesT (some ⟨rr, off, none⟩) m c .i64 .i64 k (k + (2 * n + 1)) k ((k : Int) + 2 * (n : Int) + 1) rfl (by omega) (by omega) (by omega)
            rw [Nat.add_sub_cancel_left] at hsl
            have HBY : Hid (∀ w', Byt w' w'.heap.size (some ⟨rr, off, none⟩) (Bit.zo (Bit.row l)) → Byt w' w'.heap.size (cutA (some ⟨rr, off, none⟩) c k) (Bit.zo ((bitsOf l k).take (2 * n + 1)))) := fun w' hb => by
              rw [← Bit.zo_take, ← Bit.zo_drop]
              exact (hb.cut k (by rw [Bit.length_zo, Bit.length_row, ← HM.out]; exact hmc)).take (2 * n + 1)
            have HLEN : Hid (2 * n + 1 = ((bitsOf l k).take (2 * n + 1)).length) := by show _ = _; rw [List.length_take, HLB.out]; omega
            have HNV : Hid (Gol.gV (bitsOf l k) = Bit.num ((bitsOf l k).take (2 * n + 1)) - 1) := (Gol.gE_good HZ.out hlt HBT.out (by rw [HLB.out]; omega)).2.2
            have hnv1 : 1 ≤ Bit.num ((bitsOf l k).take (2 * n + 1)) := by
              have h1 := HNV.out
              have h2 := HV.out.2.2
              have h3 : 1 ≤ 2 ^ n := Nat.one_le_two_pow
              rw [get_row l k (2 * n + 1) (by rw [← HM.out]; omega), show 2 * n + 1 = n + (1 + n) from by omega, Bit.get_add, Bit.get_add, get_one, HRB.out]
              have : 1 * 2 ^ n ≥ 1 := by omega
              have e : (true : Bool).toNat = 1 := rfl
              rw [e]
              omega
            have hnv2 : Bit.num ((bitsOf l k).take (2 * n + 1)) < 9223372036854775808 := by
              have h1 := Bit.num_lt ((bitsOf l k).take (2 * n + 1))
              have h2 : 2 ^ ((bitsOf l k).take (2 * n + 1)).length ≤ 2 ^ 63 := Nat.pow_le_pow_right (by omega) (by rw [List.length_take]; omega)
              omega
            have HNC : Hid (∀ w', Kin.Own8 w' 5 (some ⟨rr, off, none⟩) m c (Bit.zo (Bit.row l)) → Calls Try.prog 80 #[.slice (cutA (some ⟨rr, off, none⟩) c k) (2 * n + 1) (c - k)] w' fun e w'' => e = .returned (.int .u64 (Bit.num ((bitsOf l k).take (2 * n + 1)) : Int)) ∧ w' = w'') :=
              fun w' ho => number_calls _ _ _ ((bitsOf l k).take (2 * n + 1)) _ HLEN.out (by omega) (HBY.out _ ho.byt)
            clear HBY HLEN
            generalize cutA (some ⟨rr, off, none⟩) c k = A' at *
            generalize Bit.num ((bitsOf l k).take (2 * n + 1)) = Y at *
            generalize c - k = cc at *
            go_wp2
            go_quiet (fail)
            have q1q := q1.drewN nq
            have q2q := q2.drewN nq
            have qbq := qb.trans ((dN _ nq).mono qb.size)
            have c0q : (wr.drewN nq).cell? ⟨g, 0, none⟩ = some (.slice (some ⟨rr, off, none⟩) m c) := c0
            have c1q : (wr.drewN nq).cell? ⟨g, 1, none⟩ = some (.int .i64 (k : Int)) := c1
            clear c0 c1 q1 q2 qb hc i2 e1
            generalize wr.drewN nq = V at *
            go_wp2
            go_quiet (fail)
            have q1r := q1q.drewN nq
            have q2r := q2q.drewN nq
            have qbr := qbq.trans ((dN _ nq).mono qbq.size)
            have c0r : (V.drewN nq).cell? ⟨g, 0, none⟩ = some (.slice (some ⟨rr, off, none⟩) m c) := c0q
            have c1r : (V.drewN nq).cell? ⟨g, 1, none⟩ = some (.int .i64 (k : Int)) := c1q
            clear c0q c1q q1q q2q qbq
            generalize V.drewN nq = V2 at *
            go_wp2
            go_quiet ((go_at_call 80; exact quiet_left (HNC.out _ (q2r.drewN _))))
            have q1s := q1r.drewN nq
            have q2s := q2r.drewN nq
            have qbs := qbr.trans ((dN _ nq).mono qbr.size)
            have c1s : (V2.drewN nq).cell? ⟨g, 1, none⟩ = some (.int .i64 (k : Int)) := c1r
            have f1s := q1s.frozen 1
            clear c0r c1r q1r q2r qbr
            generalize V2.drewN nq = V3 at *
            go_wp2
            go_ret2
            have hw3 := q1s.set_ 1 (.int .i64 ((k : Int) + 2 * (n : Int) + 1))
            refine ⟨?_, ?_, (Chg.of_below (S := One g) qbs).setCell (p := ⟨g, 1, none⟩) (.inl rfl) _⟩
            · have e := HGE.out (Y - 1) 0 HNV.out.symm HV.out.1.symm
              rw [show ((Y - 1 : Nat) : Int) = (Y : Int) - 1 from by omega] at e
              exact e
            · rw [HV.out.2.1]
              refine ⟨⟨_, m, c, ?_, q2s.setFar (p := ⟨g, 1, none⟩) HNE.out _, hR⟩, by rw [Bit.length_row, ← HM.out]; omega, HH.out.2.2⟩
              rw [show (((k + (2 * n + 1) : Nat)) : Int) = (k : Int) + 2 * (n : Int) + 1 from by omega]
              simpa using hw3
      · have d2 : decide ((k : Int) + (n : Int) < (m : Int)) = false := by simp; omega
        have e2 : IntKind.i64.wrap (2 * (n : Int)) = 2 * (n : Int) := by rw [IntKind.wrap_i64]; omega
        have e3 : IntKind.i64.wrap ((k : Int) + 2 * (n : Int)) = (k : Int) + 2 * (n : Int) := by rw [IntKind.wrap_i64]; omega
        have e4 : IntKind.i64.wrap ((k : Int) + 2 * (n : Int) + 1) = (k : Int) + 2 * (n : Int) + 1 := by rw [IntKind.wrap_i64]; omega
        have n32 : ((n : Int) == 32) = false := by simp; omega
        have HE : Hid (Gol.gE (bitsOf l k) = 11) := Gol.gE_short HZ.out hlt (.inl (by rw [HLB.out]; omega)) (by rw [HLB.out]; omega)
        have d3 : decide ((m : Int) < (k : Int) + 2 * (n : Int) + 1) = true := by simp; omega
        go_wp2
        go_quiet (fail)
        have qbq := qb.trans ((dN _ nq).mono qb.size)
        have c0q : (wr.drewN nq).cell? ⟨g, 0, none⟩ = some (.slice A m c) := c0
        have c1q : (wr.drewN nq).cell? ⟨g, 1, none⟩ = some (.int .i64 (k : Int)) := c1
        clear c0 c1 q1 q2 qb
        generalize wr.drewN nq = V at *
        go_wp2
        go_quiet (fail)
        have qbr := qbq.trans ((dN _ nq).mono qbq.size)
        go_wp2
        go_ret2
        refine ⟨HGE.out 0 11 (by rw [Gol.gV_bad (by rw [HE.out]; decide)]) HE.out.symm, ?_, Chg.of_below qbr⟩
        rw [Gol.gK_bad (by rw [HE.out]; decide), Nat.add_zero]
        exact HH.out.below qbr
    · obtain rfl : n = 32 := by omega
      rw [show (((32 : Nat) : Int)) = 32 from rfl]
      have HE := hide (Gol.gE_golomb HZ.out)
      have d32 : decide ((32 : Int) < 32) = false := by decide
      clear hlt hn e1
      go_wp2
      go_quiet (fail)
      have qbq := qb.trans ((dN _ nq).mono qb.size)
      go_wp2
      go_ret2
      refine ⟨HGE.out 0 21 (by rw [Gol.gV_bad (by rw [HE.out]; decide)]) HE.out.symm, ?_, Chg.of_below qbq⟩
      rw [Gol.gK_bad (by rw [HE.out]; decide), Nat.add_zero]
      exact HH.out.below qbq

theorem gE_cases (B : List Bool) : Gol.gE B = 0 ∨ ((Gol.gE B == 0) = false ∧ (Gol.gE B != 0) = true) := by
  by_cases h : Gol.gE B = 0
  · exact .inl h
  · exact .inr ⟨by simpa using h, by simpa using h⟩
end Go.Proofs.Ytakglalebjkpeaa
namespace Go.Proofs.Ytakglalebjkpeaa
open Go.RowKit Kin

/-- an act that was done: a number that was put, or an alignment -/
def DoneRow (row : List Value) : Prop := (∃ n v : Nat, row = [.int .i64 1, .int .i64 (n : Int), .int .u64 (v : Int)] ∧ n ≤ 64 ∧ v < 2 ^ n) ∨ ∃ n v : Int, row = [.int .i64 2, .int .i64 n, .int .u64 v]
/-- the bits behind an act -/
def actB (B : List Bool) : List Value → List Bool
  | [.int _ k, .int _ n, .int _ v] => if k = 2 then Bit.fill B else B ++ Bit.digits v.toNat n.toNat
  | _ => B
def play (rows : List (List Value)) : List Bool := rows.foldl actB []
theorem play_nil : play [] = [] := rfl
theorem play_snoc (rows : List (List Value)) (r : List Value) : play (rows ++ [r]) = actB (play rows) r := by simp [play]
theorem actB_put (B : List Bool) (n v : Nat) : actB B [.int .i64 1, .int .i64 (n : Int), .int .u64 (v : Int)] = B ++ Bit.digits v n := by simp [actB]
theorem actB_fill (B : List Bool) (n v : Int) : actB B [.int .i64 2, .int .i64 n, .int .u64 v] = Bit.fill B := by simp [actB]
theorem actB_pre (B : List Bool) (r : List Value) : B <+: actB B r := by
  unfold actB
  split
  · split
    · exact List.prefix_append _ _
    · exact List.prefix_append _ _
  · exact List.prefix_rfl
theorem play_pre (rows more : List (List Value)) : play rows <+: play (rows ++ more) := by
  unfold play
  rw [List.foldl_append]
  generalize rows.foldl actB [] = B
  induction more generalizing B with
  | nil => exact List.prefix_rfl
  | cons r more ih => exact (actB_pre B r).trans (ih _)
theorem play_step (rows : List (List Value)) (j : Nat) (r : List Value) (h : rows[j]? = some r) : play (rows.take (j + 1)) = actB (play (rows.take j)) r := by
  rw [List.take_add_one, h, Option.toList_some, play_snoc]
theorem play_take (rows : List (List Value)) (j : Nat) : play (rows.take j) <+: play rows := by
  have := play_pre (rows.take j) (rows.drop j)
  rwa [List.take_append_drop] at this

theorem get_of_pre {B C : List Bool} {n v : Nat} (h : B ++ Bit.digits v n <+: C) (hv : v < 2 ^ n) : Bit.get (Bit.pack C) B.length n = v := by
  obtain ⟨D, rfl⟩ := h
  rw [Bit.get_pack _ _ _ (by rw [List.length_append, List.length_append, Bit.length_digits]; omega), List.append_assoc, List.drop_left, List.take_left' (by rw [Bit.length_digits]), Bit.num_digits, Nat.mod_eq_of_lt hv]
theorem row_pack_get (C : List Bool) (i : Nat) : (Bit.row (Bit.pack C)).getD i false = C.getD i false := by
  by_cases h : i < 8 * (Bit.pack C).length
  · rw [List.getD, Bit.row_at _ h, Option.getD_some, Bit.rbit_pack]
  · rw [List.getD, List.getElem?_eq_none (by rw [Bit.length_row]; omega), List.getD, List.getElem?_eq_none]
    rw [Bit.length_pack] at h; omega
theorem fill_get (B : List Bool) (i : Nat) (h1 : B.length ≤ i) : (Bit.fill B).getD i false = false := by
  unfold Bit.fill
  rw [List.getD, List.getElem?_append_right h1, List.getElem?_replicate]
  split <;> rfl
theorem restB_fill {B C : List Bool} (h : Bit.fill B <+: C) : Bit.restB (Bit.row (Bit.pack C)) B.length = true := by
  refine restB_of fun i h1 h2 => ?_
  rw [row_pack_get]
  obtain ⟨D, rfl⟩ := h
  have := fill_get B i h1
  rw [List.getD, List.getElem?_append_left (by rw [Bit.length_fill]; exact h2)]
  exact this
theorem restB_end (C : List Bool) : Bit.restB (Bit.row (Bit.pack C)) C.length = true := by
  refine restB_of fun i h1 _ => ?_
  rw [row_pack_get, List.getD, List.getElem?_eq_none h1]; rfl
end Go.Proofs.Ytakglalebjkpeaa
