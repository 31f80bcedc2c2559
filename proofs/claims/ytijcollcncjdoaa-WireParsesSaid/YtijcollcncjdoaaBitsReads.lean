/- The bits' readers, each function by its contract. Conditions: the reader is as the calls leave it; at most 2^40 bytes. -/
import Derived.Test.YtijcollcncjdoaaBitsWalks
namespace Go.Proofs.Ytijcollcncjdoaa
open Go.RowKit Kin

/-- at block g lies a reader of the bytes l (in block r), at a bit -/
def ReaderIs (w : World) (g r : Nat) (l : List UInt8) (k : Nat) : Prop :=
  Blk w g 84 #[.slice (some ⟨r, 0, none⟩) l.length l.length, .int .i64 (k : Int)] ∧ Own8 w 5 (some ⟨r, 0, none⟩) l.length l.length l ∧ k ≤ 8 * l.length ∧ l.length ≤ 1099511627776
theorem ReaderIs.lt {w : World} {g r : Nat} {l : List UInt8} {k : Nat} (h : ReaderIs w g r l k) : g < w.heap.size := h.1.lt
theorem ReaderIs.rlt {w : World} {g r : Nat} {l : List UInt8} {k : Nat} (h : ReaderIs w g r l k) : r < w.heap.size := h.2.1.lt r rfl
theorem ReaderIs.ne {w : World} {g r : Nat} {l : List UInt8} {k : Nat} (h : ReaderIs w g r l k) : r ≠ g := by
  have := own_blk_ne h.2.1.2 h.1 (by decide)
  intro e
  subst e
  exact this (by rw [ownBlock_slice]; rfl)
theorem ReaderIs.keep {S : Nat → Prop} {w w' : World} {g r : Nat} {l : List UInt8} {k : Nat} (h : ReaderIs w g r l k) (hc : Chg S w w') (h1 : ¬ S g) (h2 : ¬ S r) : ReaderIs w' g r l k :=
  ⟨hc.blk h.1 h1, hc.own h.2.1 (fun i hi => by injection hi with hi; subst hi; exact h2), h.2.2⟩
theorem ReaderIs.below {w w' : World} {g r : Nat} {l : List UInt8} {k : Nat} (h : ReaderIs w g r l k) (hc : Below w.heap.size w w') : ReaderIs w' g r l k :=
  h.keep (S := fun _ => False) (Chg.of_below hc) (fun e => e) (fun e => e)
/-- only the reader's own block has changed -/
def One (g k : Nat) : Prop := k = g

theorem newReader_zero : (Try.prog.info? 84).map (fun i => (i.zero, i.size)) = some (some (.agg #[.slice none 0 0, .int .i64 0]), 2) := by kernel_rfl
/-- a new reader -/
def RetReader (w : World) (l : List UInt8) (e : Ending) (w' : World) : Prop := e = .returned (.pointer (some ⟨w.heap.size + 1, 0, none⟩)) ∧ ReaderIs w' (w.heap.size + 1) w.heap.size l 0 ∧ Below w.heap.size w w'
set_option maxRecDepth 100000 in
theorem open_calls (A : Option Addr) (n c : Nat) (l : List UInt8) (w : World) (hn : n = l.length) (hm : n ≤ 1099511627776) {B : Nat} (hA0 : Byt w B A l) :
    Calls Try.prog 39 #[.slice A n c] w (RetReader w l) := by
  have hA := hA0.here
  clear hA0
  have hz := (zero_of_info newReader_zero).1
  have HN := hide hn
  have hmk := run_make8 (P := Try.prog) bytesT .i64 .i64 n (by omega)
  clear hn
  have hA2 : Byt ((w.alloc (Obj.cells (mk8 n) 5)).alloc (Obj.cells #[.slice (some ⟨w.heap.size, 0, none⟩) n n, .int .i64 0] 84)) w.heap.size A l := hA.below (((Below.refl _ _).alloc (Nat.le_refl _) _).alloc (by simp) _)
  have o2 := (Own8.new w (mk8 n) 5 n _ (by simp) (toList_mk8 n) (by unfold maxLen; omega)).alloc (Obj.cells #[.slice (some ⟨w.heap.size, 0, none⟩) n n, .int .i64 0] 84)
  go_enter Try.func39, Try.ntmps39
  go_wp2_with (refine wpList_copy8 (o := ⟨some 14, _, _, _, _, _⟩) (by rfl) (.tmp 12) (.tmp 13) 25 5 (by rfl) bytesT w.heap.size n n _ (by rfl) o2 _ _ _ _ l (by rfl) hA2 HN.out (by rfl) ?_; intro w1 own1 grow1)
  go_ret
  refine ⟨rfl, ⟨?_, ?_, Nat.zero_le _, by rw [← HN.out]; exact hm⟩, Below.grown (((Below.refl _ _).alloc (Nat.le_refl _) _).alloc (by simp) _) grow1 (by simp; omega) (by simp)⟩
  · rw [← HN.out]
    have := Blk.new (w.alloc (Obj.cells (mk8 n) 5)) 84 #[.slice (some ⟨w.heap.size, 0, none⟩) n n, .int .i64 0]
    rw [World.size_alloc] at this
    exact this.grown grow1 (by simp)
  · rw [← HN.out]; exact own1

theorem left_nil (w : World) : Calls Try.prog 63 #[.pointer none] w fun e w' => e = .returned (.int .i64 0) ∧ w = w' := by
  go_enter Try.func63, Try.ntmps63
  go_wp2
  go_ret
  exact ⟨rfl, rfl⟩
theorem left_calls (g r : Nat) (l : List UInt8) (k : Nat) (w : World) (h : ReaderIs w g r l k) :
    Calls Try.prog 63 #[.pointer (some ⟨g, 0, none⟩)] w fun e w' => e = .returned (.int .i64 (8 * (l.length : Int) - (k : Int))) ∧ w.drew = w' := by
  have c0 : w.cell? ⟨g, 0, none⟩ = some (.slice (some ⟨r, 0, none⟩) l.length l.length) := h.1.cell 0
  have c1 : w.cell? ⟨g, 1, none⟩ = some (.int .i64 (k : Int)) := h.1.cell 1
  have hk := h.2.2.1
  have hl := h.2.2.2
  have e1 : IntKind.i64.wrap (8 * (l.length : Int)) = 8 * (l.length : Int) := by rw [IntKind.wrap_i64]; omega
  have e2 : IntKind.i64.wrap (8 * (l.length : Int) - (k : Int)) = 8 * (l.length : Int) - (k : Int) := by rw [IntKind.wrap_i64]; omega
  clear h
  go_enter Try.func63, Try.ntmps63
  go_wp2
  go_region
  go_wp2
  go_ret
  exact ⟨rfl, rfl⟩

/- Get -/

theorem get_nil (n : Int) (w : World) : Calls Try.prog 57 #[.pointer none, .int .i64 n] w fun e w' => e = .returned (.tuple #[.int .u64 0, .int .i64 1]) ∧ w = w' := by
  go_enter Try.func57, Try.ntmps57
  go_wp2
  go_ret2
  exact ⟨rfl, rfl⟩
theorem get_bad (g : Nat) (n : Int) (w : World) (h : n < 0 ∨ 64 < n) : Calls Try.prog 57 #[.pointer (some ⟨g, 0, none⟩), .int .i64 n] w fun e w' => e = .returned (.tuple #[.int .u64 0, .int .i64 1]) ∧ w = w' := by
  by_cases h1 : n < 0
  · clear h
    go_enter Try.func57, Try.ntmps57
    go_wp2
    go_ret2
    exact ⟨rfl, rfl⟩
  · have h2 : 64 < n := by omega
    clear h
    go_enter Try.func57, Try.ntmps57
    go_wp2
    go_ret2
    exact ⟨rfl, rfl⟩
theorem get_short (g r : Nat) (l : List UInt8) (k n : Nat) (w : World) (h : ReaderIs w g r l k) (hn : n ≤ 64) (hs : 8 * l.length < k + n) :
    Calls Try.prog 57 #[.pointer (some ⟨g, 0, none⟩), .int .i64 (n : Int)] w fun e w' => e = .returned (.tuple #[.int .u64 0, .int .i64 11]) ∧ Below w.heap.size w w' := by
  have hk := h.2.2.1
  have hl := h.2.2.2
  go_enter Try.func57, Try.ntmps57
  go_wp2_with (go_at_call 63; refine (left_calls g r l k _ h).mono ?_; rintro e w1 ⟨rfl, rfl⟩)
  go_ret2
  exact ⟨rfl, (Below.refl _ _).drew⟩

theorem u64_getBit (v : Nat) (x : UInt8) (q : Nat) (hv : v < 9223372036854775808) : ∃ y : Nat, bits BinOp.or IntKind.u64 ((v : Int) * 2) (IntKind.u64.wrap (bits BinOp.and IntKind.u8 ((x.toNat : Int) / 2 ^ q) 1)) = (y : Int) ∧ Hid (y = 2 * v + (x.toNat.testBit q).toNat) := by
  refine ⟨_, ?_, rfl⟩
  have hle : x.toNat / 2 ^ q ≤ x.toNat := Nat.div_le_self _ _
  have hx := x.toNat_lt
  have e := u8_and_nat (x.toNat / 2 ^ q) 1 (by omega) (by omega)
  rw [Nat.and_one_is_mod, show ((1 : Nat) : Int) = 1 from rfl, show ((x.toNat / 2 ^ q : Nat) : Int) = (x.toNat : Int) / 2 ^ q from by simp] at e
  have hb : x.toNat / 2 ^ q % 2 = (x.toNat.testBit q).toNat := by
    rw [Nat.testBit, Nat.shiftRight_eq_div_pow, Nat.one_and_eq_mod_two]
    rcases Nat.mod_two_eq_zero_or_one (x.toNat / 2 ^ q) with h | h <;> simp [h]
  rw [e, hb]
  have h1 : (x.toNat.testBit q).toNat ≤ 1 := Bool.toNat_le _
  generalize (x.toNat.testBit q).toNat = b at *
  have ew : IntKind.u64.wrap (b : Int) = (b : Int) := by rw [IntKind.wrap_u64]; omega
  rw [ew]
  have e2 := u64_or_nat (2 * v) b (by omega) (by omega)
  rw [show ((2 * v : Nat) : Int) = (v : Int) * 2 from by omega] at e2
  rw [e2]
  congr 1
  have h3 := Nat.two_pow_add_eq_or_of_lt (i := 1) (b := b) (by omega) v
  rw [show (2 : Nat) ^ 1 = 2 from rfl] at h3
  exact h3.symm

set_option maxRecDepth 100000 in
set_option maxHeartbeats 1000000 in
theorem get_calls (g r : Nat) (l : List UInt8) (k n : Nat) (w : World) (h : ReaderIs w g r l k) (hn : n ≤ 64) (hs : k + n ≤ 8 * l.length) :
    Calls Try.prog 57 #[.pointer (some ⟨g, 0, none⟩), .int .i64 (n : Int)] w fun e w' => e = .returned (.tuple #[.int .u64 (Bit.get l k n : Int), .int .i64 0]) ∧ ReaderIs w' g r l (k + n) ∧ Chg (One g) w w' := by
  have hl := h.2.2.2
  have d1 : decide ((n : Int) < 0) = false := by simp
  have d2 : decide ((64 : Int) < (n : Int)) = false := by simp; omega
  have d3 : decide (8 * (l.length : Int) - (k : Int) < (n : Int)) = false := by simp; omega
  go_enter Try.func57, Try.ntmps57
  go_wp2_with (go_at_call 63; refine (left_calls g r l k _ h).mono ?_; rintro e w1 ⟨rfl, rfl⟩)
  go_loopw [6, 22] (fun v i wr => ∃ j : Nat, j ≤ n ∧ i = .int .i64 j ∧ v = .int .u64 (Bit.get l k j : Int) ∧ ReaderIs wr g r l (k + j) ∧ Chg (One g) w wr) (fun _ i _ => n - (intOf i).toNat)
  case atStart => exact ⟨0, by omega, rfl, by rw [Bit.get_zero]; rfl, h.below (Below.refl _ _).drew, (Chg.refl _ _).drew⟩
  case round =>
    obtain ⟨j, hj, rfl, rfl, hr, hc⟩ := hrel
    clear h
    by_cases hlt : j < n
    · obtain ⟨m, hm⟩ : ∃ m, m = k + j := ⟨_, rfl⟩
      have hm8 : m < 8 * l.length := by omega
      rw [← hm] at hr
      have HM := hide hm
      clear hm
      have c0 : wr.cell? ⟨g, 0, none⟩ = some (.slice (some ⟨r, 0, none⟩) l.length l.length) := hr.1.cell 0
      have c1 : wr.cell? ⟨g, 1, none⟩ = some (.int .i64 (m : Int)) := hr.1.cell 1
      obtain ⟨r', x, hrr, hx, cx, fx⟩ := hr.2.1.at_ (k := m / 8) (by omega)
      injection hrr with hrr
      injection hrr with hrr
      subst hrr
      have HX : Hid (Bit.rbit l m = x.toNat.testBit (7 - m % 8)) := by
        unfold Bit.rbit
        rw [List.getD, hx]; exact rfl
      clear hx
      have hgl := Bit.get_lt l k j
      have hp : 2 ^ j ≤ 2 ^ 63 := Nat.pow_le_pow_right (by omega) (by omega)
      have HG := hide (Bit.get_succ l k j)
      generalize Bit.get l k j = v at *
      have hv : v < 9223372036854775808 := by omega
      have e3 : (0 : Int) ≤ (m : Int) / 8 := by omega
      have e4 : (m : Int) / 8 < (l.length : Int) := by omega
      clear hgl hp
      obtain ⟨y, hy, HY⟩ := u64_getBit v x (7 - m % 8) hv
      go_wp2
      go_region
      have hr1 := hr.below (Below.refl _ _).drew
      have hc1 := hc.drew
      clear hr hc c0 c1 cx fx hy
      generalize wr.drew = W1 at *
      have c1 : W1.cell? ⟨g, 1, none⟩ = some (.int .i64 (m : Int)) := hr1.1.cell 1
      have f1 := hr1.1.frozen 1
      go_wp2
      have hb2 := hr1.1.set_ 1 (.int .i64 ((m : Int) + 1))
      have ho2 := hr1.2.1.setFar (p := ⟨g, 1, none⟩) (by have := hr1.ne; simp [blkOf]; exact this) (.int .i64 ((m : Int) + 1))
      have hc2 := hc1.setCell (p := ⟨g, 1, none⟩) (.inl rfl) (.int .i64 ((m : Int) + 1))
      go_roundw
      case rel =>
        refine ⟨j + 1, by omega, by go_num, by rw [HG.out, ← HM.out, HX.out, HY.out], ⟨?_, ho2, by have := HM.out; omega, hl⟩, hc2⟩
        rw [show (((k + (j + 1) : Nat)) : Int) = (m : Int) + 1 from by have := HM.out; omega]
        simpa using hb2
      case measure => simp [intOf]; omega
    · obtain rfl : j = n := by omega
      go_wp2
      go_ret2
      exact ⟨rfl, hr, hc⟩

/- Align -/

theorem ralign_nil (w : World) : Calls Try.prog 42 #[.pointer none] w fun e w' => e = .returned (.int .i64 1) ∧ w = w' := by
  go_enter Try.func42, Try.ntmps42
  go_wp2
  go_ret
  exact ⟨rfl, rfl⟩
theorem ralign_whole (g r : Nat) (l : List UInt8) (k : Nat) (w : World) (h : ReaderIs w g r l k) (hk : k % 8 = 0) :
    Calls Try.prog 42 #[.pointer (some ⟨g, 0, none⟩)] w fun e w' => e = .returned (.int .i64 0) ∧ w = w' := by
  have c1 : w.cell? ⟨g, 1, none⟩ = some (.int .i64 (k : Int)) := h.1.cell 1
  have hm : ((k : Int) % 8 == 0) = true := by simp; omega
  clear hk
  go_enter Try.func42, Try.ntmps42
  go_wp2
  go_ret
  exact ⟨rfl, rfl⟩
/-- are the bits from k up to the next whole byte noughts? -/
def restZero (l : List UInt8) (k : Nat) : Bool := (l.getD (k / 8) 0).toNat * 2 ^ (k % 8) % 256 == 0
set_option maxRecDepth 100000 in
set_option maxHeartbeats 1000000 in
theorem ralign_no (g r : Nat) (l : List UInt8) (k : Nat) (w : World) (h : ReaderIs w g r l k) (hk : ¬ k % 8 = 0) (hz : restZero l k = false) :
    Calls Try.prog 42 #[.pointer (some ⟨g, 0, none⟩)] w fun e w' => e = .returned (.int .i64 11) ∧ Below w.heap.size w w' := by
  have c0 : w.cell? ⟨g, 0, none⟩ = some (.slice (some ⟨r, 0, none⟩) l.length l.length) := h.1.cell 0
  have c1 : w.cell? ⟨g, 1, none⟩ = some (.int .i64 (k : Int)) := h.1.cell 1
  have hm : ((k : Int) % 8 == 0) = false := by simp; omega
  have hk8 := h.2.2.1
  have hl := h.2.2.2
  obtain ⟨r', x, hrr, hx, cx, fx⟩ := h.2.1.at_ (k := k / 8) (by omega)
  injection hrr with hrr
  injection hrr with hrr
  subst hrr
  have hq : ((x.toNat : Int) * 2 ^ (k % 8) % 256 != 0) = true := by
    unfold restZero at hz
    rw [List.getD, hx] at hz
    have e : (x.toNat : Int) * 2 ^ (k % 8) % 256 = ((x.toNat * 2 ^ (k % 8) % 256 : Nat) : Int) := by simp
    rw [e]
    simp only [Option.getD_some, beq_eq_false_iff_ne, ne_eq] at hz
    rw [bne_iff_ne]
    omega
  have e3 : (0 : Int) ≤ (k : Int) / 8 := by omega
  have e4 : (k : Int) / 8 < (l.length : Int) := by omega
  clear hx hz h
  go_enter Try.func42, Try.ntmps42
  go_wp2
  go_region
  go_wp2
  go_ret
  exact ⟨rfl, (Below.refl _ _).drew⟩
set_option maxRecDepth 100000 in
set_option maxHeartbeats 1000000 in
theorem ralign_yes (g r : Nat) (l : List UInt8) (k : Nat) (w : World) (h : ReaderIs w g r l k) (hk : ¬ k % 8 = 0) (hz : restZero l k = true) :
    Calls Try.prog 42 #[.pointer (some ⟨g, 0, none⟩)] w fun e w' => e = .returned (.int .i64 0) ∧ ReaderIs w' g r l (8 * ((k + 7) / 8)) ∧ Chg (One g) w w' := by
  have c0 : w.cell? ⟨g, 0, none⟩ = some (.slice (some ⟨r, 0, none⟩) l.length l.length) := h.1.cell 0
  have c1 : w.cell? ⟨g, 1, none⟩ = some (.int .i64 (k : Int)) := h.1.cell 1
  have f1 := h.1.frozen 1
  have hm : ((k : Int) % 8 == 0) = false := by simp; omega
  have hk8 := h.2.2.1
  have hl := h.2.2.2
  obtain ⟨r', x, hrr, hx, cx, fx⟩ := h.2.1.at_ (k := k / 8) (by omega)
  injection hrr with hrr
  injection hrr with hrr
  subst hrr
  have hq : ((x.toNat : Int) * 2 ^ (k % 8) % 256 != 0) = false := by
    unfold restZero at hz
    rw [List.getD, hx] at hz
    have e : (x.toNat : Int) * 2 ^ (k % 8) % 256 = ((x.toNat * 2 ^ (k % 8) % 256 : Nat) : Int) := by simp
    rw [e]
    simp only [Option.getD_some, beq_iff_eq] at hz
    rw [hz]; rfl
  have e3 : (0 : Int) ≤ (k : Int) / 8 := by omega
  have e4 : (k : Int) / 8 < (l.length : Int) := by omega
  have HNE := hide h.ne
  have w1 : IntKind.i64.wrap (8 - (k : Int) % 8) = 8 - (k : Int) % 8 := by rw [IntKind.wrap_i64]; omega
  have w2 : IntKind.i64.wrap ((k : Int) + (8 - (k : Int) % 8)) = (k : Int) + (8 - (k : Int) % 8) := by rw [IntKind.wrap_i64]; omega
  clear hx hz
  go_enter Try.func42, Try.ntmps42
  go_wp2
  go_region
  go_wp2
  go_region
  go_wp2
  go_ret
  refine ⟨rfl, ⟨?_, ?_, by omega, hl⟩, ?_⟩
  · rw [show (((8 * ((k + 7) / 8) : Nat)) : Int) = (k : Int) + (8 - (k : Int) % 8) from by omega]
    have := h.1.set_ 1 (.int .i64 ((k : Int) + (8 - (k : Int) % 8)))
    simpa using this.drew.drew
  · exact ((h.2.1.setFar (p := ⟨g, 1, none⟩) (by simp [blkOf]; exact HNE.out) _).drew).drew
  · exact (((Chg.refl (One g) _).setCell (p := ⟨g, 1, none⟩) (.inl rfl) _).drew).drew

/- Rest -/

theorem rest_nil (w : World) : Calls Try.prog 44 #[.pointer none] w fun e w' => e = .returned (.slice none 0 0) ∧ w = w' := by
  go_enter Try.func44, Try.ntmps44
  go_wp2
  go_ret
  exact ⟨rfl, rfl⟩
theorem byt_drop {w : World} {B : Nat} {r n : Nat} {l : List UInt8} (h : Byt w B (some ⟨r, 0, none⟩) l) : Byt w B (some ⟨r, n, none⟩) (l.drop n) := fun hl => by
  rw [List.length_drop] at hl
  obtain ⟨b, off, e, hb, hc⟩ := h (by omega)
  injection e with e
  injection e with e1 e2
  subst e1
  refine ⟨r, n, rfl, hb, fun j x hx => ?_⟩
  rw [List.getElem?_drop] at hx
  have := hc (n + j) x hx
  rw [← e2] at this
  simpa using this
set_option maxRecDepth 100000 in
set_option maxHeartbeats 1000000 in
theorem rest_some (g r : Nat) (l : List UInt8) (k f m : Nat) (w : World) (h : ReaderIs w g r l k) (hf : (k + 7) / 8 = f) (hm : l.length = f + m) (hm0 : 0 < m) :
    Calls Try.prog 44 #[.pointer (some ⟨g, 0, none⟩)] w (RetBytes w (l.drop f)) := by
  have c0 : w.cell? ⟨g, 0, none⟩ = some (.slice (some ⟨r, 0, none⟩) l.length l.length) := h.1.cell 0
  have c1 : w.cell? ⟨g, 1, none⟩ = some (.int .i64 (k : Int)) := h.1.cell 1
  have hk8 := h.2.2.1
  have hl := h.2.2.2
  have hgl := h.lt
  have hfi : ((k : Int) + 7) / 8 = (f : Int) := by omega
  have hmk := run_make8 (P := Try.prog) bytesT .i64 .i64 m (by omega)
  have c0' : (w.alloc (Obj.cells (mk8 m) 5)).cell? ⟨g, 0, none⟩ = some (.slice (some ⟨r, 0, none⟩) l.length l.length) := (h.1.alloc _).cell 0
  have hby : Byt (w.alloc (Obj.cells (mk8 m) 5)) w.heap.size (some ⟨r, 0, none⟩) l := h.2.1.byt.below ((Below.refl _ _).alloc (Nat.le_refl _) _)
  have o2 := Own8.new w (mk8 m) 5 m _ (by simp) (toList_mk8 m) (by unfold maxLen; omega)
  have hsub : (l.length : Int) - (f : Int) = (m : Int) := by omega
  have hfl : f ≤ l.length := by omega
  have hne : ¬ l.length = f := by omega
  have hD : Hid (l.length - f = (l.drop f).length) := by rw [List.length_drop]; exact rfl
  have HML : Hid (m = l.length - f) := by show _ = _; omega
  clear hm hf h
  go_enter Try.func44, Try.ntmps44
  go_wp2_with (refine wpList_copy8 (o := ⟨some 28, _, _, _, _, _⟩) (by rfl) (.tmp 21) (.tmp 27) 25 5 (by rfl) bytesT w.heap.size m m _ (by rfl) o2 _ _ _ _ (l.drop f) (by rfl) (byt_drop (n := f) hby) hD.out HML.out ?_; intro w1 own1 grow1)
  go_ret
  exact ⟨some ⟨w.heap.size, 0, none⟩, m, m, rfl, own1, by simp [blkOf], Below.grown ((Below.refl _ _).alloc (Nat.le_refl _) _) grow1 (by simp) (by simp)⟩
set_option maxRecDepth 100000 in
set_option maxHeartbeats 1000000 in
theorem rest_none (g r : Nat) (l : List UInt8) (k n : Nat) (w : World) (h : ReaderIs w g r l k) (hn : n = l.length) (hf : (k + 7) / 8 = n) :
    Calls Try.prog 44 #[.pointer (some ⟨g, 0, none⟩)] w (RetBytes w []) := by
  have c0 : w.cell? ⟨g, 0, none⟩ = some (.slice (some ⟨r, 0, none⟩) n n) := by rw [hn]; exact h.1.cell 0
  have c1 : w.cell? ⟨g, 1, none⟩ = some (.int .i64 (k : Int)) := h.1.cell 1
  have hl : n ≤ 1099511627776 := by rw [hn]; exact h.2.2.2
  have hk8 : k ≤ 8 * n := by rw [hn]; exact h.2.2.1
  have hgl := h.lt
  have hfi : ((k : Int) + 7) / 8 = (n : Int) := by omega
  have hmk := run_make8 (P := Try.prog) bytesT .i64 .i64 0 (by omega)
  rw [show ((0 : Nat) : Int) = 0 from rfl] at hmk
  have c0' : (w.alloc (Obj.cells (mk8 0) 5)).cell? ⟨g, 0, none⟩ = some (.slice (some ⟨r, 0, none⟩) n n) := by rw [hn]; exact (h.1.alloc _).cell 0
  have o2 := Own8.new w (mk8 0) 5 0 _ (by simp) (toList_mk8 0) (by unfold maxLen; omega)
  clear hn hf h
  go_enter Try.func44, Try.ntmps44
  go_wp2_with (refine wpList_copy8 (o := ⟨some 28, _, _, _, _, _⟩) (by rfl) (.tmp 21) (.tmp 27) 25 5 (by rfl) bytesT w.heap.size 0 0 _ (by rfl) o2 w.heap.size _ _ _ [] (by rfl) Byt.nil (by rfl) (by rfl) ?_; intro w1 own1 grow1)
  go_ret
  exact ⟨some ⟨w.heap.size, 0, none⟩, 0, 0, rfl, own1, by simp [blkOf], Below.grown ((Below.refl _ _).alloc (Nat.le_refl _) _) grow1 (by simp) (by simp)⟩
theorem rest_calls (g r : Nat) (l : List UInt8) (k : Nat) (w : World) (h : ReaderIs w g r l k) :
    Calls Try.prog 44 #[.pointer (some ⟨g, 0, none⟩)] w (RetBytes w (l.drop ((k + 7) / 8))) := by
  have hk8 := h.2.2.1
  by_cases hm : l.length = (k + 7) / 8
  · rw [← hm, List.drop_length]
    exact rest_none g r l k l.length w h rfl hm.symm
  · exact rest_some g r l k _ (l.length - (k + 7) / 8) w h rfl (by omega) (by omega)
end Go.Proofs.Ytijcollcncjdoaa
