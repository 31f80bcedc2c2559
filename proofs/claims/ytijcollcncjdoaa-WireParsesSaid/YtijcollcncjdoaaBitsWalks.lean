/- The bits' writers and readers, each function by its contract. Conditions: the objects are as the calls leave them; at most 2^40 bits. -/
import Derived.Test.YtijcollcncjdoaaRows
import Derived.Test.YtijcollcncjdoaaObj
import Derived.Test.YtijcollcncjdoaaBitsPlain
import Derived.WalkKit
import Derived.WalkSpells
import Derived.WalkLawsBesides
import Derived.Laws.BitsAllLaws
import Derived.Laws.Shifts
import Derived.BigRegion
import Derived.BigQuiet
import Derived.Deep.QuietTactic
import Derived.Deep.WholeRow
namespace Go.Proofs.Ytijcollcncjdoaa
open Go.RowKit Kin

theorem bytesT : IsBytes Try.prog 25 5 := isBytes_of Try.underlying25 Try.underlying5 (by kernel_rfl)

/-- at block g lies a writer of the bits B, its bytes in block R -/
def WriterIs (w : World) (g : Nat) (R : Option Nat) (B : List Bool) : Prop :=
  ∃ A n c, Blk w g 76 #[.slice A n c, .int .i64 (B.length : Int)] ∧ Own8 w 5 A n c (Bit.pack B) ∧ blkOf A = R
theorem WriterIs.lt {w : World} {g : Nat} {R : Option Nat} {B : List Bool} (h : WriterIs w g R B) : g < w.heap.size := by
  obtain ⟨A, n, c, h1, _, _⟩ := h
  exact h1.lt
theorem WriterIs.rlt {w : World} {g : Nat} {R : Option Nat} {B : List Bool} (h : WriterIs w g R B) : ∀ r, R = some r → r < w.heap.size := by
  obtain ⟨A, n, c, _, h2, h3⟩ := h
  intro r hr
  exact h2.lt r (by rw [h3]; exact hr)
theorem WriterIs.ne {w : World} {g : Nat} {R : Option Nat} {B : List Bool} (h : WriterIs w g R B) : R ≠ some g := by
  obtain ⟨A, n, c, h1, h2, h3⟩ := h
  have := own_blk_ne h2.2 h1 (by decide)
  rwa [ownBlock_slice, h3] at this
theorem WriterIs.keep {S : Nat → Prop} {w w' : World} {g : Nat} {R : Option Nat} {B : List Bool} (h : WriterIs w g R B) (hc : Chg S w w') (hn : ∀ k, Foot g R k → ¬ S k) : WriterIs w' g R B := by
  obtain ⟨A, n, c, h1, h2, h3⟩ := h
  exact ⟨A, n, c, hc.blk h1 (hn g (.inl rfl)), hc.own h2 (fun k hk => hn k (.inr (by rw [← h3]; exact hk))), h3⟩
theorem WriterIs.below {w w' : World} {g : Nat} {R : Option Nat} {B : List Bool} (h : WriterIs w g R B) (hc : Below w.heap.size w w') : WriterIs w' g R B :=
  h.keep (S := fun _ => False) (Chg.of_below hc) (fun _ _ e => e)

theorem newWriter_zero : (Try.prog.info? 76).map (fun i => (i.zero, i.size)) = some (some (.agg #[.slice none 0 0, .int .i64 0]), 2) := by kernel_rfl
/-- a new writer -/
def RetWriter (w : World) (e : Ending) (w' : World) : Prop := e = .returned (.pointer (some ⟨w.heap.size, 0, none⟩)) ∧ WriterIs w' w.heap.size none [] ∧ Below w.heap.size w w'
set_option maxRecDepth 100000 in
theorem new_calls (w : World) : Calls Try.prog 31 #[] w (RetWriter w) := by
  have hz := (zero_of_info newWriter_zero).1
  go_enter Try.func31, Try.ntmps31
  go_wp2
  go_ret
  exact ⟨rfl, ⟨none, 0, 0, Blk.new _ _ _, Own8.nil _ _, rfl⟩, (Below.refl _ _).alloc (Nat.le_refl _) _⟩

theorem wbytes_nil (w : World) : Calls Try.prog 33 #[.pointer none] w fun e w' => e = .returned (.slice none 0 0) ∧ w = w' := by
  go_enter Try.func33, Try.ntmps33
  go_wp2
  go_ret
  exact ⟨rfl, rfl⟩
/-- an answer that is a new slice of bytes -/
def RetBytes (w : World) (l : List UInt8) (e : Ending) (w' : World) : Prop :=
  ∃ A n c, e = .returned (.slice A n c) ∧ Own8 w' 5 A n c l ∧ (∀ g, blkOf A = some g → w.heap.size ≤ g) ∧ Below w.heap.size w w'
theorem wbytes_calls (g : Nat) (R : Option Nat) (B : List Bool) (w : World) (h : WriterIs w g R B) (hB : B.length ≤ 1099511627776) :
    Calls Try.prog 33 #[.pointer (some ⟨g, 0, none⟩)] w (RetBytes w (Bit.pack B)) := by
  have hgl := h.lt
  obtain ⟨A, n, c, h1, h2, h3⟩ := h
  have hn : n = (B.length + 7) / 8 := by rw [h2.1, Bit.length_pack]
  have hn' : n ≤ B.length + 7 := by omega
  have c0 : w.cell? ⟨g, 0, none⟩ = some (.slice A n c) := h1.cell 0
  have c0' : (w.alloc (Obj.cells (mk8 n) 5)).cell? ⟨g, 0, none⟩ = some (.slice A n c) := (h1.alloc _).cell 0
  have hmk := run_make8 (P := Try.prog) bytesT .i64 .i64 n (by omega)
  clear hn
  go_enter Try.func33, Try.ntmps33
  go_wp2_with (refine wpList_copy8 (o := ⟨some 17, _, _, _, _, _⟩) (by rfl) (.tmp 12) (.tmp 16) 25 5 (by rfl) bytesT w.heap.size n n (List.replicate n 0) (by rfl) (Own8.new w (mk8 n) 5 n _ (by simp) (toList_mk8 n) (by unfold maxLen; omega)) _ _ _ _ (Bit.pack B) (by rfl) (h2.alloc _).byt h2.1 (by rfl) ?_; intro w1 own1 grow1)
  go_ret
  exact ⟨some ⟨w.heap.size, 0, none⟩, n, n, rfl, own1, by simp [blkOf], Below.grown ((Below.refl _ _).alloc (Nat.le_refl _) _) grow1 (by simp) (by simp)⟩

/- Put -/

theorem put_nil (v n : Int) (w : World) : Calls Try.prog 50 #[.pointer none, .int .u64 v, .int .i64 n] w fun e w' => e = .returned (.int .i64 1) ∧ w = w' := by
  go_enter Try.func50, Try.ntmps50
  go_wp2
  go_ret
  exact ⟨rfl, rfl⟩
theorem put_bad (g : Nat) (v n : Int) (w : World) (h : n < 0 ∨ 64 < n) : Calls Try.prog 50 #[.pointer (some ⟨g, 0, none⟩), .int .u64 v, .int .i64 n] w fun e w' => e = .returned (.int .i64 1) ∧ w = w' := by
  by_cases h1 : n < 0
  · clear h
    go_enter Try.func50, Try.ntmps50
    go_wp2
    go_ret
    exact ⟨rfl, rfl⟩
  · have h2 : 64 < n := by omega
    clear h
    go_enter Try.func50, Try.ntmps50
    go_wp2
    go_ret
    exact ⟨rfl, rfl⟩
theorem put_wide (g : Nat) (v n : Nat) (w : World) (hn : n < 64) (h : 2 ^ n ≤ v) : Calls Try.prog 50 #[.pointer (some ⟨g, 0, none⟩), .int .u64 (v : Int), .int .i64 (n : Int)] w fun e w' => e = .returned (.int .i64 1) ∧ w = w' := by
  have h1 : ((v : Int) / 2 ^ n != 0) = true := by
    have e : (v : Int) / 2 ^ n = ((v / 2 ^ n : Nat) : Int) := by simp
    have : 0 < v / 2 ^ n := Nat.div_pos h (Nat.two_pow_pos n)
    rw [e]
    generalize v / 2 ^ n = q at *
    simp; omega
  have d1 : decide ((n : Int) < 0) = false := by simp
  have d2 : decide ((64 : Int) < (n : Int)) = false := by simp; omega
  have d3 : decide ((n : Int) < 64) = true := by simp; omega
  clear h
  go_enter Try.func50, Try.ntmps50
  go_wp2
  go_ret
  exact ⟨rfl, rfl⟩

theorem u8_orBit (x : UInt8) (v i k : Nat) (hv : v < 18446744073709551616) : ∃ y : UInt8, bits BinOp.or IntKind.u8 (x.toNat : Int) (bits BinOp.and IntKind.u64 ((v : Int) / 2 ^ i) 1 % 256 * 2 ^ (7 - k % 8) % 256) = (y.toNat : Int) ∧ Hid (y = Bit.orBit x (v.testBit i) (k % 8)) := by
  refine ⟨_, ?_, rfl⟩
  have hle : v / 2 ^ i ≤ v := Nat.div_le_self _ _
  have e := u64_and_nat (v / 2 ^ i) 1 (by omega) (by omega)
  rw [Nat.and_one_is_mod, show ((1 : Nat) : Int) = 1 from rfl, show ((v / 2 ^ i : Nat) : Int) = (v : Int) / 2 ^ i from by simp] at e
  have hb : v / 2 ^ i % 2 = (v.testBit i).toNat := by
    rw [Nat.testBit, Nat.shiftRight_eq_div_pow, Nat.one_and_eq_mod_two]
    rcases Nat.mod_two_eq_zero_or_one (v / 2 ^ i) with h | h <;> simp [h]
  rw [e, hb, Bit.orBit_toNat]
  have h1 : (v.testBit i).toNat ≤ 1 := Bool.toNat_le _
  have h2 : 2 ^ (7 - k % 8) ≤ 2 ^ 7 := Nat.pow_le_pow_right (by omega) (by omega)
  have h3 : (v.testBit i).toNat * 2 ^ (7 - k % 8) ≤ 1 * 2 ^ 7 := Nat.mul_le_mul h1 h2
  rw [← u8_or_nat x.toNat _ x.toNat_lt (by omega)]
  congr 1
  have e2 : (((v.testBit i).toNat : Nat) : Int) % 256 = (((v.testBit i).toNat : Nat) : Int) := by omega
  rw [e2]
  have e3 : (((v.testBit i).toNat * 2 ^ (7 - k % 8) : Nat) : Int) = (((v.testBit i).toNat : Nat) : Int) * 2 ^ (7 - k % 8) := by simp
  rw [← e3]
  omega
theorem take_digits (B : List Bool) (v n i j : Nat) (hn : n = i + 1 + j) : B ++ (Bit.digits v n).take (j + 1) = (B ++ (Bit.digits v n).take j) ++ [v.testBit i] := by
  subst hn
  have h : j < (Bit.digits v (i + 1 + j)).length := by rw [Bit.length_digits]; omega
  have e : (Bit.digits v (i + 1 + j))[j] = v.testBit i := by
    have := Bit.digits_at v (i + 1 + j) (i := j) (by omega)
    rw [List.getElem?_eq_getElem h] at this
    injection this with this
    rw [this, show i + 1 + j - 1 - j = i from by omega]
  rw [List.take_succ_eq_append_getElem h, e, List.append_assoc]

set_option maxRecDepth 100000 in
set_option maxHeartbeats 4000000 in
theorem put_calls (g : Nat) (R : Option Nat) (B : List Bool) (v n : Nat) (w : World) (h : WriterIs w g R B) (hB : B.length ≤ 1099511627776) (hn : n ≤ 64) (hv : v < 2 ^ n) :
    Calls Try.prog 50 #[.pointer (some ⟨g, 0, none⟩), .int .u64 (v : Int), .int .i64 (n : Int)] w
      fun e w' => e = .returned (.int .i64 0) ∧ ∃ R', WriterIs w' g R' (B ++ Bit.digits v n) ∧ Chg (Foot g R) w w' ∧ RowNew w.heap.size R R' := by
  have d1 : decide ((n : Int) < 0) = false := by simp
  have d2 : decide ((64 : Int) < (n : Int)) = false := by simp; omega
  have hv64 : v < 18446744073709551616 := Nat.lt_of_lt_of_le hv (Nat.pow_le_pow_right (n := 2) (by omega) hn)
  have hq : ((v : Int) / 2 ^ n != 0) = false := by
    have e : (v : Int) / 2 ^ n = ((v / 2 ^ n : Nat) : Int) := by simp
    rw [e, Nat.div_eq_of_lt hv]; rfl
  have HV := hide hv
  clear hv
  have hsplit : ∃ b, decide ((n : Int) < 64) = b := ⟨_, rfl⟩
  obtain ⟨bb, d3⟩ := hsplit
  cases bb
  · go_enter Try.func50, Try.ntmps50
    go_wp2
    go_loopw [7] (fun i wr => ∃ (j : Nat) (R' : Option Nat), j ≤ n ∧ i = .int .i64 ((n : Int) - 1 - (j : Int)) ∧ WriterIs wr g R' (B ++ (Bit.digits v n).take j) ∧ Chg (Foot g R) w wr ∧ RowNew w.heap.size R R') (fun i _ => (intOf i + 1).toNat)
    case atStart => exact ⟨0, R, by omega, by simp, by simpa using h, Chg.refl _ _, RowNew.refl _ _⟩
    case round =>
      obtain ⟨j, R', hj, rfl, hw, hc, hr⟩ := hrel
      by_cases hlt : j < n
      · have hlen : (B ++ (Bit.digits v n).take j).length = B.length + j := by rw [List.length_append, List.length_take, Bit.length_digits, Nat.min_eq_left hj]
        obtain ⟨i, HIJ⟩ : ∃ i, Hid (n = i + 1 + j) := ⟨n - 1 - j, by show n = _; omega⟩
        have hin : i < 64 := by have := HIJ.out; omega
        obtain ⟨A, nb, c, b1, o1, ra⟩ := hw
        rw [show ((n : Int) - 1 - (j : Int)) = (i : Int) from by have := HIJ.out; omega]
        generalize hBj : B ++ (Bit.digits v n).take j = Bj at *
        have hk : Bj.length ≤ 1099511627776 + 64 := by omega
        have HBJ := hide hBj
        have HLEN := hide hlen
        clear hBj hlen h hB
        have hnb : nb = (Bj.length + 7) / 8 := by rw [o1.1, Bit.length_pack]
        generalize hkk : Bj.length = k at *
        have HK := hide hkk
        clear hkk
        by_cases hk0 : k % 8 = 0
        · have HGR : Hid (Bit.grow Bj = Bit.pack Bj ++ [0]) := by unfold Bit.grow; rw [HK.out, if_pos hk0]; exact rfl
          have c0 : wr.cell? ⟨g, 0, none⟩ = some (.slice A nb c) := b1.cell 0
          have c1 : wr.cell? ⟨g, 1, none⟩ = some (.int .i64 (k : Int)) := b1.cell 1
          have hm : ((k : Int) % 8 == 0) = true := by simp; omega
          have hgl := b1.lt
          have hne0 : blkOf A ≠ some g := by have := own_blk_ne o1.2 b1 (by decide); rwa [ownBlock_slice] at this
          have HNE0 := hide hne0
          have hnb1 : nb ≤ k / 8 := by omega
          have hnb2 : k / 8 ≤ nb := by omega
          clear hnb hne0 hk0
          go_wp2_with (at_builtin; refine wpList_append8 (by rfl) (.tmp 44) (.tmp 45) 25 5 (by rfl) bytesT _ _ _ _ (by rfl) (o1.alloc _) _ _ _ _ [0] (by rfl) (Byt.new _ _ _ _ _ rfl) (by rfl) (by simp; omega) ?_; intro A2 c2 w2 own2 grow2 at2; have b2 := (b1.alloc _).grown grow2 (Ne.symm HNE0.out); have k0 := b2.cell 0; have k1 := b2.frozen 0)
          have hz := hc.size
          have b3 := b2.set_ 0 (.slice A2 (nb + 1) c2)
          have hne2 : blkOf A2 ≠ some g := by
            rcases at2 with e | e
            · rw [e]; exact HNE0.out
            · rw [e]; simp; omega
          have o3 := own2.setFar (p := ⟨g, 0, none⟩) hne2 (.slice A2 (nb + 1) c2)
          have hrA : RowNew w.heap.size R (blkOf A) := by rw [ra]; exact hr
          have hr3 : RowNew w.heap.size R (blkOf A2) := by
            rcases at2 with e | e
            · rw [e]; exact hrA
            · exact .inr ⟨_, e, by simp; omega⟩
          have hc3 : Chg (Foot g R) w (w2.setCell ⟨g, 0, none⟩ (.slice A2 (nb + 1) c2)) := by
            refine Chg.setCell ?_ (.inl (.inl rfl)) _
            refine Chg.grown (hc.alloc _) grow2 (fun r e => ?_)
            rcases hrA with e' | ⟨r', e', hge⟩
            · exact .inl (.inr (by rw [← e']; exact e))
            · rw [e] at e'; injection e' with e'; exact .inr (by omega)
          rw [← HGR.out] at o3
          have b3 : Blk (w2.setCell ⟨g, 0, none⟩ (.slice A2 (nb + 1) c2)) g 76 #[.slice A2 (nb + 1) c2, .int .i64 (k : Int)] := by simpa using b3
          clear b1 b2 o1 own2 grow2 at2 hc hr ra hrA c0 c1 k0 k1 hne2
          generalize w2.setCell ⟨g, 0, none⟩ (.slice A2 (nb + 1) c2) = W0 at *
          generalize hnb3 : nb + 1 = nb3 at *
          have hnb4 : k / 8 < nb3 := by omega
          clear hnb3 hnb1 hnb2
          obtain ⟨c3, rfl⟩ : ∃ c3, c3 = c2 := ⟨_, rfl⟩
          obtain ⟨gr, x, rfl, hx, cx, fx⟩ := o3.at_ (k := k / 8) (by omega)
          have hne : gr ≠ g := by have := own_blk_ne o3.2 b3 (by decide); intro e; subst e; exact this (by rw [ownBlock_slice]; rfl)
          have HX : Hid (Bit.byteAt Bj (k / 8) = x) := by
            have := Bit.grow_at Bj
            rw [HK.out, hx] at this
            injection this with this
            exact this.symm
          clear hx
          obtain ⟨y, hy, HY⟩ := u8_orBit x v i k hv64
          have c0 : W0.cell? ⟨g, 0, none⟩ = some (.slice (some ⟨gr, 0, none⟩) nb3 c3) := b3.cell 0
          have c1 : W0.cell? ⟨g, 1, none⟩ = some (.int .i64 (k : Int)) := b3.cell 1
          have e3 : (0 : Int) ≤ (k : Int) / 8 := by omega
          have e4 : (k : Int) / 8 < (nb3 : Int) := by omega
          go_region
          have HPS : Hid ((Bit.grow Bj).set (k / 8) y = Bit.pack (Bj ++ [v.testBit i])) := by
            rw [Bit.pack_snoc, HK.out, HX.out, HY.out]; exact rfl
          have o4 := o3.set (k := k / 8) rfl y
          rw [HPS.out] at o4
          have o4 := o4.drew
          have b4 := (b3.far (p := ⟨gr, k / 8, none⟩) (Ne.symm hne) (.int .u8 (y.toNat : Int))).drew
          have hc4 := (hc3.setCell (p := ⟨gr, k / 8, none⟩) (by
            rcases hr3 with e | ⟨r, e, hge⟩
            · exact .inl (.inr (by rw [← e]; rfl))
            · simp [blkOf] at e; exact .inr (by simp; omega)) (.int .u8 (y.toNat : Int))).drew
          clear o3 b3 hc3 cx fx c0 c1 hy
          generalize (W0.setCell ⟨gr, k / 8, none⟩ (.int .u8 (y.toNat : Int))).drew = W1 at *
          have c1 : W1.cell? ⟨g, 1, none⟩ = some (.int .i64 (k : Int)) := b4.cell 1
          have f1 := b4.frozen 1
          go_wp2
          have b5 := b4.set_ 1 (.int .i64 ((k : Int) + 1))
          have o5 := o4.setFar (p := ⟨g, 1, none⟩) (by simp [blkOf]; exact hne) (.int .i64 ((k : Int) + 1))
          have hc5 := hc4.setCell (p := ⟨g, 1, none⟩) (.inl (.inl rfl)) (.int .i64 ((k : Int) + 1))
          go_roundw
          case rel =>
            refine ⟨j + 1, some gr, by omega, ?_, ?_, hc5, hr3⟩
            · rw [show ((n : Int) - 1 - ((j + 1 : Nat) : Int)) = (i : Int) - 1 from by have := HIJ.out; omega]
            rw [take_digits B v n i j HIJ.out, HBJ.out]
            refine ⟨some ⟨gr, 0, none⟩, nb3, c3, ?_, o5, rfl⟩
            rw [List.length_append, HK.out, List.length_singleton, Int.natCast_add]
            simpa using b5
          case measure => simp [intOf]
        · have HGR : Hid (Bit.grow Bj = Bit.pack Bj) := by unfold Bit.grow; rw [HK.out, if_neg hk0]; exact rfl
          have c1' : wr.cell? ⟨g, 1, none⟩ = some (.int .i64 (k : Int)) := b1.cell 1
          have hm : ((k : Int) % 8 == 0) = false := by simp; omega
          have hnb4 : k / 8 < nb := by omega
          clear hnb
          go_wp2
          obtain ⟨W0, rfl⟩ : ∃ W0, W0 = wr := ⟨_, rfl⟩
          have o3 := o1
          rw [← HGR.out] at o3
          have b3 := b1
          have hc3 := hc
          have hr3 : RowNew w.heap.size R (blkOf A) := by rw [ra]; exact hr
          clear b1 o1 hc hr ra c1'
          obtain ⟨nb3, rfl⟩ : ∃ nb3, nb3 = nb := ⟨_, rfl⟩
          obtain ⟨c3, rfl⟩ : ∃ c3, c3 = c := ⟨_, rfl⟩
          obtain ⟨gr, x, rfl, hx, cx, fx⟩ := o3.at_ (k := k / 8) (by omega)
          have hne : gr ≠ g := by have := own_blk_ne o3.2 b3 (by decide); intro e; subst e; exact this (by rw [ownBlock_slice]; rfl)
          have HX : Hid (Bit.byteAt Bj (k / 8) = x) := by
            have := Bit.grow_at Bj
            rw [HK.out, hx] at this
            injection this with this
            exact this.symm
          clear hx
          obtain ⟨y, hy, HY⟩ := u8_orBit x v i k hv64
          have c0 : W0.cell? ⟨g, 0, none⟩ = some (.slice (some ⟨gr, 0, none⟩) nb3 c3) := b3.cell 0
          have c1 : W0.cell? ⟨g, 1, none⟩ = some (.int .i64 (k : Int)) := b3.cell 1
          have e3 : (0 : Int) ≤ (k : Int) / 8 := by omega
          have e4 : (k : Int) / 8 < (nb3 : Int) := by omega
          go_region
          have HPS : Hid ((Bit.grow Bj).set (k / 8) y = Bit.pack (Bj ++ [v.testBit i])) := by
            rw [Bit.pack_snoc, HK.out, HX.out, HY.out]; exact rfl
          have o4 := o3.set (k := k / 8) rfl y
          rw [HPS.out] at o4
          have o4 := o4.drew
          have b4 := (b3.far (p := ⟨gr, k / 8, none⟩) (Ne.symm hne) (.int .u8 (y.toNat : Int))).drew
          have hc4 := (hc3.setCell (p := ⟨gr, k / 8, none⟩) (by
            rcases hr3 with e | ⟨r, e, hge⟩
            · exact .inl (.inr (by rw [← e]; rfl))
            · simp [blkOf] at e; exact .inr (by simp; omega)) (.int .u8 (y.toNat : Int))).drew
          clear o3 b3 hc3 cx fx c0 c1 hy
          generalize (W0.setCell ⟨gr, k / 8, none⟩ (.int .u8 (y.toNat : Int))).drew = W1 at *
          have c1 : W1.cell? ⟨g, 1, none⟩ = some (.int .i64 (k : Int)) := b4.cell 1
          have f1 := b4.frozen 1
          go_wp2
          have b5 := b4.set_ 1 (.int .i64 ((k : Int) + 1))
          have o5 := o4.setFar (p := ⟨g, 1, none⟩) (by simp [blkOf]; exact hne) (.int .i64 ((k : Int) + 1))
          have hc5 := hc4.setCell (p := ⟨g, 1, none⟩) (.inl (.inl rfl)) (.int .i64 ((k : Int) + 1))
          go_roundw
          case rel =>
            refine ⟨j + 1, some gr, by omega, ?_, ?_, hc5, hr3⟩
            · rw [show ((n : Int) - 1 - ((j + 1 : Nat) : Int)) = (i : Int) - 1 from by have := HIJ.out; omega]
            rw [take_digits B v n i j HIJ.out, HBJ.out]
            refine ⟨some ⟨gr, 0, none⟩, nb3, c3, ?_, o5, rfl⟩
            rw [List.length_append, HK.out, List.length_singleton, Int.natCast_add]
            simpa using b5
          case measure => simp [intOf]
      · obtain rfl : j = n := by omega
        have e : (Bit.digits v j).take j = Bit.digits v j := List.take_of_length_le (by rw [Bit.length_digits]; omega)
        rw [e] at hw
        rw [show ((j : Int) - 1 - (j : Int)) = -1 from by omega]
        clear e
        go_wp2
        go_ret
        exact ⟨rfl, R', hw, hc, hr⟩
  · go_enter Try.func50, Try.ntmps50
    go_wp2
    go_loopw [7] (fun i wr => ∃ (j : Nat) (R' : Option Nat), j ≤ n ∧ i = .int .i64 ((n : Int) - 1 - (j : Int)) ∧ WriterIs wr g R' (B ++ (Bit.digits v n).take j) ∧ Chg (Foot g R) w wr ∧ RowNew w.heap.size R R') (fun i _ => (intOf i + 1).toNat)
    case atStart => exact ⟨0, R, by omega, by simp, by simpa using h, Chg.refl _ _, RowNew.refl _ _⟩
    case round =>
      obtain ⟨j, R', hj, rfl, hw, hc, hr⟩ := hrel
      by_cases hlt : j < n
      · have hlen : (B ++ (Bit.digits v n).take j).length = B.length + j := by rw [List.length_append, List.length_take, Bit.length_digits, Nat.min_eq_left hj]
        obtain ⟨i, HIJ⟩ : ∃ i, Hid (n = i + 1 + j) := ⟨n - 1 - j, by show n = _; omega⟩
        have hin : i < 64 := by have := HIJ.out; omega
        obtain ⟨A, nb, c, b1, o1, ra⟩ := hw
        rw [show ((n : Int) - 1 - (j : Int)) = (i : Int) from by have := HIJ.out; omega]
        generalize hBj : B ++ (Bit.digits v n).take j = Bj at *
        have hk : Bj.length ≤ 1099511627776 + 64 := by omega
        have HBJ := hide hBj
        have HLEN := hide hlen
        clear hBj hlen h hB
        have hnb : nb = (Bj.length + 7) / 8 := by rw [o1.1, Bit.length_pack]
        generalize hkk : Bj.length = k at *
        have HK := hide hkk
        clear hkk
        by_cases hk0 : k % 8 = 0
        · have HGR : Hid (Bit.grow Bj = Bit.pack Bj ++ [0]) := by unfold Bit.grow; rw [HK.out, if_pos hk0]; exact rfl
          have c0 : wr.cell? ⟨g, 0, none⟩ = some (.slice A nb c) := b1.cell 0
          have c1 : wr.cell? ⟨g, 1, none⟩ = some (.int .i64 (k : Int)) := b1.cell 1
          have hm : ((k : Int) % 8 == 0) = true := by simp; omega
          have hgl := b1.lt
          have hne0 : blkOf A ≠ some g := by have := own_blk_ne o1.2 b1 (by decide); rwa [ownBlock_slice] at this
          have HNE0 := hide hne0
          have hnb1 : nb ≤ k / 8 := by omega
          have hnb2 : k / 8 ≤ nb := by omega
          clear hnb hne0 hk0
          go_wp2_with (at_builtin; refine wpList_append8 (by rfl) (.tmp 44) (.tmp 45) 25 5 (by rfl) bytesT _ _ _ _ (by rfl) (o1.alloc _) _ _ _ _ [0] (by rfl) (Byt.new _ _ _ _ _ rfl) (by rfl) (by simp; omega) ?_; intro A2 c2 w2 own2 grow2 at2; have b2 := (b1.alloc _).grown grow2 (Ne.symm HNE0.out); have k0 := b2.cell 0; have k1 := b2.frozen 0)
          have hz := hc.size
          have b3 := b2.set_ 0 (.slice A2 (nb + 1) c2)
          have hne2 : blkOf A2 ≠ some g := by
            rcases at2 with e | e
            · rw [e]; exact HNE0.out
            · rw [e]; simp; omega
          have o3 := own2.setFar (p := ⟨g, 0, none⟩) hne2 (.slice A2 (nb + 1) c2)
          have hrA : RowNew w.heap.size R (blkOf A) := by rw [ra]; exact hr
          have hr3 : RowNew w.heap.size R (blkOf A2) := by
            rcases at2 with e | e
            · rw [e]; exact hrA
            · exact .inr ⟨_, e, by simp; omega⟩
          have hc3 : Chg (Foot g R) w (w2.setCell ⟨g, 0, none⟩ (.slice A2 (nb + 1) c2)) := by
            refine Chg.setCell ?_ (.inl (.inl rfl)) _
            refine Chg.grown (hc.alloc _) grow2 (fun r e => ?_)
            rcases hrA with e' | ⟨r', e', hge⟩
            · exact .inl (.inr (by rw [← e']; exact e))
            · rw [e] at e'; injection e' with e'; exact .inr (by omega)
          rw [← HGR.out] at o3
          have b3 : Blk (w2.setCell ⟨g, 0, none⟩ (.slice A2 (nb + 1) c2)) g 76 #[.slice A2 (nb + 1) c2, .int .i64 (k : Int)] := by simpa using b3
          clear b1 b2 o1 own2 grow2 at2 hc hr ra hrA c0 c1 k0 k1 hne2
          generalize w2.setCell ⟨g, 0, none⟩ (.slice A2 (nb + 1) c2) = W0 at *
          generalize hnb3 : nb + 1 = nb3 at *
          have hnb4 : k / 8 < nb3 := by omega
          clear hnb3 hnb1 hnb2
          obtain ⟨c3, rfl⟩ : ∃ c3, c3 = c2 := ⟨_, rfl⟩
          obtain ⟨gr, x, rfl, hx, cx, fx⟩ := o3.at_ (k := k / 8) (by omega)
          have hne : gr ≠ g := by have := own_blk_ne o3.2 b3 (by decide); intro e; subst e; exact this (by rw [ownBlock_slice]; rfl)
          have HX : Hid (Bit.byteAt Bj (k / 8) = x) := by
            have := Bit.grow_at Bj
            rw [HK.out, hx] at this
            injection this with this
            exact this.symm
          clear hx
          obtain ⟨y, hy, HY⟩ := u8_orBit x v i k hv64
          have c0 : W0.cell? ⟨g, 0, none⟩ = some (.slice (some ⟨gr, 0, none⟩) nb3 c3) := b3.cell 0
          have c1 : W0.cell? ⟨g, 1, none⟩ = some (.int .i64 (k : Int)) := b3.cell 1
          have e3 : (0 : Int) ≤ (k : Int) / 8 := by omega
          have e4 : (k : Int) / 8 < (nb3 : Int) := by omega
          go_region
          have HPS : Hid ((Bit.grow Bj).set (k / 8) y = Bit.pack (Bj ++ [v.testBit i])) := by
            rw [Bit.pack_snoc, HK.out, HX.out, HY.out]; exact rfl
          have o4 := o3.set (k := k / 8) rfl y
          rw [HPS.out] at o4
          have o4 := o4.drew
          have b4 := (b3.far (p := ⟨gr, k / 8, none⟩) (Ne.symm hne) (.int .u8 (y.toNat : Int))).drew
          have hc4 := (hc3.setCell (p := ⟨gr, k / 8, none⟩) (by
            rcases hr3 with e | ⟨r, e, hge⟩
            · exact .inl (.inr (by rw [← e]; rfl))
            · simp [blkOf] at e; exact .inr (by simp; omega)) (.int .u8 (y.toNat : Int))).drew
          clear o3 b3 hc3 cx fx c0 c1 hy
          generalize (W0.setCell ⟨gr, k / 8, none⟩ (.int .u8 (y.toNat : Int))).drew = W1 at *
          have c1 : W1.cell? ⟨g, 1, none⟩ = some (.int .i64 (k : Int)) := b4.cell 1
          have f1 := b4.frozen 1
          go_wp2
          have b5 := b4.set_ 1 (.int .i64 ((k : Int) + 1))
          have o5 := o4.setFar (p := ⟨g, 1, none⟩) (by simp [blkOf]; exact hne) (.int .i64 ((k : Int) + 1))
          have hc5 := hc4.setCell (p := ⟨g, 1, none⟩) (.inl (.inl rfl)) (.int .i64 ((k : Int) + 1))
          go_roundw
          case rel =>
            refine ⟨j + 1, some gr, by omega, ?_, ?_, hc5, hr3⟩
            · rw [show ((n : Int) - 1 - ((j + 1 : Nat) : Int)) = (i : Int) - 1 from by have := HIJ.out; omega]
            rw [take_digits B v n i j HIJ.out, HBJ.out]
            refine ⟨some ⟨gr, 0, none⟩, nb3, c3, ?_, o5, rfl⟩
            rw [List.length_append, HK.out, List.length_singleton, Int.natCast_add]
            simpa using b5
          case measure => simp [intOf]
        · have HGR : Hid (Bit.grow Bj = Bit.pack Bj) := by unfold Bit.grow; rw [HK.out, if_neg hk0]; exact rfl
          have c1' : wr.cell? ⟨g, 1, none⟩ = some (.int .i64 (k : Int)) := b1.cell 1
          have hm : ((k : Int) % 8 == 0) = false := by simp; omega
          have hnb4 : k / 8 < nb := by omega
          clear hnb
          go_wp2
          obtain ⟨W0, rfl⟩ : ∃ W0, W0 = wr := ⟨_, rfl⟩
          have o3 := o1
          rw [← HGR.out] at o3
          have b3 := b1
          have hc3 := hc
          have hr3 : RowNew w.heap.size R (blkOf A) := by rw [ra]; exact hr
          clear b1 o1 hc hr ra c1'
          obtain ⟨nb3, rfl⟩ : ∃ nb3, nb3 = nb := ⟨_, rfl⟩
          obtain ⟨c3, rfl⟩ : ∃ c3, c3 = c := ⟨_, rfl⟩
          obtain ⟨gr, x, rfl, hx, cx, fx⟩ := o3.at_ (k := k / 8) (by omega)
          have hne : gr ≠ g := by have := own_blk_ne o3.2 b3 (by decide); intro e; subst e; exact this (by rw [ownBlock_slice]; rfl)
          have HX : Hid (Bit.byteAt Bj (k / 8) = x) := by
            have := Bit.grow_at Bj
            rw [HK.out, hx] at this
            injection this with this
            exact this.symm
          clear hx
          obtain ⟨y, hy, HY⟩ := u8_orBit x v i k hv64
          have c0 : W0.cell? ⟨g, 0, none⟩ = some (.slice (some ⟨gr, 0, none⟩) nb3 c3) := b3.cell 0
          have c1 : W0.cell? ⟨g, 1, none⟩ = some (.int .i64 (k : Int)) := b3.cell 1
          have e3 : (0 : Int) ≤ (k : Int) / 8 := by omega
          have e4 : (k : Int) / 8 < (nb3 : Int) := by omega
          go_region
          have HPS : Hid ((Bit.grow Bj).set (k / 8) y = Bit.pack (Bj ++ [v.testBit i])) := by
            rw [Bit.pack_snoc, HK.out, HX.out, HY.out]; exact rfl
          have o4 := o3.set (k := k / 8) rfl y
          rw [HPS.out] at o4
          have o4 := o4.drew
          have b4 := (b3.far (p := ⟨gr, k / 8, none⟩) (Ne.symm hne) (.int .u8 (y.toNat : Int))).drew
          have hc4 := (hc3.setCell (p := ⟨gr, k / 8, none⟩) (by
            rcases hr3 with e | ⟨r, e, hge⟩
            · exact .inl (.inr (by rw [← e]; rfl))
            · simp [blkOf] at e; exact .inr (by simp; omega)) (.int .u8 (y.toNat : Int))).drew
          clear o3 b3 hc3 cx fx c0 c1 hy
          generalize (W0.setCell ⟨gr, k / 8, none⟩ (.int .u8 (y.toNat : Int))).drew = W1 at *
          have c1 : W1.cell? ⟨g, 1, none⟩ = some (.int .i64 (k : Int)) := b4.cell 1
          have f1 := b4.frozen 1
          go_wp2
          have b5 := b4.set_ 1 (.int .i64 ((k : Int) + 1))
          have o5 := o4.setFar (p := ⟨g, 1, none⟩) (by simp [blkOf]; exact hne) (.int .i64 ((k : Int) + 1))
          have hc5 := hc4.setCell (p := ⟨g, 1, none⟩) (.inl (.inl rfl)) (.int .i64 ((k : Int) + 1))
          go_roundw
          case rel =>
            refine ⟨j + 1, some gr, by omega, ?_, ?_, hc5, hr3⟩
            · rw [show ((n : Int) - 1 - ((j + 1 : Nat) : Int)) = (i : Int) - 1 from by have := HIJ.out; omega]
            rw [take_digits B v n i j HIJ.out, HBJ.out]
            refine ⟨some ⟨gr, 0, none⟩, nb3, c3, ?_, o5, rfl⟩
            rw [List.length_append, HK.out, List.length_singleton, Int.natCast_add]
            simpa using b5
          case measure => simp [intOf]
      · obtain rfl : j = n := by omega
        have e : (Bit.digits v j).take j = Bit.digits v j := List.take_of_length_le (by rw [Bit.length_digits]; omega)
        rw [e] at hw
        rw [show ((j : Int) - 1 - (j : Int)) = -1 from by omega]
        clear e
        go_wp2
        go_ret
        exact ⟨rfl, R', hw, hc, hr⟩
end Go.Proofs.Ytijcollcncjdoaa
