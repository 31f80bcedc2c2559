/- Texts of this claim in one: HBits. What each proves, and on what conditions, its own words say. -/
import Derived.Test.YtakglalebjkpeaaRows
import Derived.Test.YtakglalebjkpeaaHLib
import Derived.Test.YtakglalebjkpeaaHPlain
import Derived.WalkKit
import Derived.WalkSpells
import Derived.WalkLawsBesides
import Derived.Laws.BitsAllLaws
import Derived.Laws.Shifts
import Derived.BigRegion
import Derived.BigQuiet
import Derived.Deep.QuietTactic
import Derived.Deep.WholeRow
import Derived.Test.YtakglalebjkpeaaHLib2
import Derived.Deep.RegionLaw
namespace Go.Proofs.Ytakglalebjkpeaa
open Go.RowKit Kin

theorem bytesT : IsBytes Try.prog 31 5 := isBytes_of Try.underlying31 Try.underlying5 (by kernel_rfl)

/-- at block g lies a writer of the bits B, its bytes in block R -/
def WriterIs (w : World) (g : Nat) (R : Option Nat) (B : List Bool) : Prop :=
  ∃ A n c, Blk w g 107 #[.slice A n c, .int .i64 (B.length : Int)] ∧ Own8 w 5 A n c (Bit.pack B) ∧ blkOf A = R
theorem WriterIs.lt {w : World} {g : Nat} {R : Option Nat} {B : List Bool} (h : WriterIs w g R B) : g < w.heap.size := by
  obtain ⟨A, n, c, h1, _, _⟩ := h
  exact h1.lt
theorem WriterIs.rlt {w : World} {g : Nat} {R : Option Nat} {B : List Bool} (h : WriterIs w g R B) : ∀ r, R = some r → r < w.heap.size := by
  obtain ⟨A, n, c, _, h2, h3⟩ := h
  intro r hr
  exact h2.lt r (by rw [h3]; exact hr)
theorem WriterIs.ne {w : World} {g : Nat} {R : Option Nat} {B : List Bool} (h : WriterIs w g R B) : R ≠ some g := by
  obtain ⟨A, n, c, h1, h2, h3⟩ := h
  have := own_blk_ne h2.2 h1 (by decide)
  rwa [ownBlock_slice, h3] at this
theorem WriterIs.keep {S : Nat → Prop} {w w' : World} {g : Nat} {R : Option Nat} {B : List Bool} (h : WriterIs w g R B) (hc : Chg S w w') (hn : ∀ k, Foot g R k → ¬ S k) : WriterIs w' g R B := by
  obtain ⟨A, n, c, h1, h2, h3⟩ := h
  exact ⟨A, n, c, hc.blk h1 (hn g (.inl rfl)), hc.own h2 (fun k hk => hn k (.inr (by rw [← h3]; exact hk))), h3⟩
theorem WriterIs.below {w w' : World} {g : Nat} {R : Option Nat} {B : List Bool} (h : WriterIs w g R B) (hc : Below w.heap.size w w') : WriterIs w' g R B :=
  h.keep (S := fun _ => False) (Chg.of_below hc) (fun _ _ e => e)

theorem newWriter_zero : (Try.prog.info? 107).map (fun i => (i.zero, i.size)) = some (some (.agg #[.slice none 0 0, .int .i64 0]), 2) := by kernel_rfl
/-- a new writer -/
def RetWriter (w : World) (e : Ending) (w' : World) : Prop := e = .returned (.pointer (some ⟨w.heap.size, 0, none⟩)) ∧ WriterIs w' w.heap.size none [] ∧ Below w.heap.size w w'
set_option maxRecDepth 100000 in
theorem new_calls (w : World) : Calls Try.prog 57 #[] w (RetWriter w) := by
  have hz := (zero_of_info newWriter_zero).1
  go_enter Try.func57, Try.ntmps57
  go_wp2
  go_ret
  exact ⟨rfl, ⟨none, 0, 0, Blk.new _ _ _, Own8.nil _ _, rfl⟩, (Below.refl _ _).alloc (Nat.le_refl _) _⟩

theorem walign_nil (w : World) : Calls Try.prog 60 #[.pointer none] w fun e w' => e = .returned (.int .i64 1) ∧ w = w' := by
  go_enter Try.func60, Try.ntmps60
  go_wp2
  go_ret
  exact ⟨rfl, rfl⟩
theorem walign_calls (g : Nat) (R : Option Nat) (B : List Bool) (w : World) (h : WriterIs w g R B) (hB : B.length ≤ 1099511627776) :
    Calls Try.prog 60 #[.pointer (some ⟨g, 0, none⟩)] w fun e w' => e = .returned (.int .i64 0) ∧ WriterIs w' g R (Bit.fill B) ∧ Chg (Foot g R) w w' := by
  have hne := h.ne
  obtain ⟨A, n, c, h1, h2, h3⟩ := h
  have hn : n = (B.length + 7) / 8 := by rw [h2.1, Bit.length_pack]
  have hn' : n ≤ B.length + 7 := by omega
  have c0 : w.cell? ⟨g, 0, none⟩ = some (.slice A n c) := h1.cell 0
  have c1 : w.cell? ⟨g, 1, none⟩ = some (.int .i64 (B.length : Int)) := h1.cell 1
  have f1 := h1.frozen 1
  have HN := hide hn
  clear hn
  have HNE := hide hne
  clear hne
  go_enter Try.func60, Try.ntmps60
  go_wp2
  go_ret
  refine ⟨rfl, ⟨A, n, c, ?_, ?_, h3⟩, (Chg.refl _ _).setCell (.inl (.inl rfl)) _⟩
  · have := h1.set_ 1 (.int .i64 (8 * (n : Int)))
    rw [Bit.length_fill, ← HN.out]
    simpa using this
  · rw [Bit.pack_fill]
    exact h2.setFar (by rw [h3]; exact HNE.out) _

theorem wbytes_nil (w : World) : Calls Try.prog 61 #[.pointer none] w fun e w' => e = .returned (.slice none 0 0) ∧ w = w' := by
  go_enter Try.func61, Try.ntmps61
  go_wp2
  go_ret
  exact ⟨rfl, rfl⟩
/-- an answer that is a new slice of bytes -/
def RetBytes (w : World) (l : List UInt8) (e : Ending) (w' : World) : Prop :=
  ∃ A n c, e = .returned (.slice A n c) ∧ Own8 w' 5 A n c l ∧ (∀ g, blkOf A = some g → w.heap.size ≤ g) ∧ Below w.heap.size w w'
theorem wbytes_calls (g : Nat) (R : Option Nat) (B : List Bool) (w : World) (h : WriterIs w g R B) (hB : B.length ≤ 1099511627776) :
    Calls Try.prog 61 #[.pointer (some ⟨g, 0, none⟩)] w (RetBytes w (Bit.pack B)) := by
  have hgl := h.lt
  obtain ⟨A, n, c, h1, h2, h3⟩ := h
  have hn : n = (B.length + 7) / 8 := by rw [h2.1, Bit.length_pack]
  have hn' : n ≤ B.length + 7 := by omega
  have c0 : w.cell? ⟨g, 0, none⟩ = some (.slice A n c) := h1.cell 0
  have c0' : (w.alloc (Obj.cells (mk8 n) 5)).cell? ⟨g, 0, none⟩ = some (.slice A n c) := (h1.alloc _).cell 0
  have hmk := run_make8 (P := Try.prog) bytesT .i64 .i64 n (by omega)
  clear hn
  go_enter Try.func61, Try.ntmps61
  go_wp2_with (refine wpList_copy8 (o := ⟨some 17, _, _, _, _, _⟩) (by rfl) (.tmp 12) (.tmp 16) 31 5 (by rfl) bytesT w.heap.size n n (List.replicate n 0) (by rfl) (Own8.new w (mk8 n) 5 n _ (by simp) (toList_mk8 n) (by unfold maxLen; omega)) _ _ _ _ (Bit.pack B) (by rfl) (h2.alloc _).byt h2.1 (by rfl) ?_; intro w1 own1 grow1)
  go_ret
  exact ⟨some ⟨w.heap.size, 0, none⟩, n, n, rfl, own1, by simp [blkOf], Below.grown ((Below.refl _ _).alloc (Nat.le_refl _) _) grow1 (by simp) (by simp)⟩

/- Put -/

theorem put_nil (v n : Int) (w : World) : Calls Try.prog 58 #[.pointer none, .int .u64 v, .int .i64 n] w fun e w' => e = .returned (.int .i64 1) ∧ w = w' := by
  go_enter Try.func58, Try.ntmps58
  go_wp2
  go_ret
  exact ⟨rfl, rfl⟩
theorem put_bad (g : Nat) (v n : Int) (w : World) (h : n < 0 ∨ 64 < n) : Calls Try.prog 58 #[.pointer (some ⟨g, 0, none⟩), .int .u64 v, .int .i64 n] w fun e w' => e = .returned (.int .i64 1) ∧ w = w' := by
  by_cases h1 : n < 0
  · clear h
    go_enter Try.func58, Try.ntmps58
    go_wp2
    go_ret
    exact ⟨rfl, rfl⟩
  · have h2 : 64 < n := by omega
    clear h
    go_enter Try.func58, Try.ntmps58
    go_wp2
    go_ret
    exact ⟨rfl, rfl⟩
theorem put_wide (g : Nat) (v n : Nat) (w : World) (hn : n < 64) (h : 2 ^ n ≤ v) : Calls Try.prog 58 #[.pointer (some ⟨g, 0, none⟩), .int .u64 (v : Int), .int .i64 (n : Int)] w fun e w' => e = .returned (.int .i64 1) ∧ w = w' := by
  have h1 : ((v : Int) / 2 ^ n != 0) = true := by
    have e : (v : Int) / 2 ^ n = ((v / 2 ^ n : Nat) : Int) := by simp
    have : 0 < v / 2 ^ n := Nat.div_pos h (Nat.two_pow_pos n)
    rw [e]
    generalize v / 2 ^ n = q at *
    simp; omega
  have d1 : decide ((n : Int) < 0) = false := by simp
  have d2 : decide ((64 : Int) < (n : Int)) = false := by simp; omega
  have d3 : decide ((n : Int) < 64) = true := by simp; omega
  clear h
  go_enter Try.func58, Try.ntmps58
  go_wp2
  go_ret
  exact ⟨rfl, rfl⟩

theorem u8_orBit (x : UInt8) (v i k : Nat) (hv : v < 18446744073709551616) : ∃ y : UInt8, bits BinOp.or IntKind.u8 (x.toNat : Int) (bits BinOp.and IntKind.u64 ((v : Int) / 2 ^ i) 1 % 256 * 2 ^ (7 - k % 8) % 256) = (y.toNat : Int) ∧ Hid (y = Bit.orBit x (v.testBit i) (k % 8)) := by
  refine ⟨_, ?_, rfl⟩
  have hle : v / 2 ^ i ≤ v := Nat.div_le_self _ _
  have e := u64_and_nat (v / 2 ^ i) 1 (by omega) (by omega)
  rw [Nat.and_one_is_mod, show ((1 : Nat) : Int) = 1 from rfl, show ((v / 2 ^ i : Nat) : Int) = (v : Int) / 2 ^ i from by simp] at e
  have hb : v / 2 ^ i % 2 = (v.testBit i).toNat := by
    rw [Nat.testBit, Nat.shiftRight_eq_div_pow, Nat.one_and_eq_mod_two]
    rcases Nat.mod_two_eq_zero_or_one (v / 2 ^ i) with h | h <;> simp [h]
  rw [e, hb, Bit.orBit_toNat]
  have h1 : (v.testBit i).toNat ≤ 1 := Bool.toNat_le _
  have h2 : 2 ^ (7 - k % 8) ≤ 2 ^ 7 := Nat.pow_le_pow_right (by omega) (by omega)
  have h3 : (v.testBit i).toNat * 2 ^ (7 - k % 8) ≤ 1 * 2 ^ 7 := Nat.mul_le_mul h1 h2
  rw [← u8_or_nat x.toNat _ x.toNat_lt (by omega)]
  congr 1
  have e2 : (((v.testBit i).toNat : Nat) : Int) % 256 = (((v.testBit i).toNat : Nat) : Int) := by omega
  rw [e2]
  have e3 : (((v.testBit i).toNat * 2 ^ (7 - k % 8) : Nat) : Int) = (((v.testBit i).toNat : Nat) : Int) * 2 ^ (7 - k % 8) := by simp
  rw [← e3]
  omega
theorem take_digits (B : List Bool) (v n i j : Nat) (hn : n = i + 1 + j) : B ++ (Bit.digits v n).take (j + 1) = (B ++ (Bit.digits v n).take j) ++ [v.testBit i] := by
  subst hn
  have h : j < (Bit.digits v (i + 1 + j)).length := by rw [Bit.length_digits]; omega
  have e : (Bit.digits v (i + 1 + j))[j] = v.testBit i := by
    have := Bit.digits_at v (i + 1 + j) (i := j) (by omega)
    rw [List.getElem?_eq_getElem h] at this
    injection this with this
    rw [this, show i + 1 + j - 1 - j = i from by omega]
  rw [List.take_succ_eq_append_getElem h, e, List.append_assoc]

set_option maxRecDepth 100000 in
set_option maxHeartbeats 4000000 in
theorem put_calls (g : Nat) (R : Option Nat) (B : List Bool) (v n : Nat) (w : World) (h : WriterIs w g R B) (hB : B.length ≤ 1099511627776) (hn : n ≤ 64) (hv : v < 2 ^ n) :
    Calls Try.prog 58 #[.pointer (some ⟨g, 0, none⟩), .int .u64 (v : Int), .int .i64 (n : Int)] w
      fun e w' => e = .returned (.int .i64 0) ∧ ∃ R', WriterIs w' g R' (B ++ Bit.digits v n) ∧ Chg (Foot g R) w w' ∧ RowNew w.heap.size R R' := by
  have d1 : decide ((n : Int) < 0) = false := by simp
  have d2 : decide ((64 : Int) < (n : Int)) = false := by simp; omega
  have hv64 : v < 18446744073709551616 := Nat.lt_of_lt_of_le hv (Nat.pow_le_pow_right (n := 2) (by omega) hn)
  have hq : ((v : Int) / 2 ^ n != 0) = false := by
    have e : (v : Int) / 2 ^ n = ((v / 2 ^ n : Nat) : Int) := by simp
    rw [e, Nat.div_eq_of_lt hv]; rfl
  have HV := hide hv
  clear hv
  have hsplit : ∃ b, decide ((n : Int) < 64) = b := ⟨_, rfl⟩
  obtain ⟨bb, d3⟩ := hsplit
  cases bb
  · go_enter Try.func58, Try.ntmps58
    go_wp2
    go_loopw [7] (fun i wr => ∃ (j : Nat) (R' : Option Nat), j ≤ n ∧ i = .int .i64 ((n : Int) - 1 - (j : Int)) ∧ WriterIs wr g R' (B ++ (Bit.digits v n).take j) ∧ Chg (Foot g R) w wr ∧ RowNew w.heap.size R R') (fun i _ => (intOf i + 1).toNat)
    case atStart => exact ⟨0, R, by omega, by simp, by simpa using h, Chg.refl _ _, RowNew.refl _ _⟩
    case round =>
      obtain ⟨j, R', hj, rfl, hw, hc, hr⟩ := hrel
      by_cases hlt : j < n
      · have hlen : (B ++ (Bit.digits v n).take j).length = B.length + j := by rw [List.length_append, List.length_take, Bit.length_digits, Nat.min_eq_left hj]
        obtain ⟨i, HIJ⟩ : ∃ i, Hid (n = i + 1 + j) := ⟨n - 1 - j, by show n = _; omega⟩
        have hin : i < 64 := by have := HIJ.out; omega
        obtain ⟨A, nb, c, b1, o1, ra⟩ := hw
        rw [show ((n : Int) - 1 - (j : Int)) = (i : Int) from by have := HIJ.out; omega]
        generalize hBj : B ++ (Bit.digits v n).take j = Bj at *
        have hk : Bj.length ≤ 1099511627776 + 64 := by omega
        have HBJ := hide hBj
        have HLEN := hide hlen
        clear hBj hlen h hB
        have hnb : nb = (Bj.length + 7) / 8 := by rw [o1.1, Bit.length_pack]
        generalize hkk : Bj.length = k at *
        have HK := hide hkk
        clear hkk
        by_cases hk0 : k % 8 = 0
        · have HGR : Hid (Bit.grow Bj = Bit.pack Bj ++ [0]) := by unfold Bit.grow; rw [HK.out, if_pos hk0]; exact rfl
          have c0 : wr.cell? ⟨g, 0, none⟩ = some (.slice A nb c) := b1.cell 0
          have c1 : wr.cell? ⟨g, 1, none⟩ = some (.int .i64 (k : Int)) := b1.cell 1
          have hm : ((k : Int) % 8 == 0) = true := by simp; omega
          have hgl := b1.lt
          have hne0 : blkOf A ≠ some g := by have := own_blk_ne o1.2 b1 (by decide); rwa [ownBlock_slice] at this
          have HNE0 := hide hne0
          have hnb1 : nb ≤ k / 8 := by omega
          have hnb2 : k / 8 ≤ nb := by omega
          clear hnb hne0 hk0
          go_wp2_with (at_builtin; refine wpList_append8 (by rfl) (.tmp 44) (.tmp 45) 31 5 (by rfl) bytesT _ _ _ _ (by rfl) (o1.alloc _) _ _ _ _ [0] (by rfl) (Byt.new _ _ _ _ _ rfl) (by rfl) (by simp; omega) ?_; intro A2 c2 w2 own2 grow2 at2; have b2 := (b1.alloc _).grown grow2 (Ne.symm HNE0.out); have k0 := b2.cell 0; have k1 := b2.frozen 0)
          have hz := hc.size
          have b3 := b2.set_ 0 (.slice A2 (nb + 1) c2)
          have hne2 : blkOf A2 ≠ some g := by
            rcases at2 with e | e
            · rw [e]; exact HNE0.out
            · rw [e]; simp; omega
          have o3 := own2.setFar (p := ⟨g, 0, none⟩) hne2 (.slice A2 (nb + 1) c2)
          have hrA : RowNew w.heap.size R (blkOf A) := by rw [ra]; exact hr
          have hr3 : RowNew w.heap.size R (blkOf A2) := by
            rcases at2 with e | e
            · rw [e]; exact hrA
            · exact .inr ⟨_, e, by simp; omega⟩
          have hc3 : Chg (Foot g R) w (w2.setCell ⟨g, 0, none⟩ (.slice A2 (nb + 1) c2)) := by
            refine Chg.setCell ?_ (.inl (.inl rfl)) _
            refine Chg.grown (hc.alloc _) grow2 (fun r e => ?_)
            rcases hrA with e' | ⟨r', e', hge⟩
            · exact .inl (.inr (by rw [← e']; exact e))
            · rw [e] at e'; injection e' with e'; exact .inr (by omega)
          rw [← HGR.out] at o3
          have b3 : Blk (w2.setCell ⟨g, 0, none⟩ (.slice A2 (nb + 1) c2)) g 107 #[.slice A2 (nb + 1) c2, .int .i64 (k : Int)] := by simpa using b3
          clear b1 b2 o1 own2 grow2 at2 hc hr ra hrA c0 c1 k0 k1 hne2
          generalize w2.setCell ⟨g, 0, none⟩ (.slice A2 (nb + 1) c2) = W0 at *
          generalize hnb3 : nb + 1 = nb3 at *
          have hnb4 : k / 8 < nb3 := by omega
          clear hnb3 hnb1 hnb2
          obtain ⟨c3, rfl⟩ : ∃ c3, c3 = c2 := ⟨_, rfl⟩
          obtain ⟨gr, x, rfl, hx, cx, fx⟩ := o3.at_ (k := k / 8) (by omega)
          have hne : gr ≠ g := by have := own_blk_ne o3.2 b3 (by decide); intro e; subst e; exact this (by rw [ownBlock_slice]; rfl)
          have HX : Hid (Bit.byteAt Bj (k / 8) = x) := by
            have := Bit.grow_at Bj
            rw [HK.out, hx] at this
            injection this with this
            exact this.symm
          clear hx
          obtain ⟨y, hy, HY⟩ := u8_orBit x v i k hv64
          have c0 : W0.cell? ⟨g, 0, none⟩ = some (.slice (some ⟨gr, 0, none⟩) nb3 c3) := b3.cell 0
          have c1 : W0.cell? ⟨g, 1, none⟩ = some (.int .i64 (k : Int)) := b3.cell 1
          have e3 : (0 : Int) ≤ (k : Int) / 8 := by omega
          have e4 : (k : Int) / 8 < (nb3 : Int) := by omega
          go_region
          have HPS : Hid ((Bit.grow Bj).set (k / 8) y = Bit.pack (Bj ++ [v.testBit i])) := by
            rw [Bit.pack_snoc, HK.out, HX.out, HY.out]; exact rfl
          have o4 := o3.set (k := k / 8) rfl y
          rw [HPS.out] at o4
          have o4 := o4.drew
          have b4 := (b3.far (p := ⟨gr, k / 8, none⟩) (Ne.symm hne) (.int .u8 (y.toNat : Int))).drew
          have hc4 := (hc3.setCell (p := ⟨gr, k / 8, none⟩) (by
            rcases hr3 with e | ⟨r, e, hge⟩
            · exact .inl (.inr (by rw [← e]; rfl))
            · simp [blkOf] at e; exact .inr (by simp; omega)) (.int .u8 (y.toNat : Int))).drew
          clear o3 b3 hc3 cx fx c0 c1 hy
          generalize (W0.setCell ⟨gr, k / 8, none⟩ (.int .u8 (y.toNat : Int))).drew = W1 at *
          have c1 : W1.cell? ⟨g, 1, none⟩ = some (.int .i64 (k : Int)) := b4.cell 1
          have f1 := b4.frozen 1
          go_wp2
          have b5 := b4.set_ 1 (.int .i64 ((k : Int) + 1))
          have o5 := o4.setFar (p := ⟨g, 1, none⟩) (by simp [blkOf]; exact hne) (.int .i64 ((k : Int) + 1))
          have hc5 := hc4.setCell (p := ⟨g, 1, none⟩) (.inl (.inl rfl)) (.int .i64 ((k : Int) + 1))
          go_roundw
          case rel =>
            refine ⟨j + 1, some gr, by omega, ?_, ?_, hc5, hr3⟩
            · rw [show ((n : Int) - 1 - ((j + 1 : Nat) : Int)) = (i : Int) - 1 from by have := HIJ.out; omega]
            rw [take_digits B v n i j HIJ.out, HBJ.out]
            refine ⟨some ⟨gr, 0, none⟩, nb3, c3, ?_, o5, rfl⟩
            rw [List.length_append, HK.out, List.length_singleton, Int.natCast_add]
            simpa using b5
          case measure => simp [intOf]
        · have HGR : Hid (Bit.grow Bj = Bit.pack Bj) := by unfold Bit.grow; rw [HK.out, if_neg hk0]; exact rfl
          have c1' : wr.cell? ⟨g, 1, none⟩ = some (.int .i64 (k : Int)) := b1.cell 1
          have hm : ((k : Int) % 8 == 0) = false := by simp; omega
          have hnb4 : k / 8 < nb := by omega
          clear hnb
          go_wp2
          obtain ⟨W0, rfl⟩ : ∃ W0, W0 = wr := ⟨_, rfl⟩
          have o3 := o1
          rw [← HGR.out] at o3
          have b3 := b1
          have hc3 := hc
          have hr3 : RowNew w.heap.size R (blkOf A) := by rw [ra]; exact hr
          clear b1 o1 hc hr ra c1'
          obtain ⟨nb3, rfl⟩ : ∃ nb3, nb3 = nb := ⟨_, rfl⟩
          obtain ⟨c3, rfl⟩ : ∃ c3, c3 = c := ⟨_, rfl⟩
          obtain ⟨gr, x, rfl, hx, cx, fx⟩ := o3.at_ (k := k / 8) (by omega)
          have hne : gr ≠ g := by have := own_blk_ne o3.2 b3 (by decide); intro e; subst e; exact this (by rw [ownBlock_slice]; rfl)
          have HX : Hid (Bit.byteAt Bj (k / 8) = x) := by
            have := Bit.grow_at Bj
            rw [HK.out, hx] at this
            injection this with this
            exact this.symm
          clear hx
          obtain ⟨y, hy, HY⟩ := u8_orBit x v i k hv64
          have c0 : W0.cell? ⟨g, 0, none⟩ = some (.slice (some ⟨gr, 0, none⟩) nb3 c3) := b3.cell 0
          have c1 : W0.cell? ⟨g, 1, none⟩ = some (.int .i64 (k : Int)) := b3.cell 1
          have e3 : (0 : Int) ≤ (k : Int) / 8 := by omega
          have e4 : (k : Int) / 8 < (nb3 : Int) := by omega
          go_region
          have HPS : Hid ((Bit.grow Bj).set (k / 8) y = Bit.pack (Bj ++ [v.testBit i])) := by
            rw [Bit.pack_snoc, HK.out, HX.out, HY.out]; exact rfl
          have o4 := o3.set (k := k / 8) rfl y
          rw [HPS.out] at o4
          have o4 := o4.drew
          have b4 := (b3.far (p := ⟨gr, k / 8, none⟩) (Ne.symm hne) (.int .u8 (y.toNat : Int))).drew
          have hc4 := (hc3.setCell (p := ⟨gr, k / 8, none⟩) (by
            rcases hr3 with e | ⟨r, e, hge⟩
            · exact .inl (.inr (by rw [← e]; rfl))
            · simp [blkOf] at e; exact .inr (by simp; omega)) (.int .u8 (y.toNat : Int))).drew
          clear o3 b3 hc3 cx fx c0 c1 hy
          generalize (W0.setCell ⟨gr, k / 8, none⟩ (.int .u8 (y.toNat : Int))).drew = W1 at *
          have c1 : W1.cell? ⟨g, 1, none⟩ = some (.int .i64 (k : Int)) := b4.cell 1
          have f1 := b4.frozen 1
          go_wp2
          have b5 := b4.set_ 1 (.int .i64 ((k : Int) + 1))
          have o5 := o4.setFar (p := ⟨g, 1, none⟩) (by simp [blkOf]; exact hne) (.int .i64 ((k : Int) + 1))
          have hc5 := hc4.setCell (p := ⟨g, 1, none⟩) (.inl (.inl rfl)) (.int .i64 ((k : Int) + 1))
          go_roundw
          case rel =>
            refine ⟨j + 1, some gr, by omega, ?_, ?_, hc5, hr3⟩
            · rw [show ((n : Int) - 1 - ((j + 1 : Nat) : Int)) = (i : Int) - 1 from by have := HIJ.out; omega]
            rw [take_digits B v n i j HIJ.out, HBJ.out]
            refine ⟨some ⟨gr, 0, none⟩, nb3, c3, ?_, o5, rfl⟩
            rw [List.length_append, HK.out, List.length_singleton, Int.natCast_add]
            simpa using b5
          case measure => simp [intOf]
      · obtain rfl : j = n := by omega
        have e : (Bit.digits v j).take j = Bit.digits v j := List.take_of_length_le (by rw [Bit.length_digits]; omega)
        rw [e] at hw
        rw [show ((j : Int) - 1 - (j : Int)) = -1 from by omega]
        clear e
        go_wp2
        go_ret
        exact ⟨rfl, R', hw, hc, hr⟩
  · go_enter Try.func58, Try.ntmps58
    go_wp2
    go_loopw [7] (fun i wr => ∃ (j : Nat) (R' : Option Nat), j ≤ n ∧ i = .int .i64 ((n : Int) - 1 - (j : Int)) ∧ WriterIs wr g R' (B ++ (Bit.digits v n).take j) ∧ Chg (Foot g R) w wr ∧ RowNew w.heap.size R R') (fun i _ => (intOf i + 1).toNat)
    case atStart => exact ⟨0, R, by omega, by simp, by simpa using h, Chg.refl _ _, RowNew.refl _ _⟩
    case round =>
      obtain ⟨j, R', hj, rfl, hw, hc, hr⟩ := hrel
      by_cases hlt : j < n
      · have hlen : (B ++ (Bit.digits v n).take j).length = B.length + j := by rw [List.length_append, List.length_take, Bit.length_digits, Nat.min_eq_left hj]
        obtain ⟨i, HIJ⟩ : ∃ i, Hid (n = i + 1 + j) := ⟨n - 1 - j, by show n = _; omega⟩
        have hin : i < 64 := by have := HIJ.out; omega
        obtain ⟨A, nb, c, b1, o1, ra⟩ := hw
        rw [show ((n : Int) - 1 - (j : Int)) = (i : Int) from by have := HIJ.out; omega]
        generalize hBj : B ++ (Bit.digits v n).take j = Bj at *
        have hk : Bj.length ≤ 1099511627776 + 64 := by omega
        have HBJ := hide hBj
        have HLEN := hide hlen
        clear hBj hlen h hB
        have hnb : nb = (Bj.length + 7) / 8 := by rw [o1.1, Bit.length_pack]
        generalize hkk : Bj.length = k at *
        have HK := hide hkk
        clear hkk
        by_cases hk0 : k % 8 = 0
        · have HGR : Hid (Bit.grow Bj = Bit.pack Bj ++ [0]) := by unfold Bit.grow; rw [HK.out, if_pos hk0]; exact rfl
          have c0 : wr.cell? ⟨g, 0, none⟩ = some (.slice A nb c) := b1.cell 0
          have c1 : wr.cell? ⟨g, 1, none⟩ = some (.int .i64 (k : Int)) := b1.cell 1
          have hm : ((k : Int) % 8 == 0) = true := by simp; omega
          have hgl := b1.lt
          have hne0 : blkOf A ≠ some g := by have := own_blk_ne o1.2 b1 (by decide); rwa [ownBlock_slice] at this
          have HNE0 := hide hne0
          have hnb1 : nb ≤ k / 8 := by omega
          have hnb2 : k / 8 ≤ nb := by omega
          clear hnb hne0 hk0
          go_wp2_with (at_builtin; refine wpList_append8 (by rfl) (.tmp 44) (.tmp 45) 31 5 (by rfl) bytesT _ _ _ _ (by rfl) (o1.alloc _) _ _ _ _ [0] (by rfl) (Byt.new _ _ _ _ _ rfl) (by rfl) (by simp; omega) ?_; intro A2 c2 w2 own2 grow2 at2; have b2 := (b1.alloc _).grown grow2 (Ne.symm HNE0.out); have k0 := b2.cell 0; have k1 := b2.frozen 0)
          have hz := hc.size
          have b3 := b2.set_ 0 (.slice A2 (nb + 1) c2)
          have hne2 : blkOf A2 ≠ some g := by
            rcases at2 with e | e
            · rw [e]; exact HNE0.out
            · rw [e]; simp; omega
          have o3 := own2.setFar (p := ⟨g, 0, none⟩) hne2 (.slice A2 (nb + 1) c2)
          have hrA : RowNew w.heap.size R (blkOf A) := by rw [ra]; exact hr
          have hr3 : RowNew w.heap.size R (blkOf A2) := by
            rcases at2 with e | e
            · rw [e]; exact hrA
            · exact .inr ⟨_, e, by simp; omega⟩
          have hc3 : Chg (Foot g R) w (w2.setCell ⟨g, 0, none⟩ (.slice A2 (nb + 1) c2)) := by
            refine Chg.setCell ?_ (.inl (.inl rfl)) _
            refine Chg.grown (hc.alloc _) grow2 (fun r e => ?_)
            rcases hrA with e' | ⟨r', e', hge⟩
            · exact .inl (.inr (by rw [← e']; exact e))
            · rw [e] at e'; injection e' with e'; exact .inr (by omega)
          rw [← HGR.out] at o3
          have b3 : Blk (w2.setCell ⟨g, 0, none⟩ (.slice A2 (nb + 1) c2)) g 107 #[.slice A2 (nb + 1) c2, .int .i64 (k : Int)] := by simpa using b3
          clear b1 b2 o1 own2 grow2 at2 hc hr ra hrA c0 c1 k0 k1 hne2
          generalize w2.setCell ⟨g, 0, none⟩ (.slice A2 (nb + 1) c2) = W0 at *
          generalize hnb3 : nb + 1 = nb3 at *
          have hnb4 : k / 8 < nb3 := by omega
          clear hnb3 hnb1 hnb2
          obtain ⟨c3, rfl⟩ : ∃ c3, c3 = c2 := ⟨_, rfl⟩
          obtain ⟨gr, x, rfl, hx, cx, fx⟩ := o3.at_ (k := k / 8) (by omega)
          have hne : gr ≠ g := by have := own_blk_ne o3.2 b3 (by decide); intro e; subst e; exact this (by rw [ownBlock_slice]; rfl)
          have HX : Hid (Bit.byteAt Bj (k / 8) = x) := by
            have := Bit.grow_at Bj
            rw [HK.out, hx] at this
            injection this with this
            exact this.symm
          clear hx
          obtain ⟨y, hy, HY⟩ := u8_orBit x v i k hv64
          have c0 : W0.cell? ⟨g, 0, none⟩ = some (.slice (some ⟨gr, 0, none⟩) nb3 c3) := b3.cell 0
          have c1 : W0.cell? ⟨g, 1, none⟩ = some (.int .i64 (k : Int)) := b3.cell 1
          have e3 : (0 : Int) ≤ (k : Int) / 8 := by omega
          have e4 : (k : Int) / 8 < (nb3 : Int) := by omega
          go_region
          have HPS : Hid ((Bit.grow Bj).set (k / 8) y = Bit.pack (Bj ++ [v.testBit i])) := by
            rw [Bit.pack_snoc, HK.out, HX.out, HY.out]; exact rfl
          have o4 := o3.set (k := k / 8) rfl y
          rw [HPS.out] at o4
          have o4 := o4.drew
          have b4 := (b3.far (p := ⟨gr, k / 8, none⟩) (Ne.symm hne) (.int .u8 (y.toNat : Int))).drew
          have hc4 := (hc3.setCell (p := ⟨gr, k / 8, none⟩) (by
            rcases hr3 with e | ⟨r, e, hge⟩
            · exact .inl (.inr (by rw [← e]; rfl))
            · simp [blkOf] at e; exact .inr (by simp; omega)) (.int .u8 (y.toNat : Int))).drew
          clear o3 b3 hc3 cx fx c0 c1 hy
          generalize (W0.setCell ⟨gr, k / 8, none⟩ (.int .u8 (y.toNat : Int))).drew = W1 at *
          have c1 : W1.cell? ⟨g, 1, none⟩ = some (.int .i64 (k : Int)) := b4.cell 1
          have f1 := b4.frozen 1
          go_wp2
          have b5 := b4.set_ 1 (.int .i64 ((k : Int) + 1))
          have o5 := o4.setFar (p := ⟨g, 1, none⟩) (by simp [blkOf]; exact hne) (.int .i64 ((k : Int) + 1))
          have hc5 := hc4.setCell (p := ⟨g, 1, none⟩) (.inl (.inl rfl)) (.int .i64 ((k : Int) + 1))
          go_roundw
          case rel =>
            refine ⟨j + 1, some gr, by omega, ?_, ?_, hc5, hr3⟩
            · rw [show ((n : Int) - 1 - ((j + 1 : Nat) : Int)) = (i : Int) - 1 from by have := HIJ.out; omega]
            rw [take_digits B v n i j HIJ.out, HBJ.out]
            refine ⟨some ⟨gr, 0, none⟩, nb3, c3, ?_, o5, rfl⟩
            rw [List.length_append, HK.out, List.length_singleton, Int.natCast_add]
            simpa using b5
          case measure => simp [intOf]
        · have HGR : Hid (Bit.grow Bj = Bit.pack Bj) := by unfold Bit.grow; rw [HK.out, if_neg hk0]; exact rfl
          have c1' : wr.cell? ⟨g, 1, none⟩ = some (.int .i64 (k : Int)) := b1.cell 1
          have hm : ((k : Int) % 8 == 0) = false := by simp; omega
          have hnb4 : k / 8 < nb := by omega
          clear hnb
          go_wp2
          obtain ⟨W0, rfl⟩ : ∃ W0, W0 = wr := ⟨_, rfl⟩
          have o3 := o1
          rw [← HGR.out] at o3
          have b3 := b1
          have hc3 := hc
          have hr3 : RowNew w.heap.size R (blkOf A) := by rw [ra]; exact hr
          clear b1 o1 hc hr ra c1'
          obtain ⟨nb3, rfl⟩ : ∃ nb3, nb3 = nb := ⟨_, rfl⟩
          obtain ⟨c3, rfl⟩ : ∃ c3, c3 = c := ⟨_, rfl⟩
          obtain ⟨gr, x, rfl, hx, cx, fx⟩ := o3.at_ (k := k / 8) (by omega)
          have hne : gr ≠ g := by have := own_blk_ne o3.2 b3 (by decide); intro e; subst e; exact this (by rw [ownBlock_slice]; rfl)
          have HX : Hid (Bit.byteAt Bj (k / 8) = x) := by
            have := Bit.grow_at Bj
            rw [HK.out, hx] at this
            injection this with this
            exact this.symm
          clear hx
          obtain ⟨y, hy, HY⟩ := u8_orBit x v i k hv64
          have c0 : W0.cell? ⟨g, 0, none⟩ = some (.slice (some ⟨gr, 0, none⟩) nb3 c3) := b3.cell 0
          have c1 : W0.cell? ⟨g, 1, none⟩ = some (.int .i64 (k : Int)) := b3.cell 1
          have e3 : (0 : Int) ≤ (k : Int) / 8 := by omega
          have e4 : (k : Int) / 8 < (nb3 : Int) := by omega
          go_region
          have HPS : Hid ((Bit.grow Bj).set (k / 8) y = Bit.pack (Bj ++ [v.testBit i])) := by
            rw [Bit.pack_snoc, HK.out, HX.out, HY.out]; exact rfl
          have o4 := o3.set (k := k / 8) rfl y
          rw [HPS.out] at o4
          have o4 := o4.drew
          have b4 := (b3.far (p := ⟨gr, k / 8, none⟩) (Ne.symm hne) (.int .u8 (y.toNat : Int))).drew
          have hc4 := (hc3.setCell (p := ⟨gr, k / 8, none⟩) (by
            rcases hr3 with e | ⟨r, e, hge⟩
            · exact .inl (.inr (by rw [← e]; rfl))
            · simp [blkOf] at e; exact .inr (by simp; omega)) (.int .u8 (y.toNat : Int))).drew
          clear o3 b3 hc3 cx fx c0 c1 hy
          generalize (W0.setCell ⟨gr, k / 8, none⟩ (.int .u8 (y.toNat : Int))).drew = W1 at *
          have c1 : W1.cell? ⟨g, 1, none⟩ = some (.int .i64 (k : Int)) := b4.cell 1
          have f1 := b4.frozen 1
          go_wp2
          have b5 := b4.set_ 1 (.int .i64 ((k : Int) + 1))
          have o5 := o4.setFar (p := ⟨g, 1, none⟩) (by simp [blkOf]; exact hne) (.int .i64 ((k : Int) + 1))
          have hc5 := hc4.setCell (p := ⟨g, 1, none⟩) (.inl (.inl rfl)) (.int .i64 ((k : Int) + 1))
          go_roundw
          case rel =>
            refine ⟨j + 1, some gr, by omega, ?_, ?_, hc5, hr3⟩
            · rw [show ((n : Int) - 1 - ((j + 1 : Nat) : Int)) = (i : Int) - 1 from by have := HIJ.out; omega]
            rw [take_digits B v n i j HIJ.out, HBJ.out]
            refine ⟨some ⟨gr, 0, none⟩, nb3, c3, ?_, o5, rfl⟩
            rw [List.length_append, HK.out, List.length_singleton, Int.natCast_add]
            simpa using b5
          case measure => simp [intOf]
      · obtain rfl : j = n := by omega
        have e : (Bit.digits v j).take j = Bit.digits v j := List.take_of_length_le (by rw [Bit.length_digits]; omega)
        rw [e] at hw
        rw [show ((j : Int) - 1 - (j : Int)) = -1 from by omega]
        clear e
        go_wp2
        go_ret
        exact ⟨rfl, R', hw, hc, hr⟩
end Go.Proofs.Ytakglalebjkpeaa
namespace Go.Proofs.Ytakglalebjkpeaa
open Go.RowKit Kin

/-- at block g lies a reader of the bytes l (in block r), at a bit -/
def ReaderIs (w : World) (g r : Nat) (l : List UInt8) (k : Nat) : Prop :=
  Blk w g 110 #[.slice (some ⟨r, 0, none⟩) l.length l.length, .int .i64 (k : Int)] ∧ Own8 w 5 (some ⟨r, 0, none⟩) l.length l.length l ∧ k ≤ 8 * l.length ∧ l.length ≤ 1099511627776
theorem ReaderIs.lt {w : World} {g r : Nat} {l : List UInt8} {k : Nat} (h : ReaderIs w g r l k) : g < w.heap.size := h.1.lt
theorem ReaderIs.rlt {w : World} {g r : Nat} {l : List UInt8} {k : Nat} (h : ReaderIs w g r l k) : r < w.heap.size := h.2.1.lt r rfl
theorem ReaderIs.ne {w : World} {g r : Nat} {l : List UInt8} {k : Nat} (h : ReaderIs w g r l k) : r ≠ g := by
  have := own_blk_ne h.2.1.2 h.1 (by decide)
  intro e
  subst e
  exact this (by rw [ownBlock_slice]; rfl)
theorem ReaderIs.keep {S : Nat → Prop} {w w' : World} {g r : Nat} {l : List UInt8} {k : Nat} (h : ReaderIs w g r l k) (hc : Chg S w w') (h1 : ¬ S g) (h2 : ¬ S r) : ReaderIs w' g r l k :=
  ⟨hc.blk h.1 h1, hc.own h.2.1 (fun i hi => by injection hi with hi; subst hi; exact h2), h.2.2⟩
theorem ReaderIs.below {w w' : World} {g r : Nat} {l : List UInt8} {k : Nat} (h : ReaderIs w g r l k) (hc : Below w.heap.size w w') : ReaderIs w' g r l k :=
  h.keep (S := fun _ => False) (Chg.of_below hc) (fun e => e) (fun e => e)
/-- only the reader's own block has changed -/
def One (g k : Nat) : Prop := k = g

theorem newReader_zero : (Try.prog.info? 110).map (fun i => (i.zero, i.size)) = some (some (.agg #[.slice none 0 0, .int .i64 0]), 2) := by kernel_rfl
/-- a new reader -/
def RetReader (w : World) (l : List UInt8) (e : Ending) (w' : World) : Prop := e = .returned (.pointer (some ⟨w.heap.size + 1, 0, none⟩)) ∧ ReaderIs w' (w.heap.size + 1) w.heap.size l 0 ∧ Below w.heap.size w w'
set_option maxRecDepth 100000 in
theorem open_calls (A : Option Addr) (n c : Nat) (l : List UInt8) (w : World) (hn : n = l.length) (hm : n ≤ 1099511627776) {B : Nat} (hA0 : Byt w B A l) :
    Calls Try.prog 62 #[.slice A n c] w (RetReader w l) := by
  have hA := hA0.here
  clear hA0
  have hz := (zero_of_info newReader_zero).1
  have HN := hide hn
  have hmk := run_make8 (P := Try.prog) bytesT .i64 .i64 n (by omega)
  clear hn
  have hA2 : Byt ((w.alloc (Obj.cells (mk8 n) 5)).alloc (Obj.cells #[.slice (some ⟨w.heap.size, 0, none⟩) n n, .int .i64 0] 110)) w.heap.size A l := hA.below (((Below.refl _ _).alloc (Nat.le_refl _) _).alloc (by simp) _)
  have o2 := (Own8.new w (mk8 n) 5 n _ (by simp) (toList_mk8 n) (by unfold maxLen; omega)).alloc (Obj.cells #[.slice (some ⟨w.heap.size, 0, none⟩) n n, .int .i64 0] 110)
  go_enter Try.func62, Try.ntmps62
  go_wp2_with (refine wpList_copy8 (o := ⟨some 14, _, _, _, _, _⟩) (by rfl) (.tmp 12) (.tmp 13) 31 5 (by rfl) bytesT w.heap.size n n _ (by rfl) o2 _ _ _ _ l (by rfl) hA2 HN.out (by rfl) ?_; intro w1 own1 grow1)
  go_ret
  refine ⟨rfl, ⟨?_, ?_, Nat.zero_le _, by rw [← HN.out]; exact hm⟩, Below.grown (((Below.refl _ _).alloc (Nat.le_refl _) _).alloc (by simp) _) grow1 (by simp; omega) (by simp)⟩
  · rw [← HN.out]
    have := Blk.new (w.alloc (Obj.cells (mk8 n) 5)) 110 #[.slice (some ⟨w.heap.size, 0, none⟩) n n, .int .i64 0]
    rw [World.size_alloc] at this
    exact this.grown grow1 (by simp)
  · rw [← HN.out]; exact own1

theorem left_nil (w : World) : Calls Try.prog 67 #[.pointer none] w fun e w' => e = .returned (.int .i64 0) ∧ w = w' := by
  go_enter Try.func67, Try.ntmps67
  go_wp2
  go_ret
  exact ⟨rfl, rfl⟩
theorem left_calls (g r : Nat) (l : List UInt8) (k : Nat) (w : World) (h : ReaderIs w g r l k) :
    Calls Try.prog 67 #[.pointer (some ⟨g, 0, none⟩)] w fun e w' => e = .returned (.int .i64 (8 * (l.length : Int) - (k : Int))) ∧ w.drew = w' := by
  have c0 : w.cell? ⟨g, 0, none⟩ = some (.slice (some ⟨r, 0, none⟩) l.length l.length) := h.1.cell 0
  have c1 : w.cell? ⟨g, 1, none⟩ = some (.int .i64 (k : Int)) := h.1.cell 1
  have hk := h.2.2.1
  have hl := h.2.2.2
  have e1 : IntKind.i64.wrap (8 * (l.length : Int)) = 8 * (l.length : Int) := by rw [IntKind.wrap_i64]; omega
  have e2 : IntKind.i64.wrap (8 * (l.length : Int) - (k : Int)) = 8 * (l.length : Int) - (k : Int) := by rw [IntKind.wrap_i64]; omega
  clear h
  go_enter Try.func67, Try.ntmps67
  go_wp2
  go_region
  go_wp2
  go_ret
  exact ⟨rfl, rfl⟩

/- Get -/

theorem get_nil (n : Int) (w : World) : Calls Try.prog 63 #[.pointer none, .int .i64 n] w fun e w' => e = .returned (.tuple #[.int .u64 0, .int .i64 1]) ∧ w = w' := by
  go_enter Try.func63, Try.ntmps63
  go_wp2
  go_ret2
  exact ⟨rfl, rfl⟩
theorem get_bad (g : Nat) (n : Int) (w : World) (h : n < 0 ∨ 64 < n) : Calls Try.prog 63 #[.pointer (some ⟨g, 0, none⟩), .int .i64 n] w fun e w' => e = .returned (.tuple #[.int .u64 0, .int .i64 1]) ∧ w = w' := by
  by_cases h1 : n < 0
  · clear h
    go_enter Try.func63, Try.ntmps63
    go_wp2
    go_ret2
    exact ⟨rfl, rfl⟩
  · have h2 : 64 < n := by omega
    clear h
    go_enter Try.func63, Try.ntmps63
    go_wp2
    go_ret2
    exact ⟨rfl, rfl⟩
theorem get_short (g r : Nat) (l : List UInt8) (k n : Nat) (w : World) (h : ReaderIs w g r l k) (hn : n ≤ 64) (hs : 8 * l.length < k + n) :
    Calls Try.prog 63 #[.pointer (some ⟨g, 0, none⟩), .int .i64 (n : Int)] w fun e w' => e = .returned (.tuple #[.int .u64 0, .int .i64 11]) ∧ Below w.heap.size w w' := by
  have hk := h.2.2.1
  have hl := h.2.2.2
  go_enter Try.func63, Try.ntmps63
  go_wp2_with (go_at_call 67; refine (left_calls g r l k _ h).mono ?_; rintro e w1 ⟨rfl, rfl⟩)
  go_ret2
  exact ⟨rfl, (Below.refl _ _).drew⟩

theorem u64_getBit (v : Nat) (x : UInt8) (q : Nat) (hv : v < 9223372036854775808) : ∃ y : Nat, bits BinOp.or IntKind.u64 ((v : Int) * 2) (IntKind.u64.wrap (bits BinOp.and IntKind.u8 ((x.toNat : Int) / 2 ^ q) 1)) = (y : Int) ∧ Hid (y = 2 * v + (x.toNat.testBit q).toNat) := by
  refine ⟨_, ?_, rfl⟩
  have hle : x.toNat / 2 ^ q ≤ x.toNat := Nat.div_le_self _ _
  have hx := x.toNat_lt
  have e := u8_and_nat (x.toNat / 2 ^ q) 1 (by omega) (by omega)
  rw [Nat.and_one_is_mod, show ((1 : Nat) : Int) = 1 from rfl, show ((x.toNat / 2 ^ q : Nat) : Int) = (x.toNat : Int) / 2 ^ q from by simp] at e
  have hb : x.toNat / 2 ^ q % 2 = (x.toNat.testBit q).toNat := by
    rw [Nat.testBit, Nat.shiftRight_eq_div_pow, Nat.one_and_eq_mod_two]
    rcases Nat.mod_two_eq_zero_or_one (x.toNat / 2 ^ q) with h | h <;> simp [h]
  rw [e, hb]
  have h1 : (x.toNat.testBit q).toNat ≤ 1 := Bool.toNat_le _
  generalize (x.toNat.testBit q).toNat = b at *
  have ew : IntKind.u64.wrap (b : Int) = (b : Int) := by rw [IntKind.wrap_u64]; omega
  rw [ew]
  have e2 := u64_or_nat (2 * v) b (by omega) (by omega)
  rw [show ((2 * v : Nat) : Int) = (v : Int) * 2 from by omega] at e2
  rw [e2]
  congr 1
  have h3 := Nat.two_pow_add_eq_or_of_lt (i := 1) (b := b) (by omega) v
  rw [show (2 : Nat) ^ 1 = 2 from rfl] at h3
  exact h3.symm

set_option maxRecDepth 100000 in
set_option maxHeartbeats 1000000 in
theorem get_calls (g r : Nat) (l : List UInt8) (k n : Nat) (w : World) (h : ReaderIs w g r l k) (hn : n ≤ 64) (hs : k + n ≤ 8 * l.length) :
    Calls Try.prog 63 #[.pointer (some ⟨g, 0, none⟩), .int .i64 (n : Int)] w fun e w' => e = .returned (.tuple #[.int .u64 (Bit.get l k n : Int), .int .i64 0]) ∧ ReaderIs w' g r l (k + n) ∧ Chg (One g) w w' := by
  have hl := h.2.2.2
  have d1 : decide ((n : Int) < 0) = false := by simp
  have d2 : decide ((64 : Int) < (n : Int)) = false := by simp; omega
  have d3 : decide (8 * (l.length : Int) - (k : Int) < (n : Int)) = false := by simp; omega
  go_enter Try.func63, Try.ntmps63
  go_wp2_with (go_at_call 67; refine (left_calls g r l k _ h).mono ?_; rintro e w1 ⟨rfl, rfl⟩)
  go_loopw [6, 22] (fun v i wr => ∃ j : Nat, j ≤ n ∧ i = .int .i64 j ∧ v = .int .u64 (Bit.get l k j : Int) ∧ ReaderIs wr g r l (k + j) ∧ Chg (One g) w wr) (fun _ i _ => n - (intOf i).toNat)
  case atStart => exact ⟨0, by omega, rfl, by rw [Bit.get_zero]; rfl, h.below (Below.refl _ _).drew, (Chg.refl _ _).drew⟩
  case round =>
    obtain ⟨j, hj, rfl, rfl, hr, hc⟩ := hrel
    clear h
    by_cases hlt : j < n
    · obtain ⟨m, hm⟩ : ∃ m, m = k + j := ⟨_, rfl⟩
      have hm8 : m < 8 * l.length := by omega
      rw [← hm] at hr
      have HM := hide hm
      clear hm
      have c0 : wr.cell? ⟨g, 0, none⟩ = some (.slice (some ⟨r, 0, none⟩) l.length l.length) := hr.1.cell 0
      have c1 : wr.cell? ⟨g, 1, none⟩ = some (.int .i64 (m : Int)) := hr.1.cell 1
      obtain ⟨r', x, hrr, hx, cx, fx⟩ := hr.2.1.at_ (k := m / 8) (by omega)
      injection hrr with hrr
      injection hrr with hrr
      subst hrr
      have HX : Hid (Bit.rbit l m = x.toNat.testBit (7 - m % 8)) := by
        unfold Bit.rbit
        rw [List.getD, hx]; exact rfl
      clear hx
      have hgl := Bit.get_lt l k j
      have hp : 2 ^ j ≤ 2 ^ 63 := Nat.pow_le_pow_right (by omega) (by omega)
      have HG := hide (Bit.get_succ l k j)
      generalize Bit.get l k j = v at *
      have hv : v < 9223372036854775808 := by omega
      have e3 : (0 : Int) ≤ (m : Int) / 8 := by omega
      have e4 : (m : Int) / 8 < (l.length : Int) := by omega
      clear hgl hp
      obtain ⟨y, hy, HY⟩ := u64_getBit v x (7 - m % 8) hv
      go_wp2
      go_region
      have hr1 := hr.below (Below.refl _ _).drew
      have hc1 := hc.drew
      clear hr hc c0 c1 cx fx hy
      generalize wr.drew = W1 at *
      have c1 : W1.cell? ⟨g, 1, none⟩ = some (.int .i64 (m : Int)) := hr1.1.cell 1
      have f1 := hr1.1.frozen 1
      go_wp2
      have hb2 := hr1.1.set_ 1 (.int .i64 ((m : Int) + 1))
      have ho2 := hr1.2.1.setFar (p := ⟨g, 1, none⟩) (by have := hr1.ne; simp [blkOf]; exact this) (.int .i64 ((m : Int) + 1))
      have hc2 := hc1.setCell (p := ⟨g, 1, none⟩) (.inl rfl) (.int .i64 ((m : Int) + 1))
      go_roundw
      case rel =>
        refine ⟨j + 1, by omega, by go_num, by rw [HG.out, ← HM.out, HX.out, HY.out], ⟨?_, ho2, by have := HM.out; omega, hl⟩, hc2⟩
        rw [show (((k + (j + 1) : Nat)) : Int) = (m : Int) + 1 from by have := HM.out; omega]
        simpa using hb2
      case measure => simp [intOf]; omega
    · obtain rfl : j = n := by omega
      go_wp2
      go_ret2
      exact ⟨rfl, hr, hc⟩

/- Align -/

theorem ralign_nil (w : World) : Calls Try.prog 66 #[.pointer none] w fun e w' => e = .returned (.int .i64 1) ∧ w = w' := by
  go_enter Try.func66, Try.ntmps66
  go_wp2
  go_ret
  exact ⟨rfl, rfl⟩
theorem ralign_whole (g r : Nat) (l : List UInt8) (k : Nat) (w : World) (h : ReaderIs w g r l k) (hk : k % 8 = 0) :
    Calls Try.prog 66 #[.pointer (some ⟨g, 0, none⟩)] w fun e w' => e = .returned (.int .i64 0) ∧ w = w' := by
  have c1 : w.cell? ⟨g, 1, none⟩ = some (.int .i64 (k : Int)) := h.1.cell 1
  have hm : ((k : Int) % 8 == 0) = true := by simp; omega
  clear hk
  go_enter Try.func66, Try.ntmps66
  go_wp2
  go_ret
  exact ⟨rfl, rfl⟩
/-- are the bits from k up to the next whole byte noughts? -/
def restZero (l : List UInt8) (k : Nat) : Bool := (l.getD (k / 8) 0).toNat * 2 ^ (k % 8) % 256 == 0
set_option maxRecDepth 100000 in
set_option maxHeartbeats 1000000 in
theorem ralign_no (g r : Nat) (l : List UInt8) (k : Nat) (w : World) (h : ReaderIs w g r l k) (hk : ¬ k % 8 = 0) (hz : restZero l k = false) :
    Calls Try.prog 66 #[.pointer (some ⟨g, 0, none⟩)] w fun e w' => e = .returned (.int .i64 11) ∧ Below w.heap.size w w' := by
  have c0 : w.cell? ⟨g, 0, none⟩ = some (.slice (some ⟨r, 0, none⟩) l.length l.length) := h.1.cell 0
  have c1 : w.cell? ⟨g, 1, none⟩ = some (.int .i64 (k : Int)) := h.1.cell 1
  have hm : ((k : Int) % 8 == 0) = false := by simp; omega
  have hk8 := h.2.2.1
  have hl := h.2.2.2
  obtain ⟨r', x, hrr, hx, cx, fx⟩ := h.2.1.at_ (k := k / 8) (by omega)
  injection hrr with hrr
  injection hrr with hrr
  subst hrr
  have hq : ((x.toNat : Int) * 2 ^ (k % 8) % 256 != 0) = true := by
    unfold restZero at hz
    rw [List.getD, hx] at hz
    have e : (x.toNat : Int) * 2 ^ (k % 8) % 256 = ((x.toNat * 2 ^ (k % 8) % 256 : Nat) : Int) := by simp
    rw [e]
    simp only [Option.getD_some, beq_eq_false_iff_ne, ne_eq] at hz
    rw [bne_iff_ne]
    omega
  have e3 : (0 : Int) ≤ (k : Int) / 8 := by omega
  have e4 : (k : Int) / 8 < (l.length : Int) := by omega
  clear hx hz h
  go_enter Try.func66, Try.ntmps66
  go_wp2
  go_region
  go_wp2
  go_ret
  exact ⟨rfl, (Below.refl _ _).drew⟩
set_option maxRecDepth 100000 in
set_option maxHeartbeats 1000000 in
theorem ralign_yes (g r : Nat) (l : List UInt8) (k : Nat) (w : World) (h : ReaderIs w g r l k) (hk : ¬ k % 8 = 0) (hz : restZero l k = true) :
    Calls Try.prog 66 #[.pointer (some ⟨g, 0, none⟩)] w fun e w' => e = .returned (.int .i64 0) ∧ ReaderIs w' g r l (8 * ((k + 7) / 8)) ∧ Chg (One g) w w' := by
  have c0 : w.cell? ⟨g, 0, none⟩ = some (.slice (some ⟨r, 0, none⟩) l.length l.length) := h.1.cell 0
  have c1 : w.cell? ⟨g, 1, none⟩ = some (.int .i64 (k : Int)) := h.1.cell 1
  have f1 := h.1.frozen 1
  have hm : ((k : Int) % 8 == 0) = false := by simp; omega
  have hk8 := h.2.2.1
  have hl := h.2.2.2
  obtain ⟨r', x, hrr, hx, cx, fx⟩ := h.2.1.at_ (k := k / 8) (by omega)
  injection hrr with hrr
  injection hrr with hrr
  subst hrr
  have hq : ((x.toNat : Int) * 2 ^ (k % 8) % 256 != 0) = false := by
    unfold restZero at hz
    rw [List.getD, hx] at hz
    have e : (x.toNat : Int) * 2 ^ (k % 8) % 256 = ((x.toNat * 2 ^ (k % 8) % 256 : Nat) : Int) := by simp
    rw [e]
    simp only [Option.getD_some, beq_iff_eq] at hz
    rw [hz]; rfl
  have e3 : (0 : Int) ≤ (k : Int) / 8 := by omega
  have e4 : (k : Int) / 8 < (l.length : Int) := by omega
  have HNE := hide h.ne
  have w1 : IntKind.i64.wrap (8 - (k : Int) % 8) = 8 - (k : Int) % 8 := by rw [IntKind.wrap_i64]; omega
  have w2 : IntKind.i64.wrap ((k : Int) + (8 - (k : Int) % 8)) = (k : Int) + (8 - (k : Int) % 8) := by rw [IntKind.wrap_i64]; omega
  clear hx hz
  go_enter Try.func66, Try.ntmps66
  go_wp2
  go_region
  go_wp2
  go_region
  go_wp2
  go_ret
  refine ⟨rfl, ⟨?_, ?_, by omega, hl⟩, ?_⟩
  · rw [show (((8 * ((k + 7) / 8) : Nat)) : Int) = (k : Int) + (8 - (k : Int) % 8) from by omega]
    have := h.1.set_ 1 (.int .i64 ((k : Int) + (8 - (k : Int) % 8)))
    simpa using this.drew.drew
  · exact ((h.2.1.setFar (p := ⟨g, 1, none⟩) (by simp [blkOf]; exact HNE.out) _).drew).drew
  · exact (((Chg.refl (One g) _).setCell (p := ⟨g, 1, none⟩) (.inl rfl) _).drew).drew

/- Rest -/

theorem byt_drop {w : World} {B : Nat} {r n : Nat} {l : List UInt8} (h : Byt w B (some ⟨r, 0, none⟩) l) : Byt w B (some ⟨r, n, none⟩) (l.drop n) := fun hl => by
  rw [List.length_drop] at hl
  obtain ⟨b, off, e, hb, hc⟩ := h (by omega)
  injection e with e
  injection e with e1 e2
  subst e1
  refine ⟨r, n, rfl, hb, fun j x hx => ?_⟩
  rw [List.getElem?_drop] at hx
  have := hc (n + j) x hx
  rw [← e2] at this
  simpa using this
end Go.Proofs.Ytakglalebjkpeaa
namespace Go.Proofs.Ytakglalebjkpeaa
open Go.RowKit Kin

theorem rem_bit (v i : Nat) : ∃ x : UInt8, ((v / 2 ^ i : Nat) : Int) % 2 = (x.toNat : Int) ∧ Hid (x = Bit.one (v.testBit i)) :=
  ⟨_, by have := Bit.low_bit v i; omega, rfl⟩

set_option maxRecDepth 100000 in
set_option maxHeartbeats 1000000 in
theorem digits_calls (v n : Nat) (w : World) (hv : v < 18446744073709551616) (hn : n ≤ 64) :
    Calls Try.prog 50 #[.int .u64 (v : Int), .int .i64 (n : Int)] w (RetBytes w (Bit.zo (Bit.digits v n))) := by
  have mk := run_make8 (P := Try.prog) bytesT .i64 .i64 n (by omega)
  go_enter Try.func50, Try.ntmps50
  go_wp2
  have o0 := Own8.new w (mk8 n) 5 n (List.replicate n 0) (by simp) (toList_mk8 n) (by unfold maxLen; omega)
  have b0 : Below w.heap.size w (w.alloc (Obj.cells (mk8 n) 5)) := (Below.refl _ _).alloc (Nat.le_refl _) _
  clear mk
  generalize w.alloc (Obj.cells (mk8 n) 5) = W0 at *
  go_loopw [0, 6] (fun vv iv wr => ∃ (k : Nat) (m : List UInt8), k ≤ n ∧ iv = .int .i64 ((k : Int) - 1) ∧ vv = .int .u64 ((v / 2 ^ (n - k) : Nat) : Int) ∧ Own8 wr 5 (some ⟨w.heap.size, 0, none⟩) n n m ∧ (∀ j, k ≤ j → j < n → m[j]? = (Bit.zo (Bit.digits v n))[j]?) ∧ Below w.heap.size w wr) (fun _ iv _ => (intOf iv + 1).toNat)
  case atStart => exact ⟨n, _, Nat.le_refl _, rfl, by simp, o0, fun j h1 h2 => by omega, b0⟩
  case round =>
    obtain ⟨k, m, hk, rfl, rfl, q, qm, qb⟩ := hrel
    clear o0 b0
    have hle : v / 2 ^ (n - k) ≤ v := Nat.div_le_self _ _
    rcases k with _ | j
    · have HM : Hid (m = Bit.zo (Bit.digits v n)) := by
        apply List.ext_getElem?
        intro j
        by_cases hj : j < n
        · exact qm j (Nat.zero_le _) hj
        · rw [List.getElem?_eq_none (by rw [← q.1]; omega), List.getElem?_eq_none (by rw [Bit.length_zo, Bit.length_digits]; omega)]
      clear qm
      generalize v / 2 ^ (n - 0) = y at *
      rw [show (((0 : Nat) : Int) - 1) = -1 from rfl]
      go_wp2
      go_ret
      exact ⟨_, _, _, rfl, by rw [← HM.out]; exact q, fun g hg => by simp [blkOf] at hg; omega, qb⟩
    · have HD : Hid (v / 2 ^ (n - (j + 1)) / 2 = v / 2 ^ (n - j)) := by
        show _ = _
        rw [Nat.div_div_eq_div_mul, ← Nat.pow_succ, show (n - (j + 1)).succ = n - j from by omega]
      obtain ⟨x, hx, HX⟩ := rem_bit v (n - (j + 1))
      have HZ := hide (Bit.zo_digits v n (i := j) (by omega))
      rw [show (((j + 1 : Nat) : Int) - 1) = (j : Int) from by omega]
      obtain ⟨b, hc, hf⟩ := q.at0 (k := j) (by omega)
      have HQ := hide qm
      clear qm
      generalize v / 2 ^ (n - (j + 1)) = y at *
      have hx2 : x.toNat < 2 := by omega
      go_wp2
      go_roundw
      case rel =>
        refine ⟨j, m.set j x, by omega, rfl, by rw [← HD.out]; go_num, q.set rfl x, ?_, qb.setCell (Nat.le_refl _) _⟩
        intro i h1 h2
        by_cases hij : i = j
        · subst hij
          rw [List.getElem?_set_self (by rw [← q.1]; omega), HZ.out, HX.out, show n - 1 - i = n - (i + 1) from by omega]
        · rw [List.getElem?_set_ne (by omega)]
          exact HQ.out i (by omega) h2
      case measure => simp [intOf]

set_option maxRecDepth 100000 in
set_option maxHeartbeats 1000000 in
theorem number_calls (A : Option Addr) (n c : Nat) (B : List Bool) (w : World) (hn : n = B.length) (hm : n ≤ 64) {b : Nat} (hA : Byt w b A (Bit.zo B)) :
    Calls Try.prog 80 #[.slice A n c] w fun e w' => e = .returned (.int .u64 (Bit.num B : Int)) ∧ w = w' := by
  have HN := hide hn
  clear hn
  go_enter Try.func80, Try.ntmps80
  go_wp2
  go_loop [3, 4] (fun vv iv => ∃ k : Nat, k ≤ n ∧ iv = .int .i64 (k : Int) ∧ vv = .int .u64 (Bit.num (B.take k) : Int)) (fun _ iv => n - (intOf iv).toNat)
  case atStart => exact ⟨0, by omega, rfl, rfl⟩
  case round =>
    obtain ⟨k, hk, rfl, rfl⟩ := hrel
    by_cases hlt : k < n
    · have hkB : k < B.length := by rw [← HN.out]; exact hlt
      have HS := hide (Bit.num_take_succ B k B[k] (List.getElem?_eq_getElem hkB))
      obtain ⟨g, off, rfl, _, hc⟩ := hA.at_ (k := k) (by rw [Bit.length_zo]; exact hkB)
      have hz : (Bit.zo B)[k]'(by rw [Bit.length_zo]; exact hkB) = Bit.one B[k] := by
        have h1 := Bit.zo_at B k
        rw [List.getElem?_eq_getElem (by rw [Bit.length_zo]; exact hkB), List.getElem?_eq_getElem hkB] at h1
        simpa using h1
      rw [hz, Bit.one_toNat] at hc
      have hlt' := Bit.num_lt (B.take k)
      have h63 : Bit.num (B.take k) < 9223372036854775808 := by
        refine Nat.lt_of_lt_of_le hlt' ?_
        rw [List.length_take, Nat.min_eq_left (by omega)]
        exact Nat.pow_le_pow_right (n := 2) (by omega) (show k ≤ 63 by omega)
      clear hz hlt'
      have hb1 : B[k].toNat ≤ 1 := Bool.toNat_le _
      generalize B[k].toNat = d at *
      generalize Bit.num (B.take k) = y at *
      go_wp2
      go_round
      case rel => exact ⟨k + 1, by omega, by go_num, by rw [HS.out]; go_num⟩
      case measure => simp [intOf]; omega
    · obtain rfl : n = k := by omega
      have HT : Hid (Bit.num (B.take n) = Bit.num B) := by rw [List.take_of_length_le (by rw [← HN.out]; omega)]; exact rfl
      generalize Bit.num (B.take n) = y at *
      clear hlt
      go_wp2
      go_ret
      exact ⟨ret_int (by rw [HT.out]), rfl⟩

set_option maxRecDepth 100000 in
set_option maxHeartbeats 1000000 in
theorem row_calls (A : Option Addr) (n c : Nat) (l : List UInt8) (w : World) (hn : n = l.length) (hm : n ≤ 300) {b : Nat} (hA0 : Byt w b A l) :
    Calls Try.prog 79 #[.slice A n c] w (RetBytes w (Bit.zo (Bit.row l))) := by
  have HN := hide hn
  have hA := hA0.here
  clear hn hA0
  go_enter Try.func79, Try.ntmps79
  go_wp2
  go_loopw [3, 4] (fun sv iv wr => ∃ (k : Nat) (A1 : Option Addr) (n1 c1 : Nat), k ≤ n ∧ iv = .int .i64 (k : Int) ∧ sv = .slice A1 n1 c1 ∧ Own8 wr 5 A1 n1 c1 (Bit.zo (Bit.row (l.take k))) ∧ (∀ g, blkOf A1 = some g → w.heap.size ≤ g) ∧ Below w.heap.size w wr) (fun _ iv _ => n - (intOf iv).toNat)
  case atStart => exact ⟨0, none, 0, 0, by omega, rfl, rfl, Own8.nil _ _, by simp [blkOf], Below.refl _ _⟩
  case round =>
    obtain ⟨k, A1, n1, c1, hk, rfl, rfl, q, qg, qb⟩ := hrel
    by_cases hlt : k < n
    · have hkl : k < l.length := by rw [← HN.out]; exact hlt
      have hA' := hA.below qb
      have HA := hide hA
      clear hA
      obtain ⟨g, off, rfl, _, hc⟩ := hA'.at_ (k := k) hkl
      have hx := (l[k]).toNat_lt
      have HR := hide (Bit.row_take l k l[k] (List.getElem?_eq_getElem hkl))
      have hn1 : n1 = 8 * k := by rw [q.1, Bit.length_zo, Bit.length_row, List.length_take, Nat.min_eq_left (by omega)]
      have hn1' : n1 ≤ 2400 := by omega
      clear hn1
      generalize hxx : l[k].toNat = x at *
      clear hxx hA'
      go_wp2_with (first
        | (go_at_call 50; refine (digits_calls x 8 _ (by omega) (by omega)).mono ?_; rintro e w2 ⟨A2, n2, c2, rfl, o2, g2, b2⟩; have q2 := q.below b2 q.lt; have hn2 : Hid (n2 = 8) := (by rw [o2.1, Bit.length_zo, Bit.length_digits]; exact rfl); have qb2 := qb.trans (b2.mono qb.size))
        | (at_builtin; refine wpList_append8 (by rfl) (.tmp 11) (.tmp 17) 31 5 (by rfl) bytesT _ _ _ _ (by rfl) q2 _ _ _ _ _ (by rfl) o2.byt o2.1 (by have := hn2.out; omega) ?_; intro A3 c3 w3 own3 grow3 at3))
      have own4 := own3
      rw [← Bit.zo_append, ← HR.out] at own4
      have z := qb2.size
      go_roundw
      case rel =>
        refine ⟨k + 1, A3, n1 + n2, c3, by omega, by go_num, rfl, own4, ?_, Below.grown qb2 grow3 qb2.size qg⟩
        intro g hg
        rcases at3 with h | h
        · exact qg g (by rw [← h]; exact hg)
        · rw [hg] at h; injection h with h; omega
      case measure => simp [intOf]; omega
    · obtain rfl : n = k := by omega
      have HT : Hid (l.take n = l) := List.take_of_length_le (by rw [← HN.out]; omega)
      rw [HT.out] at q
      clear hlt
      go_wp2
      go_ret
      exact ⟨_, _, _, rfl, q, qg, qb⟩
end Go.Proofs.Ytakglalebjkpeaa
namespace Go.Proofs.Ytakglalebjkpeaa
open Go.RowKit Kin

theorem pack_step (B : List Bool) (i n : Nat) (hn : n = B.length) (h8 : i % 8 = 0) (hi : i < n) : (Bit.pack B).take ((i + 8) / 8) = (Bit.pack B).take (i / 8) ++ [Bit.byteAt B (i / 8)] := by
  rw [show (i + 8) / 8 = i / 8 + 1 from by omega]
  exact Bit.pack_take B (i / 8) (by omega)
theorem pack_eight (B : List Bool) (i : Nat) (h8 : i % 8 = 0) : Bit.eight B i 8 = (Bit.byteAt B (i / 8)).toNat := by
  rw [← Bit.eight_byteAt, show 8 * (i / 8) = i from by omega]

set_option maxRecDepth 100000 in
set_option maxHeartbeats 2000000 in
theorem pack_calls (A : Option Addr) (n c : Nat) (B : List Bool) (w : World) (hn : n = B.length) (hm : n ≤ 1099511627776) {b : Nat} (hA0 : Byt w b A (Bit.zo B)) :
    Calls Try.prog 52 #[.slice A n c] w (RetBytes w (Bit.pack B)) := by
  have HN := hide hn
  have hA := hA0.here
  clear hn hA0
  go_enter Try.func52, Try.ntmps52
  go_wp2
  go_loopw [3, 4] (fun sv iv wr => ∃ (i : Nat) (A1 : Option Addr) (n1 c1 : Nat), i ≤ n + 7 ∧ Hid (i % 8 = 0) ∧ iv = .int .i64 (i : Int) ∧ sv = .slice A1 n1 c1 ∧ Own8 wr 5 A1 n1 c1 ((Bit.pack B).take (i / 8)) ∧ (∀ g, blkOf A1 = some g → w.heap.size ≤ g) ∧ Below w.heap.size w wr) (fun _ iv _ => n + 8 - (intOf iv).toNat)
  case atStart => exact ⟨0, none, 0, 0, by omega, rfl, rfl, rfl, Own8.nil _ _, by simp [blkOf], Below.refl _ _⟩
  case round =>
    obtain ⟨i, A1, n1, c1, hi, H8, rfl, rfl, q, qg, qb⟩ := hrel
    by_cases hlt : i < n
    · have HP := hide (pack_step B i n HN.out H8.out hlt)
      have HE := hide (pack_eight B i H8.out)
      have hn1 : n1 ≤ 1099511627776 := by
        have h1 := q.1
        rw [List.length_take] at h1
        omega
      have hA' := hA.below qb
      have hlen : (Bit.zo B).length = n := by rw [Bit.length_zo]; exact HN.out.symm
      have HA := hide hA
      clear hA
      go_wp2
      go_loop [5, 6] (fun vv kv => ∃ k : Nat, k ≤ 8 ∧ kv = .int .i64 (k : Int) ∧ vv = .int .u64 (Bit.eight B i k : Int)) (fun _ kv => 8 - (intOf kv).toNat)
      case atStart => exact ⟨0, by omega, rfl, rfl⟩
      case round =>
        obtain ⟨k, hk, rfl, rfl⟩ := hrel
        by_cases hk8 : k < 8
        · have HS := hide (Bit.eight_succ B i k)
          have hv : Bit.eight B i k < 256 := Nat.lt_of_lt_of_le (Bit.eight_lt B i k) (Nat.pow_le_pow_right (n := 2) (by omega) (show k ≤ 8 by omega))
          by_cases hin : i + k < n
          · have hkB : i + k < B.length := by rw [← HN.out]; exact hin
            obtain ⟨g, off, rfl, _, hc⟩ := hA'.at_ (k := i + k) (by omega)
            have hz : (Bit.zo B)[i + k]'(by omega) = Bit.one B[i + k] := by
              have h1 := Bit.zo_at B (i + k)
              rw [List.getElem?_eq_getElem (by omega), List.getElem?_eq_getElem hkB] at h1
              simpa using h1
            rw [hz, Bit.one_toNat] at hc
            have hg : B.getD (i + k) false = B[i + k] := by rw [List.getD, List.getElem?_eq_getElem hkB]; rfl
            rw [hg] at HS
            have hb1 : B[i + k].toNat ≤ 1 := Bool.toNat_le _
            clear hz hg
            generalize B[i + k].toNat = d at *
            generalize Bit.eight B i k = y at *
            have din : decide ((i : Int) + (k : Int) < (n : Int)) = true := by simp; omega
            go_wp2
            go_round
            case rel => exact ⟨k + 1, by omega, by go_num, by rw [HS.out]; go_num⟩
            case measure => simp [intOf]; omega
          · have hg : B.getD (i + k) false = false := by rw [List.getD, List.getElem?_eq_none (by rw [← HN.out]; omega)]; rfl
            rw [hg] at HS
            clear hg
            have HS : Hid (Bit.eight B i (k + 1) = 2 * Bit.eight B i k) := HS
            generalize Bit.eight B i k = y at *
            have din : decide ((i : Int) + (k : Int) < (n : Int)) = false := by simp; omega
            go_wp2
            go_round
            case rel => exact ⟨k + 1, by omega, by go_num, by rw [HS.out]; go_num⟩
            case measure => simp [intOf]; omega
        · obtain rfl : k = 8 := by omega
          rw [show (((8 : Nat) : Int)) = 8 from rfl, HE.out]
          have hx := (Bit.byteAt B (i / 8)).toNat_lt
          generalize Bit.byteAt B (i / 8) = x at *
          clear hk8 hk
          go_wp2_with (at_builtin; refine wpList_append8 (by rfl) (.tmp 34) (.tmp 37) 31 5 (by rfl) bytesT _ _ _ _ (by rfl) (q.alloc _) _ _ _ _ [x] (by rfl) (Byt.new _ _ _ _ _ rfl) (by rfl) (by simp; omega) ?_; intro A3 c3 w3 own3 grow3 at3)
          have own4 := own3
          rw [← HP.out] at own4
          have z := qb.size
          go_roundw
          case rel =>
            refine ⟨i + 8, A3, n1 + 1, c3, by omega, by show _ = _; have := H8.out; omega, by go_num, rfl, own4, ?_, Below.grown (qb.alloc qb.size _) grow3 (by simp; omega) qg⟩
            intro g hg
            rcases at3 with h | h
            · exact qg g (by rw [← h]; exact hg)
            · rw [hg] at h; injection h with h; simp at h; omega
          case measure => simp [intOf]; omega
    · have HT : Hid ((Bit.pack B).take (i / 8) = Bit.pack B) := List.take_of_length_le (by rw [Bit.length_pack, ← HN.out]; have := H8.out; omega)
      rw [HT.out] at q
      go_wp2
      go_ret
      exact ⟨_, _, _, rfl, q, qg, qb⟩
end Go.Proofs.Ytakglalebjkpeaa
namespace Go.Proofs.Ytakglalebjkpeaa
open Go.RowKit Kin

/-- the length of the slice at block g -/
def lenAt (w : World) (g : Nat) : Nat := match w.cell? ⟨g, 0, none⟩ with | some (.slice _ n _) => n | _ => 0
end Go.Proofs.Ytakglalebjkpeaa
namespace Go.Proofs.Ytakglalebjkpeaa
open Go.RowKit Kin

/-- may the number be put? -/
def putOk (v n : Int) : Bool := decide (0 ≤ n ∧ n ≤ 64 ∧ v < 2 ^ n.toNat)
def putE (v n : Int) : Int := if putOk v n then 0 else 1
def putB (B : List Bool) (v n : Int) : List Bool := if putOk v n then B ++ Bit.digits v.toNat n.toNat else B
theorem length_putB (B : List Bool) (v n : Int) : (putB B v n).length ≤ B.length + 64 := by
  unfold putB
  split
  · rename_i h
    have := of_decide_eq_true h
    rw [List.length_append, Bit.length_digits]
    omega
  · omega

theorem put_any (g : Nat) (R : Option Nat) (B : List Bool) (v n : Int) (w : World) (h : WriterIs w g R B) (hB : B.length ≤ 1099511627776) (h0 : 0 ≤ v) (h1 : v < 18446744073709551616) :
    Calls Try.prog 58 #[.pointer (some ⟨g, 0, none⟩), .int .u64 v, .int .i64 n] w
      fun e w' => e = .returned (.int .i64 (putE v n)) ∧ ∃ R', WriterIs w' g R' (putB B v n) ∧ Chg (Foot g R) w w' ∧ RowNew w.heap.size R R' := by
  by_cases hn : n < 0 ∨ 64 < n
  · have e : putOk v n = false := by unfold putOk; rw [decide_eq_false_iff_not]; omega
    refine (put_bad g v n w hn).mono ?_
    rintro e w' ⟨rfl, rfl⟩
    unfold putE putB
    rw [e]
    exact ⟨rfl, R, h, Chg.refl _ _, RowNew.refl _ _⟩
  · obtain ⟨n, rfl⟩ : ∃ k : Nat, n = k := ⟨n.toNat, by omega⟩
    obtain ⟨v, rfl⟩ : ∃ k : Nat, v = k := ⟨v.toNat, by omega⟩
    have hp : ((2 ^ n : Nat) : Int) = 2 ^ n := by simp
    by_cases hv : v < 2 ^ n
    · have e : putOk v n = true := by unfold putOk; rw [decide_eq_true_iff, Int.toNat_natCast, ← hp]; omega
      refine (put_calls g R B v n w h hB (by omega) hv).mono ?_
      rintro e w' ⟨rfl, hh⟩
      unfold putE putB
      rw [e, Int.toNat_natCast, Int.toNat_natCast]
      exact ⟨rfl, hh⟩
    · have e : putOk v n = false := by unfold putOk; rw [decide_eq_false_iff_not, Int.toNat_natCast, ← hp]; omega
      have hn64 : n < 64 := by
        rcases Nat.lt_or_ge n 64 with h | h
        · exact h
        · have : n = 64 := by omega
          subst this
          omega
      refine (put_wide g v n w hn64 (by omega)).mono ?_
      rintro e w' ⟨rfl, rfl⟩
      unfold putE putB
      rw [e]
      exact ⟨rfl, R, h, Chg.refl _ _, RowNew.refl _ _⟩

theorem length_fill_le (B : List Bool) : (Bit.fill B).length ≤ B.length + 7 := by rw [Bit.length_fill]; omega
theorem dN (w : World) (k : Nat) : Below w.heap.size w (w.drewN k) := ⟨rfl, rfl, rfl, Nat.le_refl _, fun _ _ => rfl⟩
end Go.Proofs.Ytakglalebjkpeaa
namespace Go.Proofs.Ytakglalebjkpeaa
open Go.RowKit Kin

theorem Own8.form {w : World} {e : TypeId} {A : Option Addr} {n c : Nat} {l : List UInt8} (h : Kin.Own8 w e A n c l) : (A = none ∧ n = 0 ∧ c = 0) ∨ ∃ g, A = some ⟨g, 0, none⟩ ∧ n ≤ c ∧ c ≤ maxLen := by
  rcases h.2.2 with ⟨hv, _⟩ | ⟨g, cap, cur, hv, _, _, h1, h2, _, _⟩
  · injection hv with h1 h2 h3
    exact .inl ⟨h1, h2, h3⟩
  · injection hv with h3 h4 h5
    subst h5
    exact .inr ⟨g, h3, h1, h2⟩

/-- at block g lies the document's reader of the bits B, at bit k, its row in block R -/
def RefRIs (w : World) (g : Nat) (R : Option Nat) (B : List Bool) (k : Nat) : Prop :=
  (∃ A n c, Blk w g 112 #[.slice A n c, .int .i64 (k : Int)] ∧ Kin.Own8 w 5 A n c (Bit.zo B) ∧ blkOf A = R) ∧ k ≤ B.length ∧ B.length ≤ 1099511627776
theorem RefRIs.lt {w : World} {g k : Nat} {R : Option Nat} {B : List Bool} (h : RefRIs w g R B k) : g < w.heap.size := by
  obtain ⟨⟨A, n, c, h1, _, _⟩, _⟩ := h
  exact h1.lt
theorem RefRIs.rlt {w : World} {g k : Nat} {R : Option Nat} {B : List Bool} (h : RefRIs w g R B k) : ∀ r, R = some r → r < w.heap.size := by
  obtain ⟨⟨A, n, c, _, h2, h3⟩, _⟩ := h
  intro r hr
  exact h2.lt r (by rw [h3]; exact hr)
theorem RefRIs.keep {S : Nat → Prop} {w w' : World} {g k : Nat} {R : Option Nat} {B : List Bool} (h : RefRIs w g R B k) (hc : Chg S w w') (hn : ∀ k, Foot g R k → ¬ S k) : RefRIs w' g R B k := by
  obtain ⟨⟨A, n, c, h1, h2, h3⟩, h4⟩ := h
  exact ⟨⟨A, n, c, hc.blk h1 (hn g (.inl rfl)), hc.own h2 (fun k hk => hn k (.inr (by rw [← h3]; exact hk))), h3⟩, h4⟩
theorem RefRIs.below {w w' : World} {g k : Nat} {R : Option Nat} {B : List Bool} (h : RefRIs w g R B k) (hc : Below w.heap.size w w') : RefRIs w' g R B k :=
  h.keep (S := fun _ => False) (Chg.of_below hc) (fun _ _ e => e)

theorem refReader_zero : (Try.prog.info? 112).map (fun i => (i.zero, i.size)) = some (some (.agg #[.slice none 0 0, .int .i64 0]), 2) := by kernel_rfl
/-- a new reader of the document's -/
def RetRefR (w : World) (B : List Bool) (e : Ending) (w' : World) : Prop :=
  ∃ g R, e = .returned (.pointer (some ⟨g, 0, none⟩)) ∧ RefRIs w' g R B 0 ∧ w.heap.size ≤ g ∧ (∀ r, R = some r → w.heap.size ≤ r) ∧ Below w.heap.size w w'
set_option maxRecDepth 100000 in
set_option maxHeartbeats 1000000 in
theorem refopen_calls (A : Option Addr) (n c : Nat) (l : List UInt8) (w : World) (hn : n = l.length) (hm : n ≤ 300) {b : Nat} (hA : Byt w b A l) :
    Calls Try.prog 68 #[.slice A n c] w (RetRefR w (Bit.row l)) := by
  have hz := (zero_of_info refReader_zero).1
  have hrl : (Bit.row l).length ≤ 1099511627776 := by rw [Bit.length_row]; omega
  have HL := hide hrl
  have HN := hide hn
  clear hrl hn
  go_enter Try.func68, Try.ntmps68
  go_wp2_with fail
  refine (row_calls A n c l _ HN.out hm hA).mono ?_
  rintro e w1 ⟨A1, n1, c1, rfl, o1, g1, b1⟩
  have hb : Blk (w1.alloc (Obj.cells #[.slice A1 n1 c1, .int .i64 0] 112)) w1.heap.size 112 #[.slice A1 n1 c1, .int .i64 ((0 : Nat) : Int)] := Blk.new _ _ _
  have o2 := o1.alloc (Obj.cells #[.slice A1 n1 c1, .int .i64 0] 112)
  have b2 := b1.alloc b1.size (Obj.cells #[.slice A1 n1 c1, .int .i64 0] 112)
  have HE : Hid (RetRefR w (Bit.row l) (.returned (.pointer (some ⟨w1.heap.size, 0, none⟩))) (w1.alloc (Obj.cells #[.slice A1 n1 c1, .int .i64 0] 112))) :=
    ⟨w1.heap.size, blkOf A1, rfl, ⟨⟨A1, n1, c1, hb, o2, rfl⟩, Nat.zero_le _, HL.out⟩, b1.size, g1, b2⟩
  clear hb o2 b2 o1 g1 b1 HL hA
  go_wp2
  go_ret
  exact HE.out

set_option maxRecDepth 100000 in
theorem refget_bad (P0 : Option Addr) (n : Int) (w : World) (h : n < 0 ∨ 64 < n) : Calls Try.prog 69 #[.pointer P0, .int .i64 n] w fun e w' => e = .returned (.tuple #[.int .u64 0, .int .i64 1]) ∧ w = w' := by
  by_cases h1 : n < 0
  · go_enter Try.func69, Try.ntmps69
    go_wp2
    go_ret2
    exact ⟨rfl, rfl⟩
  · have h2 : 64 < n := by omega
    clear h
    go_enter Try.func69, Try.ntmps69
    go_wp2
    go_ret2
    exact ⟨rfl, rfl⟩

set_option maxRecDepth 100000 in
set_option maxHeartbeats 1000000 in
theorem refget_short (g : Nat) (R : Option Nat) (B : List Bool) (k n : Nat) (w : World) (h : RefRIs w g R B k) (hn : n ≤ 64) (hs : B.length < k + n) :
    Calls Try.prog 69 #[.pointer (some ⟨g, 0, none⟩), .int .i64 (n : Int)] w fun e w' => e = .returned (.tuple #[.int .u64 0, .int .i64 11]) ∧ Below w.heap.size w w' := by
  obtain ⟨⟨A, m, c, h1, h2, _⟩, hk, hB⟩ := h
  have c0 : w.cell? ⟨g, 0, none⟩ = some (.slice A m c) := h1.cell 0
  have c1 : w.cell? ⟨g, 1, none⟩ = some (.int .i64 (k : Int)) := h1.cell 1
  have hm : m = B.length := by rw [h2.1, Bit.length_zo]
  have d1 : decide ((n : Int) < 0) = false := by simp
  have d2 : decide ((64 : Int) < (n : Int)) = false := by simp; omega
  have e1 : IntKind.i64.wrap ((m : Int) - (k : Int)) = (m : Int) - (k : Int) := by rw [IntKind.wrap_i64]; omega
  have d3 : decide ((m : Int) - (k : Int) < (n : Int)) = true := by simp; omega
  clear hm hs hk hB
  go_enter Try.func69, Try.ntmps69
  go_wp2
  go_region
  go_wp2
  go_ret2
  exact ⟨rfl, (Below.refl _ _).drew⟩

theorem quiet_left {P : Program} {f : FuncId} {args : Array Value} {w : World} {n : Nat} {v : Value}
    (h : Calls P f args (w.drewN n) fun e w' => e = .returned v ∧ w.drewN n = w') : Calls P f args (w.drewN n) fun e w'' => e = .returned v ∧ ∃ m, w'' = w.drewN m :=
  h.mono fun _ _ ⟨he, hm⟩ => ⟨he, n, hm.symm⟩

theorem Own8.cap {w : World} {e : TypeId} {A : Option Addr} {n c : Nat} {l : List UInt8} (h : Kin.Own8 w e A n c l) : n ≤ c := by
  rcases Own8.form h with ⟨_, rfl, rfl⟩ | ⟨g, _, h1, _⟩
  · exact Nat.le_refl _
  · exact h1

set_option maxRecDepth 100000 in
set_option maxHeartbeats 2000000 in
theorem refget_calls (g : Nat) (R : Option Nat) (B : List Bool) (k n : Nat) (w : World) (h : RefRIs w g R B k) (hn : n ≤ 64) (hs : k + n ≤ B.length) :
    Calls Try.prog 69 #[.pointer (some ⟨g, 0, none⟩), .int .i64 (n : Int)] w
      fun e w' => e = .returned (.tuple #[.int .u64 (Bit.num ((B.drop k).take n) : Int), .int .i64 0]) ∧ RefRIs w' g R B (k + n) ∧ Chg (One g) w w' := by
  obtain ⟨⟨A, m, c, h1, h2, hR⟩, hk, hB⟩ := h
  have c0 : w.cell? ⟨g, 0, none⟩ = some (.slice A m c) := h1.cell 0
  have c1 : w.cell? ⟨g, 1, none⟩ = some (.int .i64 (k : Int)) := h1.cell 1
  have hmc := Own8.cap h2
  have hne : blkOf A ≠ some g := by have := own_blk_ne h2.2 h1 (by decide); rwa [ownBlock_slice] at this
  have HNE := hide hne
  have hm : m = B.length := by rw [h2.1, Bit.length_zo]
  have HM := hide hm
  have d1 : decide ((n : Int) < 0) = false := by simp
  have d2 : decide ((64 : Int) < (n : Int)) = false := by simp; omega
  have e1 : IntKind.i64.wrap ((m : Int) - (k : Int)) = (m : Int) - (k : Int) := by rw [IntKind.wrap_i64]; omega
  have d3 : decide ((m : Int) - (k : Int) < (n : Int)) = false := by simp; omega
  have hkn : k + n ≤ m := by omega
  have hm40 : m ≤ 1099511627776 := by omega
  have e2 : IntKind.i64.wrap ((k : Int) + (n : Int)) = (k : Int) + (n : Int) := by rw [IntKind.wrap_i64]; omega
  have hsl := run_cut8 bytesT A m c .i64 .i64 k (k + n) k ((k : Int) + (n : Int)) rfl (by omega) (by omega) (by omega)
  rw [Nat.add_sub_cancel_left] at hsl
  have HBY : Hid (∀ w', Byt w' w'.heap.size A (Bit.zo B) → Byt w' w'.heap.size (cutA A c k) (Bit.zo ((B.drop k).take n))) := fun w' hb => by
    rw [← Bit.zo_take, ← Bit.zo_drop]
    exact (hb.cut k (by rw [Bit.length_zo, ← hm]; exact hmc)).take n
  have HLEN : Hid (n = ((B.drop k).take n).length) := by show n = _; rw [List.length_take, List.length_drop]; omega
  have HK : Hid (k + n ≤ B.length ∧ B.length ≤ 1099511627776) := ⟨hs, hB⟩
  generalize (B.drop k).take n = D at *
  generalize cutA A c k = A' at *
  clear hm hs hne hmc hB hk
  go_enter Try.func69, Try.ntmps69
  go_wp2
  go_region
  have h1d := h1.drew
  have h2d := h2.drew
  have c0d : w.drew.cell? ⟨g, 0, none⟩ = some (.slice A m c) := c0
  have c1d : w.drew.cell? ⟨g, 1, none⟩ = some (.int .i64 (k : Int)) := c1
  have ch : Chg (One g) w w.drew := (Chg.refl _ _).drew
  clear h1 h2 c0 c1
  generalize w.drew = V at *
  go_wp2
  go_quiet ((go_at_call 80; exact quiet_left (number_calls _ _ _ D _ HLEN.out (by omega) (HBY.out _ h2d.byt))))
  have h1q := h1d.drewN nq
  have h2q := h2d.drewN nq
  have c1q : (V.drewN nq).cell? ⟨g, 1, none⟩ = some (.int .i64 (k : Int)) := c1d
  have f1q := h1q.frozen 1
  have chq := ch.drewN nq
  clear h1d h2d c0d c1d ch
  generalize V.drewN nq = V2 at *
  go_wp2
  go_ret2
  refine ⟨rfl, ⟨⟨A, m, c, ?_, h2q.setFar (p := ⟨g, 1, none⟩) HNE.out _, hR⟩, HK.out⟩, chq.setCell (p := ⟨g, 1, none⟩) (.inl rfl) _⟩
  have := h1q.set_ 1 (.int .i64 ((k : Int) + (n : Int)))
  rw [show (((k + n : Nat)) : Int) = (k : Int) + (n : Int) from by omega]
  simpa using this

/-- are the bits from k up to the next whole byte noughts? -/
def Bit.restB (B : List Bool) (k : Nat) : Bool := ((B.drop k).take (8 * ((k + 7) / 8) - k)).all (! ·)

theorem restB_at {B : List Bool} {k i : Nat} (h : Bit.restB B k = true) (h1 : k ≤ i) (h2 : i < 8 * ((k + 7) / 8)) (h3 : i < B.length) : B[i] = false := by
  unfold Bit.restB at h
  rw [List.all_eq_true] at h
  have : B[i] ∈ (B.drop k).take (8 * ((k + 7) / 8) - k) := by
    rw [List.mem_iff_getElem?]
    refine ⟨i - k, ?_⟩
    rw [List.getElem?_take_of_lt (by omega), List.getElem?_drop, show k + (i - k) = i from by omega, List.getElem?_eq_getElem h3]
  simpa using h _ this
theorem restB_of {B : List Bool} {k : Nat} (h : ∀ i, k ≤ i → i < 8 * ((k + 7) / 8) → B.getD i false = false) : Bit.restB B k = true := by
  unfold Bit.restB
  rw [List.all_eq_true]
  intro b hb
  obtain ⟨j, hj⟩ := List.mem_iff_getElem?.1 hb
  rw [List.getElem?_take] at hj
  split at hj
  · rw [List.getElem?_drop] at hj
    have := h (k + j) (by omega) (by omega)
    rw [List.getD, hj] at this
    simpa using this
  · cases hj

/-- what an alignment answers, and where it leaves the reader -/
def alE (ok : Bool) : Int := if ok then 0 else 11
def alK (ok : Bool) (k : Nat) : Nat := if ok then 8 * ((k + 7) / 8) else k

end Go.Proofs.Ytakglalebjkpeaa
namespace Go.Proofs.Ytakglalebjkpeaa
open Go.RowKit Kin

theorem row_drop (l : List UInt8) (f : Nat) : (Bit.row l).drop (8 * f) = Bit.row (l.drop f) := by
  apply List.ext_getElem?
  intro i
  rw [List.getElem?_drop]
  by_cases h : 8 * f + i < 8 * l.length
  · rw [Bit.row_at l h, Bit.row_at _ (by rw [List.length_drop]; omega)]
    congr 1
    unfold Bit.rbit
    rw [List.getD, List.getD, List.getElem?_drop, show (8 * f + i) / 8 = f + i / 8 from by omega, show (8 * f + i) % 8 = i % 8 from by omega]
  · rw [List.getElem?_eq_none (by rw [Bit.length_row]; omega), List.getElem?_eq_none (by rw [Bit.length_row, List.length_drop]; omega)]
theorem pack_drop (l : List UInt8) (f : Nat) : Bit.pack ((Bit.row l).drop (8 * f)) = l.drop f := by rw [row_drop, Bit.pack_row]
theorem get_row (l : List UInt8) (k n : Nat) (h : k + n ≤ 8 * l.length) : Bit.num (((Bit.row l).drop k).take n) = Bit.get l k n := by
  have := Bit.get_pack (Bit.row l) k n (by rw [Bit.length_row]; exact h)
  rw [Bit.pack_row] at this
  exact this.symm
theorem byte_tail : ∀ x : Fin 256, ∀ q : Fin 8, (x.val * 2 ^ q.val % 256 == 0) = ((List.range (8 - q.val)).all fun j => ! x.val.testBit (7 - (q.val + j))) := by decide +kernel
theorem restZero_row (l : List UInt8) (k : Nat) (hk : ¬ k % 8 = 0) (hl : k ≤ 8 * l.length) : restZero l k = Bit.restB (Bit.row l) k := by
  have hx : k / 8 < l.length := by omega
  have h := byte_tail ⟨(l[k / 8]).toNat, (l[k / 8]).toNat_lt⟩ ⟨k % 8, Nat.mod_lt _ (by omega)⟩
  unfold restZero Bit.restB
  rw [List.getD, List.getElem?_eq_getElem hx, Option.getD_some]
  simp only at h
  rw [h]
  have e : ((Bit.row l).drop k).take (8 * ((k + 7) / 8) - k) = (List.range (8 - k % 8)).map fun j => (l[k / 8]).toNat.testBit (7 - (k % 8 + j)) := by
    apply List.ext_getElem?
    intro i
    by_cases hi : i < 8 - k % 8
    · rw [List.getElem?_take_of_lt (by omega), List.getElem?_drop, Bit.row_at l (by omega), List.getElem?_map, List.getElem?_range hi, Option.map_some]
      congr 1
      unfold Bit.rbit
      rw [List.getD, show (k + i) / 8 = k / 8 from by omega, List.getElem?_eq_getElem hx, Option.getD_some, show (k + i) % 8 = k % 8 + i from by omega]
    · rw [List.getElem?_eq_none (by rw [List.length_take]; omega), List.getElem?_eq_none (by simp; omega)]
  rw [e, List.all_map]
  rfl
theorem restB_whole (B : List Bool) (k : Nat) (hk : k % 8 = 0) : Bit.restB B k = true := by
  unfold Bit.restB
  rw [show 8 * ((k + 7) / 8) - k = 0 from by omega]; rfl

/-- what a get of n bits, of L bits at k, answers -/
def getE (L k : Nat) (n : Int) : Int := if n < 0 ∨ 64 < n then 1 else if L < k + n.toNat then 11 else 0
def getV (l : List UInt8) (k : Nat) (n : Int) : Nat := if getE (8 * l.length) k n = 0 then Bit.get l k n.toNat else 0
def getK (L k : Nat) (n : Int) : Nat := if getE L k n = 0 then k + n.toNat else k
theorem getE_bad {L k : Nat} {n : Int} (h : n < 0 ∨ 64 < n) : getE L k n = 1 := if_pos h
theorem getE_short {L k n : Nat} (h : n ≤ 64) (hs : L < k + n) : getE L k n = 11 := by unfold getE; rw [if_neg (by omega), if_pos (by simpa using hs)]
theorem getE_ok {L k n : Nat} (h : n ≤ 64) (hs : k + n ≤ L) : getE L k n = 0 := by unfold getE; rw [if_neg (by omega), if_neg (by simp; omega)]
theorem getV_zero {l : List UInt8} {k : Nat} {n : Int} (h : getE (8 * l.length) k n ≠ 0) : getV l k n = 0 := if_neg h
theorem getK_zero {L k : Nat} {n : Int} (h : getE L k n ≠ 0) : getK L k n = k := if_neg h

theorem get_any (g r : Nat) (l : List UInt8) (k : Nat) (n : Int) (w : World) (h : ReaderIs w g r l k) :
    Calls Try.prog 63 #[.pointer (some ⟨g, 0, none⟩), .int .i64 n] w
      fun e w' => e = .returned (.tuple #[.int .u64 (getV l k n : Int), .int .i64 (getE (8 * l.length) k n)]) ∧ ReaderIs w' g r l (getK (8 * l.length) k n) ∧ Chg (One g) w w' := by
  by_cases hn : n < 0 ∨ 64 < n
  · have e := getE_bad (L := 8 * l.length) (k := k) hn
    rw [getV_zero (by rw [e]; omega), getK_zero (by rw [e]; omega), e]
    refine (get_bad g n w hn).mono ?_
    rintro e w' ⟨rfl, rfl⟩
    exact ⟨rfl, h, Chg.refl _ _⟩
  · obtain ⟨n, rfl⟩ : ∃ m : Nat, n = m := ⟨n.toNat, by omega⟩
    by_cases hs : 8 * l.length < k + n
    · have e := getE_short (show n ≤ 64 by omega) hs
      rw [getV_zero (by rw [e]; omega), getK_zero (by rw [e]; omega), e]
      refine (get_short g r l k n w h (by omega) hs).mono ?_
      rintro e w' ⟨rfl, hb⟩
      exact ⟨rfl, h.below hb, Chg.of_below hb⟩
    · have e := getE_ok (show n ≤ 64 by omega) (show k + n ≤ 8 * l.length by omega)
      refine (get_calls g r l k n w h (by omega) (by omega)).mono ?_
      rintro e' w' ⟨rfl, hr, hc⟩
      unfold getV getK
      rw [if_pos e, if_pos e, e, Int.toNat_natCast]
      exact ⟨rfl, hr, hc⟩
theorem refget_any (g : Nat) (R : Option Nat) (l : List UInt8) (k : Nat) (n : Int) (w : World) (h : RefRIs w g R (Bit.row l) k) :
    Calls Try.prog 69 #[.pointer (some ⟨g, 0, none⟩), .int .i64 n] w
      fun e w' => e = .returned (.tuple #[.int .u64 (getV l k n : Int), .int .i64 (getE (8 * l.length) k n)]) ∧ RefRIs w' g R (Bit.row l) (getK (8 * l.length) k n) ∧ Chg (One g) w w' := by
  by_cases hn : n < 0 ∨ 64 < n
  · have e := getE_bad (L := 8 * l.length) (k := k) hn
    rw [getV_zero (by rw [e]; omega), getK_zero (by rw [e]; omega), e]
    refine (refget_bad _ n w hn).mono ?_
    rintro e w' ⟨rfl, rfl⟩
    exact ⟨rfl, h, Chg.refl _ _⟩
  · obtain ⟨n, rfl⟩ : ∃ m : Nat, n = m := ⟨n.toNat, by omega⟩
    by_cases hs : 8 * l.length < k + n
    · have e := getE_short (show n ≤ 64 by omega) hs
      rw [getV_zero (by rw [e]; omega), getK_zero (by rw [e]; omega), e]
      refine (refget_short g R _ k n w h (by omega) (by rw [Bit.length_row]; exact hs)).mono ?_
      rintro e w' ⟨rfl, hb⟩
      exact ⟨rfl, h.below hb, Chg.of_below hb⟩
    · have e := getE_ok (show n ≤ 64 by omega) (show k + n ≤ 8 * l.length by omega)
      refine (refget_calls g R _ k n w h (by omega) (by rw [Bit.length_row]; omega)).mono ?_
      rintro e' w' ⟨rfl, hr, hc⟩
      unfold getV getK
      rw [if_pos e, if_pos e, e, Int.toNat_natCast, get_row l k n (by omega)]
      exact ⟨rfl, hr, hc⟩
theorem ralign_any (g r : Nat) (l : List UInt8) (k : Nat) (w : World) (h : ReaderIs w g r l k) :
    Calls Try.prog 66 #[.pointer (some ⟨g, 0, none⟩)] w
      fun e w' => e = .returned (.int .i64 (alE (Bit.restB (Bit.row l) k))) ∧ ReaderIs w' g r l (alK (Bit.restB (Bit.row l) k) k) ∧ Chg (One g) w w' := by
  have hk8 := h.2.2.1
  by_cases hk : k % 8 = 0
  · rw [restB_whole _ _ hk, show alK true k = k from by unfold alK; rw [if_pos rfl]; omega]
    refine (ralign_whole g r l k w h hk).mono ?_
    rintro e w' ⟨rfl, rfl⟩
    exact ⟨rfl, h, Chg.refl _ _⟩
  · rw [← restZero_row l k hk hk8]
    cases hz : restZero l k
    · refine (ralign_no g r l k w h hk hz).mono ?_
      rintro e w' ⟨rfl, hb⟩
      exact ⟨rfl, h.below hb, Chg.of_below hb⟩
    · exact ralign_yes g r l k w h hk hz
end Go.Proofs.Ytakglalebjkpeaa
