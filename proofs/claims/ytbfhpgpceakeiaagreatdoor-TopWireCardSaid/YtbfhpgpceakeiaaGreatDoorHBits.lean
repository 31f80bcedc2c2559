/- Texts of this claim in one: HBits. What each proves, and on what conditions, its own words say. -/
import Derived.Test.YtbfhpgpceakeiaaGreatDoorRows
import Derived.Test.YtbfhpgpceakeiaaGreatDoorObj
import Derived.Test.YtbfhpgpceakeiaaGreatDoorHPlain
import Derived.WalkKit
import Derived.WalkSpells
import Derived.WalkLawsBesides
import Derived.Laws.BitsAllLaws
import Derived.Laws.Shifts
import Derived.BigRegion
import Derived.BigQuiet
import Derived.Deep.QuietTactic
import Derived.Deep.WholeRow
import Derived.Deep.RegionLaw
import Derived.Test.YtbfhpgpceakeiaaGreatDoorHShelf
import Derived.Test.YtbfhpgpceakeiaaGreatDoorWords
import Derived.Test.YtbfhpgpceakeiaaGreatDoorCut
namespace Go.Proofs.YtbfhpgpceakeiaaGreatDoor
open Go.RowKit Kin

theorem bytesT : IsBytes Tryz.prog 23 5 := isBytes_of Tryz.underlying23 Tryz.underlying5 (by kernel_rfl)

/-- at block g lies a writer of the bits B, its bytes in block R -/
def WriterIs (w : World) (g : Nat) (R : Option Nat) (B : List Bool) : Prop :=
  ∃ A n c, Blk w g 175 #[.slice A n c, .int .i64 (B.length : Int)] ∧ Own8 w 5 A n c (Bit.pack B) ∧ blkOf A = R
theorem WriterIs.lt {w : World} {g : Nat} {R : Option Nat} {B : List Bool} (h : WriterIs w g R B) : g < w.heap.size := by
  obtain ⟨A, n, c, h1, _, _⟩ := h
  exact h1.lt
theorem WriterIs.rlt {w : World} {g : Nat} {R : Option Nat} {B : List Bool} (h : WriterIs w g R B) : ∀ r, R = some r → r < w.heap.size := by
  obtain ⟨A, n, c, _, h2, h3⟩ := h
  intro r hr
  exact h2.lt r (by rw [h3]; exact hr)
theorem WriterIs.ne {w : World} {g : Nat} {R : Option Nat} {B : List Bool} (h : WriterIs w g R B) : R ≠ some g := by
  obtain ⟨A, n, c, h1, h2, h3⟩ := h
  have := own_blk_ne h2.2 h1 (by decide)
  rwa [ownBlock_slice, h3] at this
theorem WriterIs.keep {S : Nat → Prop} {w w' : World} {g : Nat} {R : Option Nat} {B : List Bool} (h : WriterIs w g R B) (hc : Chg S w w') (hn : ∀ k, Foot g R k → ¬ S k) : WriterIs w' g R B := by
  obtain ⟨A, n, c, h1, h2, h3⟩ := h
  exact ⟨A, n, c, hc.blk h1 (hn g (.inl rfl)), hc.own h2 (fun k hk => hn k (.inr (by rw [← h3]; exact hk))), h3⟩
theorem WriterIs.below {w w' : World} {g : Nat} {R : Option Nat} {B : List Bool} (h : WriterIs w g R B) (hc : Below w.heap.size w w') : WriterIs w' g R B :=
  h.keep (S := fun _ => False) (Chg.of_below hc) (fun _ _ e => e)

theorem newWriter_zero : (Tryz.prog.info? 175).map (fun i => (i.zero, i.size)) = some (some (.agg #[.slice none 0 0, .int .i64 0]), 2) := by kernel_rfl
/-- a new writer -/
def RetWriter (w : World) (e : Ending) (w' : World) : Prop := e = .returned (.pointer (some ⟨w.heap.size, 0, none⟩)) ∧ WriterIs w' w.heap.size none [] ∧ Below w.heap.size w w'
set_option maxRecDepth 100000 in
theorem new_calls (w : World) : Calls Tryz.prog 39 #[] w (RetWriter w) := by
  have hz := (zero_of_info newWriter_zero).1
  go_enter Tryz.func39, Tryz.ntmps39
  go_wp2
  go_ret
  exact ⟨rfl, ⟨none, 0, 0, Blk.new _ _ _, Own8.nil _ _, rfl⟩, (Below.refl _ _).alloc (Nat.le_refl _) _⟩

theorem len_calls (g : Nat) (R : Option Nat) (B : List Bool) (w : World) (h : WriterIs w g R B) :
    Calls Tryz.prog 346 #[.pointer (some ⟨g, 0, none⟩)] w fun e w' => e = .returned (.int .i64 (B.length : Int)) ∧ w = w' := by
  obtain ⟨A, n, c, h1, _, _⟩ := h
  have c1 : w.cell? ⟨g, 1, none⟩ = some (.int .i64 (B.length : Int)) := h1.cell 1
  go_enter Tryz.func346, Tryz.ntmps346
  go_wp2
  go_ret
  exact ⟨rfl, rfl⟩
theorem len_nil (w : World) : Calls Tryz.prog 346 #[.pointer none] w fun e w' => e = .returned (.int .i64 0) ∧ w = w' := by
  go_enter Tryz.func346, Tryz.ntmps346
  go_wp2
  go_ret
  exact ⟨rfl, rfl⟩

theorem walign_nil (w : World) : Calls Tryz.prog 158 #[.pointer none] w fun e w' => e = .returned (.int .i64 1) ∧ w = w' := by
  go_enter Tryz.func158, Tryz.ntmps158
  go_wp2
  go_ret
  exact ⟨rfl, rfl⟩
theorem walign_calls (g : Nat) (R : Option Nat) (B : List Bool) (w : World) (h : WriterIs w g R B) (hB : B.length ≤ 1099511627776) :
    Calls Tryz.prog 158 #[.pointer (some ⟨g, 0, none⟩)] w fun e w' => e = .returned (.int .i64 0) ∧ WriterIs w' g R (Bit.fill B) ∧ Chg (Foot g R) w w' := by
  have hne := h.ne
  obtain ⟨A, n, c, h1, h2, h3⟩ := h
  have hn : n = (B.length + 7) / 8 := by rw [h2.1, Bit.length_pack]
  have hn' : n ≤ B.length + 7 := by omega
  have c0 : w.cell? ⟨g, 0, none⟩ = some (.slice A n c) := h1.cell 0
  have c1 : w.cell? ⟨g, 1, none⟩ = some (.int .i64 (B.length : Int)) := h1.cell 1
  have f1 := h1.frozen 1
  have HN := hide hn
  clear hn
  have HNE := hide hne
  clear hne
  go_enter Tryz.func158, Tryz.ntmps158
  go_wp2
  go_ret
  refine ⟨rfl, ⟨A, n, c, ?_, ?_, h3⟩, (Chg.refl _ _).setCell (.inl (.inl rfl)) _⟩
  · have := h1.set_ 1 (.int .i64 (8 * (n : Int)))
    rw [Bit.length_fill, ← HN.out]
    simpa using this
  · rw [Bit.pack_fill]
    exact h2.setFar (by rw [h3]; exact HNE.out) _

theorem wbytes_nil (w : World) : Calls Tryz.prog 41 #[.pointer none] w fun e w' => e = .returned (.slice none 0 0) ∧ w = w' := by
  go_enter Tryz.func41, Tryz.ntmps41
  go_wp2
  go_ret
  exact ⟨rfl, rfl⟩
/-- an answer that is a new slice of bytes -/
def RetBytes (w : World) (l : List UInt8) (e : Ending) (w' : World) : Prop :=
  ∃ A n c, e = .returned (.slice A n c) ∧ Own8 w' 5 A n c l ∧ (∀ g, blkOf A = some g → w.heap.size ≤ g) ∧ Below w.heap.size w w'
theorem wbytes_calls (g : Nat) (R : Option Nat) (B : List Bool) (w : World) (h : WriterIs w g R B) (hB : B.length ≤ 1099511627776) :
    Calls Tryz.prog 41 #[.pointer (some ⟨g, 0, none⟩)] w (RetBytes w (Bit.pack B)) := by
  have hgl := h.lt
  obtain ⟨A, n, c, h1, h2, h3⟩ := h
  have hn : n = (B.length + 7) / 8 := by rw [h2.1, Bit.length_pack]
  have hn' : n ≤ B.length + 7 := by omega
  have c0 : w.cell? ⟨g, 0, none⟩ = some (.slice A n c) := h1.cell 0
  have c0' : (w.alloc (Obj.cells (mk8 n) 5)).cell? ⟨g, 0, none⟩ = some (.slice A n c) := (h1.alloc _).cell 0
  have hmk := run_make8 (P := Tryz.prog) bytesT .i64 .i64 n (by omega)
  clear hn
  go_enter Tryz.func41, Tryz.ntmps41
  go_wp2_with (refine wpList_copy8 (o := ⟨some 17, _, _, _, _, _⟩) (by rfl) (.tmp 12) (.tmp 16) 23 5 (by rfl) bytesT w.heap.size n n (List.replicate n 0) (by rfl) (Own8.new w (mk8 n) 5 n _ (by simp) (toList_mk8 n) (by unfold maxLen; omega)) _ _ _ _ (Bit.pack B) (by rfl) (h2.alloc _).byt h2.1 (by rfl) ?_; intro w1 own1 grow1)
  go_ret
  exact ⟨some ⟨w.heap.size, 0, none⟩, n, n, rfl, own1, by simp [blkOf], Below.grown ((Below.refl _ _).alloc (Nat.le_refl _) _) grow1 (by simp) (by simp)⟩

/- Put -/

theorem put_nil (v n : Int) (w : World) : Calls Tryz.prog 66 #[.pointer none, .int .u64 v, .int .i64 n] w fun e w' => e = .returned (.int .i64 1) ∧ w = w' := by
  go_enter Tryz.func66, Tryz.ntmps66
  go_wp2
  go_ret
  exact ⟨rfl, rfl⟩
theorem put_bad (g : Nat) (v n : Int) (w : World) (h : n < 0 ∨ 64 < n) : Calls Tryz.prog 66 #[.pointer (some ⟨g, 0, none⟩), .int .u64 v, .int .i64 n] w fun e w' => e = .returned (.int .i64 1) ∧ w = w' := by
  by_cases h1 : n < 0
  · clear h
    go_enter Tryz.func66, Tryz.ntmps66
    go_wp2
    go_ret
    exact ⟨rfl, rfl⟩
  · have h2 : 64 < n := by omega
    clear h
    go_enter Tryz.func66, Tryz.ntmps66
    go_wp2
    go_ret
    exact ⟨rfl, rfl⟩
theorem put_wide (g : Nat) (v n : Nat) (w : World) (hn : n < 64) (h : 2 ^ n ≤ v) : Calls Tryz.prog 66 #[.pointer (some ⟨g, 0, none⟩), .int .u64 (v : Int), .int .i64 (n : Int)] w fun e w' => e = .returned (.int .i64 1) ∧ w = w' := by
  have h1 : ((v : Int) / 2 ^ n != 0) = true := by
    have e : (v : Int) / 2 ^ n = ((v / 2 ^ n : Nat) : Int) := by simp
    have : 0 < v / 2 ^ n := Nat.div_pos h (Nat.two_pow_pos n)
    rw [e]
    generalize v / 2 ^ n = q at *
    simp; omega
  have d1 : decide ((n : Int) < 0) = false := by simp
  have d2 : decide ((64 : Int) < (n : Int)) = false := by simp; omega
  have d3 : decide ((n : Int) < 64) = true := by simp; omega
  clear h
  go_enter Tryz.func66, Tryz.ntmps66
  go_wp2
  go_ret
  exact ⟨rfl, rfl⟩

theorem u8_orBit (x : UInt8) (v i k : Nat) (hv : v < 18446744073709551616) : ∃ y : UInt8, bits BinOp.or IntKind.u8 (x.toNat : Int) (bits BinOp.and IntKind.u64 ((v : Int) / 2 ^ i) 1 % 256 * 2 ^ (7 - k % 8) % 256) = (y.toNat : Int) ∧ Hid (y = Bit.orBit x (v.testBit i) (k % 8)) := by
  refine ⟨_, ?_, rfl⟩
  have hle : v / 2 ^ i ≤ v := Nat.div_le_self _ _
  have e := u64_and_nat (v / 2 ^ i) 1 (by omega) (by omega)
  rw [Nat.and_one_is_mod, show ((1 : Nat) : Int) = 1 from rfl, show ((v / 2 ^ i : Nat) : Int) = (v : Int) / 2 ^ i from by simp] at e
  have hb : v / 2 ^ i % 2 = (v.testBit i).toNat := by
    rw [Nat.testBit, Nat.shiftRight_eq_div_pow, Nat.one_and_eq_mod_two]
    rcases Nat.mod_two_eq_zero_or_one (v / 2 ^ i) with h | h <;> simp [h]
  rw [e, hb, Bit.orBit_toNat]
  have h1 : (v.testBit i).toNat ≤ 1 := Bool.toNat_le _
  have h2 : 2 ^ (7 - k % 8) ≤ 2 ^ 7 := Nat.pow_le_pow_right (by omega) (by omega)
  have h3 : (v.testBit i).toNat * 2 ^ (7 - k % 8) ≤ 1 * 2 ^ 7 := Nat.mul_le_mul h1 h2
  rw [← u8_or_nat x.toNat _ x.toNat_lt (by omega)]
  congr 1
  have e2 : (((v.testBit i).toNat : Nat) : Int) % 256 = (((v.testBit i).toNat : Nat) : Int) := by omega
  rw [e2]
  have e3 : (((v.testBit i).toNat * 2 ^ (7 - k % 8) : Nat) : Int) = (((v.testBit i).toNat : Nat) : Int) * 2 ^ (7 - k % 8) := by simp
  rw [← e3]
  omega
theorem take_digits (B : List Bool) (v n i j : Nat) (hn : n = i + 1 + j) : B ++ (Bit.digits v n).take (j + 1) = (B ++ (Bit.digits v n).take j) ++ [v.testBit i] := by
  subst hn
  have h : j < (Bit.digits v (i + 1 + j)).length := by rw [Bit.length_digits]; omega
  have e : (Bit.digits v (i + 1 + j))[j] = v.testBit i := by
    have := Bit.digits_at v (i + 1 + j) (i := j) (by omega)
    rw [List.getElem?_eq_getElem h] at this
    injection this with this
    rw [this, show i + 1 + j - 1 - j = i from by omega]
  rw [List.take_succ_eq_append_getElem h, e, List.append_assoc]

set_option maxRecDepth 100000 in
set_option maxHeartbeats 4000000 in
theorem put_calls (g : Nat) (R : Option Nat) (B : List Bool) (v n : Nat) (w : World) (h : WriterIs w g R B) (hB : B.length ≤ 1099511627776) (hn : n ≤ 64) (hv : v < 2 ^ n) :
    Calls Tryz.prog 66 #[.pointer (some ⟨g, 0, none⟩), .int .u64 (v : Int), .int .i64 (n : Int)] w
      fun e w' => e = .returned (.int .i64 0) ∧ ∃ R', WriterIs w' g R' (B ++ Bit.digits v n) ∧ Chg (Foot g R) w w' ∧ RowNew w.heap.size R R' := by
  have d1 : decide ((n : Int) < 0) = false := by simp
  have d2 : decide ((64 : Int) < (n : Int)) = false := by simp; omega
  have hv64 : v < 18446744073709551616 := Nat.lt_of_lt_of_le hv (Nat.pow_le_pow_right (n := 2) (by omega) hn)
  have hq : ((v : Int) / 2 ^ n != 0) = false := by
    have e : (v : Int) / 2 ^ n = ((v / 2 ^ n : Nat) : Int) := by simp
    rw [e, Nat.div_eq_of_lt hv]; rfl
  have HV := hide hv
  clear hv
  have hsplit : ∃ b, decide ((n : Int) < 64) = b := ⟨_, rfl⟩
  obtain ⟨bb, d3⟩ := hsplit
  cases bb
  · go_enter Tryz.func66, Tryz.ntmps66
    go_wp2
    go_loopw [7] (fun i wr => ∃ (j : Nat) (R' : Option Nat), j ≤ n ∧ i = .int .i64 ((n : Int) - 1 - (j : Int)) ∧ WriterIs wr g R' (B ++ (Bit.digits v n).take j) ∧ Chg (Foot g R) w wr ∧ RowNew w.heap.size R R') (fun i _ => (intOf i + 1).toNat)
    case atStart => exact ⟨0, R, by omega, by simp, by simpa using h, Chg.refl _ _, RowNew.refl _ _⟩
    case round =>
      obtain ⟨j, R', hj, rfl, hw, hc, hr⟩ := hrel
      by_cases hlt : j < n
      · have hlen : (B ++ (Bit.digits v n).take j).length = B.length + j := by rw [List.length_append, List.length_take, Bit.length_digits, Nat.min_eq_left hj]
        obtain ⟨i, HIJ⟩ : ∃ i, Hid (n = i + 1 + j) := ⟨n - 1 - j, by show n = _; omega⟩
        have hin : i < 64 := by have := HIJ.out; omega
        obtain ⟨A, nb, c, b1, o1, ra⟩ := hw
        rw [show ((n : Int) - 1 - (j : Int)) = (i : Int) from by have := HIJ.out; omega]
        generalize hBj : B ++ (Bit.digits v n).take j = Bj at *
        have hk : Bj.length ≤ 1099511627776 + 64 := by omega
        have HBJ := hide hBj
        have HLEN := hide hlen
        clear hBj hlen h hB
        have hnb : nb = (Bj.length + 7) / 8 := by rw [o1.1, Bit.length_pack]
        generalize hkk : Bj.length = k at *
        have HK := hide hkk
        clear hkk
        by_cases hk0 : k % 8 = 0
        · have HGR : Hid (Bit.grow Bj = Bit.pack Bj ++ [0]) := by unfold Bit.grow; rw [HK.out, if_pos hk0]; exact rfl
          have c0 : wr.cell? ⟨g, 0, none⟩ = some (.slice A nb c) := b1.cell 0
          have c1 : wr.cell? ⟨g, 1, none⟩ = some (.int .i64 (k : Int)) := b1.cell 1
          have hm : ((k : Int) % 8 == 0) = true := by simp; omega
          have hgl := b1.lt
          have hne0 : blkOf A ≠ some g := by have := own_blk_ne o1.2 b1 (by decide); rwa [ownBlock_slice] at this
          have HNE0 := hide hne0
          have hnb1 : nb ≤ k / 8 := by omega
          have hnb2 : k / 8 ≤ nb := by omega
          clear hnb hne0 hk0
          go_wp2_with (at_builtin; refine wpList_append8 (by rfl) (.tmp 44) (.tmp 45) 23 5 (by rfl) bytesT _ _ _ _ (by rfl) (o1.alloc _) _ _ _ _ [0] (by rfl) (Byt.new _ _ _ _ _ rfl) (by rfl) (by simp; omega) ?_; intro A2 c2 w2 own2 grow2 at2; have b2 := (b1.alloc _).grown grow2 (Ne.symm HNE0.out); have k0 := b2.cell 0; have k1 := b2.frozen 0)
          have hz := hc.size
          have b3 := b2.set_ 0 (.slice A2 (nb + 1) c2)
          have hne2 : blkOf A2 ≠ some g := by
            rcases at2 with e | e
            · rw [e]; exact HNE0.out
            · rw [e]; simp; omega
          have o3 := own2.setFar (p := ⟨g, 0, none⟩) hne2 (.slice A2 (nb + 1) c2)
          have hrA : RowNew w.heap.size R (blkOf A) := by rw [ra]; exact hr
          have hr3 : RowNew w.heap.size R (blkOf A2) := by
            rcases at2 with e | e
            · rw [e]; exact hrA
            · exact .inr ⟨_, e, by simp; omega⟩
          have hc3 : Chg (Foot g R) w (w2.setCell ⟨g, 0, none⟩ (.slice A2 (nb + 1) c2)) := by
            refine Chg.setCell ?_ (.inl (.inl rfl)) _
            refine Chg.grown (hc.alloc _) grow2 (fun r e => ?_)
            rcases hrA with e' | ⟨r', e', hge⟩
            · exact .inl (.inr (by rw [← e']; exact e))
            · rw [e] at e'; injection e' with e'; exact .inr (by omega)
          rw [← HGR.out] at o3
          have b3 : Blk (w2.setCell ⟨g, 0, none⟩ (.slice A2 (nb + 1) c2)) g 175 #[.slice A2 (nb + 1) c2, .int .i64 (k : Int)] := by simpa using b3
          clear b1 b2 o1 own2 grow2 at2 hc hr ra hrA c0 c1 k0 k1 hne2
          generalize w2.setCell ⟨g, 0, none⟩ (.slice A2 (nb + 1) c2) = W0 at *
          generalize hnb3 : nb + 1 = nb3 at *
          have hnb4 : k / 8 < nb3 := by omega
          clear hnb3 hnb1 hnb2
          obtain ⟨c3, rfl⟩ : ∃ c3, c3 = c2 := ⟨_, rfl⟩
          obtain ⟨gr, x, rfl, hx, cx, fx⟩ := o3.at_ (k := k / 8) (by omega)
          have hne : gr ≠ g := by have := own_blk_ne o3.2 b3 (by decide); intro e; subst e; exact this (by rw [ownBlock_slice]; rfl)
          have HX : Hid (Bit.byteAt Bj (k / 8) = x) := by
            have := Bit.grow_at Bj
            rw [HK.out, hx] at this
            injection this with this
            exact this.symm
          clear hx
          obtain ⟨y, hy, HY⟩ := u8_orBit x v i k hv64
          have c0 : W0.cell? ⟨g, 0, none⟩ = some (.slice (some ⟨gr, 0, none⟩) nb3 c3) := b3.cell 0
          have c1 : W0.cell? ⟨g, 1, none⟩ = some (.int .i64 (k : Int)) := b3.cell 1
          have e3 : (0 : Int) ≤ (k : Int) / 8 := by omega
          have e4 : (k : Int) / 8 < (nb3 : Int) := by omega
          go_region
          have HPS : Hid ((Bit.grow Bj).set (k / 8) y = Bit.pack (Bj ++ [v.testBit i])) := by
            rw [Bit.pack_snoc, HK.out, HX.out, HY.out]; exact rfl
          have o4 := o3.set (k := k / 8) rfl y
          rw [HPS.out] at o4
          have o4 := o4.drew
          have b4 := (b3.far (p := ⟨gr, k / 8, none⟩) (Ne.symm hne) (.int .u8 (y.toNat : Int))).drew
          have hc4 := (hc3.setCell (p := ⟨gr, k / 8, none⟩) (by
            rcases hr3 with e | ⟨r, e, hge⟩
            · exact .inl (.inr (by rw [← e]; rfl))
            · simp [blkOf] at e; exact .inr (by simp; omega)) (.int .u8 (y.toNat : Int))).drew
          clear o3 b3 hc3 cx fx c0 c1 hy
          generalize (W0.setCell ⟨gr, k / 8, none⟩ (.int .u8 (y.toNat : Int))).drew = W1 at *
          have c1 : W1.cell? ⟨g, 1, none⟩ = some (.int .i64 (k : Int)) := b4.cell 1
          have f1 := b4.frozen 1
          go_wp2
          have b5 := b4.set_ 1 (.int .i64 ((k : Int) + 1))
          have o5 := o4.setFar (p := ⟨g, 1, none⟩) (by simp [blkOf]; exact hne) (.int .i64 ((k : Int) + 1))
          have hc5 := hc4.setCell (p := ⟨g, 1, none⟩) (.inl (.inl rfl)) (.int .i64 ((k : Int) + 1))
          go_roundw
          case rel =>
            refine ⟨j + 1, some gr, by omega, ?_, ?_, hc5, hr3⟩
            · rw [show ((n : Int) - 1 - ((j + 1 : Nat) : Int)) = (i : Int) - 1 from by have := HIJ.out; omega]
            rw [take_digits B v n i j HIJ.out, HBJ.out]
            refine ⟨some ⟨gr, 0, none⟩, nb3, c3, ?_, o5, rfl⟩
            rw [List.length_append, HK.out, List.length_singleton, Int.natCast_add]
            simpa using b5
          case measure => simp [intOf]
        · have HGR : Hid (Bit.grow Bj = Bit.pack Bj) := by unfold Bit.grow; rw [HK.out, if_neg hk0]; exact rfl
          have c1' : wr.cell? ⟨g, 1, none⟩ = some (.int .i64 (k : Int)) := b1.cell 1
          have hm : ((k : Int) % 8 == 0) = false := by simp; omega
          have hnb4 : k / 8 < nb := by omega
          clear hnb
          go_wp2
          obtain ⟨W0, rfl⟩ : ∃ W0, W0 = wr := ⟨_, rfl⟩
          have o3 := o1
          rw [← HGR.out] at o3
          have b3 := b1
          have hc3 := hc
          have hr3 : RowNew w.heap.size R (blkOf A) := by rw [ra]; exact hr
          clear b1 o1 hc hr ra c1'
          obtain ⟨nb3, rfl⟩ : ∃ nb3, nb3 = nb := ⟨_, rfl⟩
          obtain ⟨c3, rfl⟩ : ∃ c3, c3 = c := ⟨_, rfl⟩
          obtain ⟨gr, x, rfl, hx, cx, fx⟩ := o3.at_ (k := k / 8) (by omega)
          have hne : gr ≠ g := by have := own_blk_ne o3.2 b3 (by decide); intro e; subst e; exact this (by rw [ownBlock_slice]; rfl)
          have HX : Hid (Bit.byteAt Bj (k / 8) = x) := by
            have := Bit.grow_at Bj
            rw [HK.out, hx] at this
            injection this with this
            exact this.symm
          clear hx
          obtain ⟨y, hy, HY⟩ := u8_orBit x v i k hv64
          have c0 : W0.cell? ⟨g, 0, none⟩ = some (.slice (some ⟨gr, 0, none⟩) nb3 c3) := b3.cell 0
          have c1 : W0.cell? ⟨g, 1, none⟩ = some (.int .i64 (k : Int)) := b3.cell 1
          have e3 : (0 : Int) ≤ (k : Int) / 8 := by omega
          have e4 : (k : Int) / 8 < (nb3 : Int) := by omega
          go_region
          have HPS : Hid ((Bit.grow Bj).set (k / 8) y = Bit.pack (Bj ++ [v.testBit i])) := by
            rw [Bit.pack_snoc, HK.out, HX.out, HY.out]; exact rfl
          have o4 := o3.set (k := k / 8) rfl y
          rw [HPS.out] at o4
          have o4 := o4.drew
          have b4 := (b3.far (p := ⟨gr, k / 8, none⟩) (Ne.symm hne) (.int .u8 (y.toNat : Int))).drew
          have hc4 := (hc3.setCell (p := ⟨gr, k / 8, none⟩) (by
            rcases hr3 with e | ⟨r, e, hge⟩
            · exact .inl (.inr (by rw [← e]; rfl))
            · simp [blkOf] at e; exact .inr (by simp; omega)) (.int .u8 (y.toNat : Int))).drew
          clear o3 b3 hc3 cx fx c0 c1 hy
          generalize (W0.setCell ⟨gr, k / 8, none⟩ (.int .u8 (y.toNat : Int))).drew = W1 at *
          have c1 : W1.cell? ⟨g, 1, none⟩ = some (.int .i64 (k : Int)) := b4.cell 1
          have f1 := b4.frozen 1
          go_wp2
          have b5 := b4.set_ 1 (.int .i64 ((k : Int) + 1))
          have o5 := o4.setFar (p := ⟨g, 1, none⟩) (by simp [blkOf]; exact hne) (.int .i64 ((k : Int) + 1))
          have hc5 := hc4.setCell (p := ⟨g, 1, none⟩) (.inl (.inl rfl)) (.int .i64 ((k : Int) + 1))
          go_roundw
          case rel =>
            refine ⟨j + 1, some gr, by omega, ?_, ?_, hc5, hr3⟩
            · rw [show ((n : Int) - 1 - ((j + 1 : Nat) : Int)) = (i : Int) - 1 from by have := HIJ.out; omega]
            rw [take_digits B v n i j HIJ.out, HBJ.out]
            refine ⟨some ⟨gr, 0, none⟩, nb3, c3, ?_, o5, rfl⟩
            rw [List.length_append, HK.out, List.length_singleton, Int.natCast_add]
            simpa using b5
          case measure => simp [intOf]
      · obtain rfl : j = n := by omega
        have e : (Bit.digits v j).take j = Bit.digits v j := List.take_of_length_le (by rw [Bit.length_digits]; omega)
        rw [e] at hw
        rw [show ((j : Int) - 1 - (j : Int)) = -1 from by omega]
        clear e
        go_wp2
        go_ret
        exact ⟨rfl, R', hw, hc, hr⟩
  · go_enter Tryz.func66, Tryz.ntmps66
    go_wp2
    go_loopw [7] (fun i wr => ∃ (j : Nat) (R' : Option Nat), j ≤ n ∧ i = .int .i64 ((n : Int) - 1 - (j : Int)) ∧ WriterIs wr g R' (B ++ (Bit.digits v n).take j) ∧ Chg (Foot g R) w wr ∧ RowNew w.heap.size R R') (fun i _ => (intOf i + 1).toNat)
    case atStart => exact ⟨0, R, by omega, by simp, by simpa using h, Chg.refl _ _, RowNew.refl _ _⟩
    case round =>
      obtain ⟨j, R', hj, rfl, hw, hc, hr⟩ := hrel
      by_cases hlt : j < n
      · have hlen : (B ++ (Bit.digits v n).take j).length = B.length + j := by rw [List.length_append, List.length_take, Bit.length_digits, Nat.min_eq_left hj]
        obtain ⟨i, HIJ⟩ : ∃ i, Hid (n = i + 1 + j) := ⟨n - 1 - j, by show n = _; omega⟩
        have hin : i < 64 := by have := HIJ.out; omega
        obtain ⟨A, nb, c, b1, o1, ra⟩ := hw
        rw [show ((n : Int) - 1 - (j : Int)) = (i : Int) from by have := HIJ.out; omega]
        generalize hBj : B ++ (Bit.digits v n).take j = Bj at *
        have hk : Bj.length ≤ 1099511627776 + 64 := by omega
        have HBJ := hide hBj
        have HLEN := hide hlen
        clear hBj hlen h hB
        have hnb : nb = (Bj.length + 7) / 8 := by rw [o1.1, Bit.length_pack]
        generalize hkk : Bj.length = k at *
        have HK := hide hkk
        clear hkk
        by_cases hk0 : k % 8 = 0
        · have HGR : Hid (Bit.grow Bj = Bit.pack Bj ++ [0]) := by unfold Bit.grow; rw [HK.out, if_pos hk0]; exact rfl
          have c0 : wr.cell? ⟨g, 0, none⟩ = some (.slice A nb c) := b1.cell 0
          have c1 : wr.cell? ⟨g, 1, none⟩ = some (.int .i64 (k : Int)) := b1.cell 1
          have hm : ((k : Int) % 8 == 0) = true := by simp; omega
          have hgl := b1.lt
          have hne0 : blkOf A ≠ some g := by have := own_blk_ne o1.2 b1 (by decide); rwa [ownBlock_slice] at this
          have HNE0 := hide hne0
          have hnb1 : nb ≤ k / 8 := by omega
          have hnb2 : k / 8 ≤ nb := by omega
          clear hnb hne0 hk0
          go_wp2_with (at_builtin; refine wpList_append8 (by rfl) (.tmp 44) (.tmp 45) 23 5 (by rfl) bytesT _ _ _ _ (by rfl) (o1.alloc _) _ _ _ _ [0] (by rfl) (Byt.new _ _ _ _ _ rfl) (by rfl) (by simp; omega) ?_; intro A2 c2 w2 own2 grow2 at2; have b2 := (b1.alloc _).grown grow2 (Ne.symm HNE0.out); have k0 := b2.cell 0; have k1 := b2.frozen 0)
          have hz := hc.size
          have b3 := b2.set_ 0 (.slice A2 (nb + 1) c2)
          have hne2 : blkOf A2 ≠ some g := by
            rcases at2 with e | e
            · rw [e]; exact HNE0.out
            · rw [e]; simp; omega
          have o3 := own2.setFar (p := ⟨g, 0, none⟩) hne2 (.slice A2 (nb + 1) c2)
          have hrA : RowNew w.heap.size R (blkOf A) := by rw [ra]; exact hr
          have hr3 : RowNew w.heap.size R (blkOf A2) := by
            rcases at2 with e | e
            · rw [e]; exact hrA
            · exact .inr ⟨_, e, by simp; omega⟩
          have hc3 : Chg (Foot g R) w (w2.setCell ⟨g, 0, none⟩ (.slice A2 (nb + 1) c2)) := by
            refine Chg.setCell ?_ (.inl (.inl rfl)) _
            refine Chg.grown (hc.alloc _) grow2 (fun r e => ?_)
            rcases hrA with e' | ⟨r', e', hge⟩
            · exact .inl (.inr (by rw [← e']; exact e))
            · rw [e] at e'; injection e' with e'; exact .inr (by omega)
          rw [← HGR.out] at o3
          have b3 : Blk (w2.setCell ⟨g, 0, none⟩ (.slice A2 (nb + 1) c2)) g 175 #[.slice A2 (nb + 1) c2, .int .i64 (k : Int)] := by simpa using b3
          clear b1 b2 o1 own2 grow2 at2 hc hr ra hrA c0 c1 k0 k1 hne2
          generalize w2.setCell ⟨g, 0, none⟩ (.slice A2 (nb + 1) c2) = W0 at *
          generalize hnb3 : nb + 1 = nb3 at *
          have hnb4 : k / 8 < nb3 := by omega
          clear hnb3 hnb1 hnb2
          obtain ⟨c3, rfl⟩ : ∃ c3, c3 = c2 := ⟨_, rfl⟩
          obtain ⟨gr, x, rfl, hx, cx, fx⟩ := o3.at_ (k := k / 8) (by omega)
          have hne : gr ≠ g := by have := own_blk_ne o3.2 b3 (by decide); intro e; subst e; exact this (by rw [ownBlock_slice]; rfl)
          have HX : Hid (Bit.byteAt Bj (k / 8) = x) := by
            have := Bit.grow_at Bj
            rw [HK.out, hx] at this
            injection this with this
            exact this.symm
          clear hx
          obtain ⟨y, hy, HY⟩ := u8_orBit x v i k hv64
          have c0 : W0.cell? ⟨g, 0, none⟩ = some (.slice (some ⟨gr, 0, none⟩) nb3 c3) := b3.cell 0
          have c1 : W0.cell? ⟨g, 1, none⟩ = some (.int .i64 (k : Int)) := b3.cell 1
          have e3 : (0 : Int) ≤ (k : Int) / 8 := by omega
          have e4 : (k : Int) / 8 < (nb3 : Int) := by omega
          go_region
          have HPS : Hid ((Bit.grow Bj).set (k / 8) y = Bit.pack (Bj ++ [v.testBit i])) := by
            rw [Bit.pack_snoc, HK.out, HX.out, HY.out]; exact rfl
          have o4 := o3.set (k := k / 8) rfl y
          rw [HPS.out] at o4
          have o4 := o4.drew
          have b4 := (b3.far (p := ⟨gr, k / 8, none⟩) (Ne.symm hne) (.int .u8 (y.toNat : Int))).drew
          have hc4 := (hc3.setCell (p := ⟨gr, k / 8, none⟩) (by
            rcases hr3 with e | ⟨r, e, hge⟩
            · exact .inl (.inr (by rw [← e]; rfl))
            · simp [blkOf] at e; exact .inr (by simp; omega)) (.int .u8 (y.toNat : Int))).drew
          clear o3 b3 hc3 cx fx c0 c1 hy
          generalize (W0.setCell ⟨gr, k / 8, none⟩ (.int .u8 (y.toNat : Int))).drew = W1 at *
          have c1 : W1.cell? ⟨g, 1, none⟩ = some (.int .i64 (k : Int)) := b4.cell 1
          have f1 := b4.frozen 1
          go_wp2
          have b5 := b4.set_ 1 (.int .i64 ((k : Int) + 1))
          have o5 := o4.setFar (p := ⟨g, 1, none⟩) (by simp [blkOf]; exact hne) (.int .i64 ((k : Int) + 1))
          have hc5 := hc4.setCell (p := ⟨g, 1, none⟩) (.inl (.inl rfl)) (.int .i64 ((k : Int) + 1))
          go_roundw
          case rel =>
            refine ⟨j + 1, some gr, by omega, ?_, ?_, hc5, hr3⟩
            · rw [show ((n : Int) - 1 - ((j + 1 : Nat) : Int)) = (i : Int) - 1 from by have := HIJ.out; omega]
            rw [take_digits B v n i j HIJ.out, HBJ.out]
            refine ⟨some ⟨gr, 0, none⟩, nb3, c3, ?_, o5, rfl⟩
            rw [List.length_append, HK.out, List.length_singleton, Int.natCast_add]
            simpa using b5
          case measure => simp [intOf]
        · have HGR : Hid (Bit.grow Bj = Bit.pack Bj) := by unfold Bit.grow; rw [HK.out, if_neg hk0]; exact rfl
          have c1' : wr.cell? ⟨g, 1, none⟩ = some (.int .i64 (k : Int)) := b1.cell 1
          have hm : ((k : Int) % 8 == 0) = false := by simp; omega
          have hnb4 : k / 8 < nb := by omega
          clear hnb
          go_wp2
          obtain ⟨W0, rfl⟩ : ∃ W0, W0 = wr := ⟨_, rfl⟩
          have o3 := o1
          rw [← HGR.out] at o3
          have b3 := b1
          have hc3 := hc
          have hr3 : RowNew w.heap.size R (blkOf A) := by rw [ra]; exact hr
          clear b1 o1 hc hr ra c1'
          obtain ⟨nb3, rfl⟩ : ∃ nb3, nb3 = nb := ⟨_, rfl⟩
          obtain ⟨c3, rfl⟩ : ∃ c3, c3 = c := ⟨_, rfl⟩
          obtain ⟨gr, x, rfl, hx, cx, fx⟩ := o3.at_ (k := k / 8) (by omega)
          have hne : gr ≠ g := by have := own_blk_ne o3.2 b3 (by decide); intro e; subst e; exact this (by rw [ownBlock_slice]; rfl)
          have HX : Hid (Bit.byteAt Bj (k / 8) = x) := by
            have := Bit.grow_at Bj
            rw [HK.out, hx] at this
            injection this with this
            exact this.symm
          clear hx
          obtain ⟨y, hy, HY⟩ := u8_orBit x v i k hv64
          have c0 : W0.cell? ⟨g, 0, none⟩ = some (.slice (some ⟨gr, 0, none⟩) nb3 c3) := b3.cell 0
          have c1 : W0.cell? ⟨g, 1, none⟩ = some (.int .i64 (k : Int)) := b3.cell 1
          have e3 : (0 : Int) ≤ (k : Int) / 8 := by omega
          have e4 : (k : Int) / 8 < (nb3 : Int) := by omega
          go_region
          have HPS : Hid ((Bit.grow Bj).set (k / 8) y = Bit.pack (Bj ++ [v.testBit i])) := by
            rw [Bit.pack_snoc, HK.out, HX.out, HY.out]; exact rfl
          have o4 := o3.set (k := k / 8) rfl y
          rw [HPS.out] at o4
          have o4 := o4.drew
          have b4 := (b3.far (p := ⟨gr, k / 8, none⟩) (Ne.symm hne) (.int .u8 (y.toNat : Int))).drew
          have hc4 := (hc3.setCell (p := ⟨gr, k / 8, none⟩) (by
            rcases hr3 with e | ⟨r, e, hge⟩
            · exact .inl (.inr (by rw [← e]; rfl))
            · simp [blkOf] at e; exact .inr (by simp; omega)) (.int .u8 (y.toNat : Int))).drew
          clear o3 b3 hc3 cx fx c0 c1 hy
          generalize (W0.setCell ⟨gr, k / 8, none⟩ (.int .u8 (y.toNat : Int))).drew = W1 at *
          have c1 : W1.cell? ⟨g, 1, none⟩ = some (.int .i64 (k : Int)) := b4.cell 1
          have f1 := b4.frozen 1
          go_wp2
          have b5 := b4.set_ 1 (.int .i64 ((k : Int) + 1))
          have o5 := o4.setFar (p := ⟨g, 1, none⟩) (by simp [blkOf]; exact hne) (.int .i64 ((k : Int) + 1))
          have hc5 := hc4.setCell (p := ⟨g, 1, none⟩) (.inl (.inl rfl)) (.int .i64 ((k : Int) + 1))
          go_roundw
          case rel =>
            refine ⟨j + 1, some gr, by omega, ?_, ?_, hc5, hr3⟩
            · rw [show ((n : Int) - 1 - ((j + 1 : Nat) : Int)) = (i : Int) - 1 from by have := HIJ.out; omega]
            rw [take_digits B v n i j HIJ.out, HBJ.out]
            refine ⟨some ⟨gr, 0, none⟩, nb3, c3, ?_, o5, rfl⟩
            rw [List.length_append, HK.out, List.length_singleton, Int.natCast_add]
            simpa using b5
          case measure => simp [intOf]
      · obtain rfl : j = n := by omega
        have e : (Bit.digits v j).take j = Bit.digits v j := List.take_of_length_le (by rw [Bit.length_digits]; omega)
        rw [e] at hw
        rw [show ((j : Int) - 1 - (j : Int)) = -1 from by omega]
        clear e
        go_wp2
        go_ret
        exact ⟨rfl, R', hw, hc, hr⟩
end Go.Proofs.YtbfhpgpceakeiaaGreatDoor
namespace Go.Proofs.YtbfhpgpceakeiaaGreatDoor
open Go.RowKit Kin

/-- at block g lies a reader of the bytes l (in block r), at a bit -/
def ReaderIs (w : World) (g r : Nat) (l : List UInt8) (k : Nat) : Prop :=
  Blk w g 180 #[.slice (some ⟨r, 0, none⟩) l.length l.length, .int .i64 (k : Int)] ∧ Own8 w 5 (some ⟨r, 0, none⟩) l.length l.length l ∧ k ≤ 8 * l.length ∧ l.length ≤ 1099511627776
theorem ReaderIs.lt {w : World} {g r : Nat} {l : List UInt8} {k : Nat} (h : ReaderIs w g r l k) : g < w.heap.size := h.1.lt
theorem ReaderIs.rlt {w : World} {g r : Nat} {l : List UInt8} {k : Nat} (h : ReaderIs w g r l k) : r < w.heap.size := h.2.1.lt r rfl
theorem ReaderIs.ne {w : World} {g r : Nat} {l : List UInt8} {k : Nat} (h : ReaderIs w g r l k) : r ≠ g := by
  have := own_blk_ne h.2.1.2 h.1 (by decide)
  intro e
  subst e
  exact this (by rw [ownBlock_slice]; rfl)
theorem ReaderIs.keep {S : Nat → Prop} {w w' : World} {g r : Nat} {l : List UInt8} {k : Nat} (h : ReaderIs w g r l k) (hc : Chg S w w') (h1 : ¬ S g) (h2 : ¬ S r) : ReaderIs w' g r l k :=
  ⟨hc.blk h.1 h1, hc.own h.2.1 (fun i hi => by injection hi with hi; subst hi; exact h2), h.2.2⟩
theorem ReaderIs.below {w w' : World} {g r : Nat} {l : List UInt8} {k : Nat} (h : ReaderIs w g r l k) (hc : Below w.heap.size w w') : ReaderIs w' g r l k :=
  h.keep (S := fun _ => False) (Chg.of_below hc) (fun e => e) (fun e => e)
/-- only the reader's own block has changed -/
def One (g k : Nat) : Prop := k = g

theorem newReader_zero : (Tryz.prog.info? 180).map (fun i => (i.zero, i.size)) = some (some (.agg #[.slice none 0 0, .int .i64 0]), 2) := by kernel_rfl
/-- a new reader -/
def RetReader (w : World) (l : List UInt8) (e : Ending) (w' : World) : Prop := e = .returned (.pointer (some ⟨w.heap.size + 1, 0, none⟩)) ∧ ReaderIs w' (w.heap.size + 1) w.heap.size l 0 ∧ Below w.heap.size w w'
set_option maxRecDepth 100000 in
theorem open_calls (A : Option Addr) (n c : Nat) (l : List UInt8) (w : World) (hn : n = l.length) (hm : n ≤ 1099511627776) {B : Nat} (hA0 : Byt w B A l) :
    Calls Tryz.prog 48 #[.slice A n c] w (RetReader w l) := by
  have hA := hA0.here
  clear hA0
  have hz := (zero_of_info newReader_zero).1
  have HN := hide hn
  have hmk := run_make8 (P := Tryz.prog) bytesT .i64 .i64 n (by omega)
  clear hn
  have hA2 : Byt ((w.alloc (Obj.cells (mk8 n) 5)).alloc (Obj.cells #[.slice (some ⟨w.heap.size, 0, none⟩) n n, .int .i64 0] 180)) w.heap.size A l := hA.below (((Below.refl _ _).alloc (Nat.le_refl _) _).alloc (by simp) _)
  have o2 := (Own8.new w (mk8 n) 5 n _ (by simp) (toList_mk8 n) (by unfold maxLen; omega)).alloc (Obj.cells #[.slice (some ⟨w.heap.size, 0, none⟩) n n, .int .i64 0] 180)
  go_enter Tryz.func48, Tryz.ntmps48
  go_wp2_with (refine wpList_copy8 (o := ⟨some 14, _, _, _, _, _⟩) (by rfl) (.tmp 12) (.tmp 13) 23 5 (by rfl) bytesT w.heap.size n n _ (by rfl) o2 _ _ _ _ l (by rfl) hA2 HN.out (by rfl) ?_; intro w1 own1 grow1)
  go_ret
  refine ⟨rfl, ⟨?_, ?_, Nat.zero_le _, by rw [← HN.out]; exact hm⟩, Below.grown (((Below.refl _ _).alloc (Nat.le_refl _) _).alloc (by simp) _) grow1 (by simp; omega) (by simp)⟩
  · rw [← HN.out]
    have := Blk.new (w.alloc (Obj.cells (mk8 n) 5)) 180 #[.slice (some ⟨w.heap.size, 0, none⟩) n n, .int .i64 0]
    rw [World.size_alloc] at this
    exact this.grown grow1 (by simp)
  · rw [← HN.out]; exact own1

theorem left_nil (w : World) : Calls Tryz.prog 94 #[.pointer none] w fun e w' => e = .returned (.int .i64 0) ∧ w = w' := by
  go_enter Tryz.func94, Tryz.ntmps94
  go_wp2
  go_ret
  exact ⟨rfl, rfl⟩
theorem left_calls (g r : Nat) (l : List UInt8) (k : Nat) (w : World) (h : ReaderIs w g r l k) :
    Calls Tryz.prog 94 #[.pointer (some ⟨g, 0, none⟩)] w fun e w' => e = .returned (.int .i64 (8 * (l.length : Int) - (k : Int))) ∧ w.drew = w' := by
  have c0 : w.cell? ⟨g, 0, none⟩ = some (.slice (some ⟨r, 0, none⟩) l.length l.length) := h.1.cell 0
  have c1 : w.cell? ⟨g, 1, none⟩ = some (.int .i64 (k : Int)) := h.1.cell 1
  have hk := h.2.2.1
  have hl := h.2.2.2
  have e1 : IntKind.i64.wrap (8 * (l.length : Int)) = 8 * (l.length : Int) := by rw [IntKind.wrap_i64]; omega
  have e2 : IntKind.i64.wrap (8 * (l.length : Int) - (k : Int)) = 8 * (l.length : Int) - (k : Int) := by rw [IntKind.wrap_i64]; omega
  clear h
  go_enter Tryz.func94, Tryz.ntmps94
  go_wp2
  go_region
  go_wp2
  go_ret
  exact ⟨rfl, rfl⟩

/- Get -/

theorem get_nil (n : Int) (w : World) : Calls Tryz.prog 70 #[.pointer none, .int .i64 n] w fun e w' => e = .returned (.tuple #[.int .u64 0, .int .i64 1]) ∧ w = w' := by
  go_enter Tryz.func70, Tryz.ntmps70
  go_wp2
  go_ret2
  exact ⟨rfl, rfl⟩
theorem get_bad (g : Nat) (n : Int) (w : World) (h : n < 0 ∨ 64 < n) : Calls Tryz.prog 70 #[.pointer (some ⟨g, 0, none⟩), .int .i64 n] w fun e w' => e = .returned (.tuple #[.int .u64 0, .int .i64 1]) ∧ w = w' := by
  by_cases h1 : n < 0
  · clear h
    go_enter Tryz.func70, Tryz.ntmps70
    go_wp2
    go_ret2
    exact ⟨rfl, rfl⟩
  · have h2 : 64 < n := by omega
    clear h
    go_enter Tryz.func70, Tryz.ntmps70
    go_wp2
    go_ret2
    exact ⟨rfl, rfl⟩
theorem get_short (g r : Nat) (l : List UInt8) (k n : Nat) (w : World) (h : ReaderIs w g r l k) (hn : n ≤ 64) (hs : 8 * l.length < k + n) :
    Calls Tryz.prog 70 #[.pointer (some ⟨g, 0, none⟩), .int .i64 (n : Int)] w fun e w' => e = .returned (.tuple #[.int .u64 0, .int .i64 11]) ∧ Below w.heap.size w w' := by
  have hk := h.2.2.1
  have hl := h.2.2.2
  go_enter Tryz.func70, Tryz.ntmps70
  go_wp2_with (go_at_call 94; refine (left_calls g r l k _ h).mono ?_; rintro e w1 ⟨rfl, rfl⟩)
  go_ret2
  exact ⟨rfl, (Below.refl _ _).drew⟩

theorem u64_getBit (v : Nat) (x : UInt8) (q : Nat) (hv : v < 9223372036854775808) : ∃ y : Nat, bits BinOp.or IntKind.u64 ((v : Int) * 2) (IntKind.u64.wrap (bits BinOp.and IntKind.u8 ((x.toNat : Int) / 2 ^ q) 1)) = (y : Int) ∧ Hid (y = 2 * v + (x.toNat.testBit q).toNat) := by
  refine ⟨_, ?_, rfl⟩
  have hle : x.toNat / 2 ^ q ≤ x.toNat := Nat.div_le_self _ _
  have hx := x.toNat_lt
  have e := u8_and_nat (x.toNat / 2 ^ q) 1 (by omega) (by omega)
  rw [Nat.and_one_is_mod, show ((1 : Nat) : Int) = 1 from rfl, show ((x.toNat / 2 ^ q : Nat) : Int) = (x.toNat : Int) / 2 ^ q from by simp] at e
  have hb : x.toNat / 2 ^ q % 2 = (x.toNat.testBit q).toNat := by
    rw [Nat.testBit, Nat.shiftRight_eq_div_pow, Nat.one_and_eq_mod_two]
    rcases Nat.mod_two_eq_zero_or_one (x.toNat / 2 ^ q) with h | h <;> simp [h]
  rw [e, hb]
  have h1 : (x.toNat.testBit q).toNat ≤ 1 := Bool.toNat_le _
  generalize (x.toNat.testBit q).toNat = b at *
  have ew : IntKind.u64.wrap (b : Int) = (b : Int) := by rw [IntKind.wrap_u64]; omega
  rw [ew]
  have e2 := u64_or_nat (2 * v) b (by omega) (by omega)
  rw [show ((2 * v : Nat) : Int) = (v : Int) * 2 from by omega] at e2
  rw [e2]
  congr 1
  have h3 := Nat.two_pow_add_eq_or_of_lt (i := 1) (b := b) (by omega) v
  rw [show (2 : Nat) ^ 1 = 2 from rfl] at h3
  exact h3.symm

set_option maxRecDepth 100000 in
set_option maxHeartbeats 1000000 in
theorem get_calls (g r : Nat) (l : List UInt8) (k n : Nat) (w : World) (h : ReaderIs w g r l k) (hn : n ≤ 64) (hs : k + n ≤ 8 * l.length) :
    Calls Tryz.prog 70 #[.pointer (some ⟨g, 0, none⟩), .int .i64 (n : Int)] w fun e w' => e = .returned (.tuple #[.int .u64 (Bit.get l k n : Int), .int .i64 0]) ∧ ReaderIs w' g r l (k + n) ∧ Chg (One g) w w' := by
  have hl := h.2.2.2
  have d1 : decide ((n : Int) < 0) = false := by simp
  have d2 : decide ((64 : Int) < (n : Int)) = false := by simp; omega
  have d3 : decide (8 * (l.length : Int) - (k : Int) < (n : Int)) = false := by simp; omega
  go_enter Tryz.func70, Tryz.ntmps70
  go_wp2_with (go_at_call 94; refine (left_calls g r l k _ h).mono ?_; rintro e w1 ⟨rfl, rfl⟩)
  go_loopw [6, 22] (fun v i wr => ∃ j : Nat, j ≤ n ∧ i = .int .i64 j ∧ v = .int .u64 (Bit.get l k j : Int) ∧ ReaderIs wr g r l (k + j) ∧ Chg (One g) w wr) (fun _ i _ => n - (intOf i).toNat)
  case atStart => exact ⟨0, by omega, rfl, by rw [Bit.get_zero]; rfl, h.below (Below.refl _ _).drew, (Chg.refl _ _).drew⟩
  case round =>
    obtain ⟨j, hj, rfl, rfl, hr, hc⟩ := hrel
    clear h
    by_cases hlt : j < n
    · obtain ⟨m, hm⟩ : ∃ m, m = k + j := ⟨_, rfl⟩
      have hm8 : m < 8 * l.length := by omega
      rw [← hm] at hr
      have HM := hide hm
      clear hm
      have c0 : wr.cell? ⟨g, 0, none⟩ = some (.slice (some ⟨r, 0, none⟩) l.length l.length) := hr.1.cell 0
      have c1 : wr.cell? ⟨g, 1, none⟩ = some (.int .i64 (m : Int)) := hr.1.cell 1
      obtain ⟨r', x, hrr, hx, cx, fx⟩ := hr.2.1.at_ (k := m / 8) (by omega)
      injection hrr with hrr
      injection hrr with hrr
      subst hrr
      have HX : Hid (Bit.rbit l m = x.toNat.testBit (7 - m % 8)) := by
        unfold Bit.rbit
        rw [List.getD, hx]; exact rfl
      clear hx
      have hgl := Bit.get_lt l k j
      have hp : 2 ^ j ≤ 2 ^ 63 := Nat.pow_le_pow_right (by omega) (by omega)
      have HG := hide (Bit.get_succ l k j)
      generalize Bit.get l k j = v at *
      have hv : v < 9223372036854775808 := by omega
      have e3 : (0 : Int) ≤ (m : Int) / 8 := by omega
      have e4 : (m : Int) / 8 < (l.length : Int) := by omega
      clear hgl hp
      obtain ⟨y, hy, HY⟩ := u64_getBit v x (7 - m % 8) hv
      go_wp2
      go_region
      have hr1 := hr.below (Below.refl _ _).drew
      have hc1 := hc.drew
      clear hr hc c0 c1 cx fx hy
      generalize wr.drew = W1 at *
      have c1 : W1.cell? ⟨g, 1, none⟩ = some (.int .i64 (m : Int)) := hr1.1.cell 1
      have f1 := hr1.1.frozen 1
      go_wp2
      have hb2 := hr1.1.set_ 1 (.int .i64 ((m : Int) + 1))
      have ho2 := hr1.2.1.setFar (p := ⟨g, 1, none⟩) (by have := hr1.ne; simp [blkOf]; exact this) (.int .i64 ((m : Int) + 1))
      have hc2 := hc1.setCell (p := ⟨g, 1, none⟩) (.inl rfl) (.int .i64 ((m : Int) + 1))
      go_roundw
      case rel =>
        refine ⟨j + 1, by omega, by go_num, by rw [HG.out, ← HM.out, HX.out, HY.out], ⟨?_, ho2, by have := HM.out; omega, hl⟩, hc2⟩
        rw [show (((k + (j + 1) : Nat)) : Int) = (m : Int) + 1 from by have := HM.out; omega]
        simpa using hb2
      case measure => simp [intOf]; omega
    · obtain rfl : j = n := by omega
      go_wp2
      go_ret2
      exact ⟨rfl, hr, hc⟩

/- Align -/

theorem ralign_nil (w : World) : Calls Tryz.prog 51 #[.pointer none] w fun e w' => e = .returned (.int .i64 1) ∧ w = w' := by
  go_enter Tryz.func51, Tryz.ntmps51
  go_wp2
  go_ret
  exact ⟨rfl, rfl⟩
theorem ralign_whole (g r : Nat) (l : List UInt8) (k : Nat) (w : World) (h : ReaderIs w g r l k) (hk : k % 8 = 0) :
    Calls Tryz.prog 51 #[.pointer (some ⟨g, 0, none⟩)] w fun e w' => e = .returned (.int .i64 0) ∧ w = w' := by
  have c1 : w.cell? ⟨g, 1, none⟩ = some (.int .i64 (k : Int)) := h.1.cell 1
  have hm : ((k : Int) % 8 == 0) = true := by simp; omega
  clear hk
  go_enter Tryz.func51, Tryz.ntmps51
  go_wp2
  go_ret
  exact ⟨rfl, rfl⟩
/-- are the bits from k up to the next whole byte noughts? -/
def restZero (l : List UInt8) (k : Nat) : Bool := (l.getD (k / 8) 0).toNat * 2 ^ (k % 8) % 256 == 0
set_option maxRecDepth 100000 in
set_option maxHeartbeats 1000000 in
theorem ralign_no (g r : Nat) (l : List UInt8) (k : Nat) (w : World) (h : ReaderIs w g r l k) (hk : ¬ k % 8 = 0) (hz : restZero l k = false) :
    Calls Tryz.prog 51 #[.pointer (some ⟨g, 0, none⟩)] w fun e w' => e = .returned (.int .i64 11) ∧ Below w.heap.size w w' := by
  have c0 : w.cell? ⟨g, 0, none⟩ = some (.slice (some ⟨r, 0, none⟩) l.length l.length) := h.1.cell 0
  have c1 : w.cell? ⟨g, 1, none⟩ = some (.int .i64 (k : Int)) := h.1.cell 1
  have hm : ((k : Int) % 8 == 0) = false := by simp; omega
  have hk8 := h.2.2.1
  have hl := h.2.2.2
  obtain ⟨r', x, hrr, hx, cx, fx⟩ := h.2.1.at_ (k := k / 8) (by omega)
  injection hrr with hrr
  injection hrr with hrr
  subst hrr
  have hq : ((x.toNat : Int) * 2 ^ (k % 8) % 256 != 0) = true := by
    unfold restZero at hz
    rw [List.getD, hx] at hz
    have e : (x.toNat : Int) * 2 ^ (k % 8) % 256 = ((x.toNat * 2 ^ (k % 8) % 256 : Nat) : Int) := by simp
    rw [e]
    simp only [Option.getD_some, beq_eq_false_iff_ne, ne_eq] at hz
    rw [bne_iff_ne]
    omega
  have e3 : (0 : Int) ≤ (k : Int) / 8 := by omega
  have e4 : (k : Int) / 8 < (l.length : Int) := by omega
  clear hx hz h
  go_enter Tryz.func51, Tryz.ntmps51
  go_wp2
  go_region
  go_wp2
  go_ret
  exact ⟨rfl, (Below.refl _ _).drew⟩
set_option maxRecDepth 100000 in
set_option maxHeartbeats 1000000 in
theorem ralign_yes (g r : Nat) (l : List UInt8) (k : Nat) (w : World) (h : ReaderIs w g r l k) (hk : ¬ k % 8 = 0) (hz : restZero l k = true) :
    Calls Tryz.prog 51 #[.pointer (some ⟨g, 0, none⟩)] w fun e w' => e = .returned (.int .i64 0) ∧ ReaderIs w' g r l (8 * ((k + 7) / 8)) ∧ Chg (One g) w w' := by
  have c0 : w.cell? ⟨g, 0, none⟩ = some (.slice (some ⟨r, 0, none⟩) l.length l.length) := h.1.cell 0
  have c1 : w.cell? ⟨g, 1, none⟩ = some (.int .i64 (k : Int)) := h.1.cell 1
  have f1 := h.1.frozen 1
  have hm : ((k : Int) % 8 == 0) = false := by simp; omega
  have hk8 := h.2.2.1
  have hl := h.2.2.2
  obtain ⟨r', x, hrr, hx, cx, fx⟩ := h.2.1.at_ (k := k / 8) (by omega)
  injection hrr with hrr
  injection hrr with hrr
  subst hrr
  have hq : ((x.toNat : Int) * 2 ^ (k % 8) % 256 != 0) = false := by
    unfold restZero at hz
    rw [List.getD, hx] at hz
    have e : (x.toNat : Int) * 2 ^ (k % 8) % 256 = ((x.toNat * 2 ^ (k % 8) % 256 : Nat) : Int) := by simp
    rw [e]
    simp only [Option.getD_some, beq_iff_eq] at hz
    rw [hz]; rfl
  have e3 : (0 : Int) ≤ (k : Int) / 8 := by omega
  have e4 : (k : Int) / 8 < (l.length : Int) := by omega
  have HNE := hide h.ne
  have w1 : IntKind.i64.wrap (8 - (k : Int) % 8) = 8 - (k : Int) % 8 := by rw [IntKind.wrap_i64]; omega
  have w2 : IntKind.i64.wrap ((k : Int) + (8 - (k : Int) % 8)) = (k : Int) + (8 - (k : Int) % 8) := by rw [IntKind.wrap_i64]; omega
  clear hx hz
  go_enter Tryz.func51, Tryz.ntmps51
  go_wp2
  go_region
  go_wp2
  go_region
  go_wp2
  go_ret
  refine ⟨rfl, ⟨?_, ?_, by omega, hl⟩, ?_⟩
  · rw [show (((8 * ((k + 7) / 8) : Nat)) : Int) = (k : Int) + (8 - (k : Int) % 8) from by omega]
    have := h.1.set_ 1 (.int .i64 ((k : Int) + (8 - (k : Int) % 8)))
    simpa using this.drew.drew
  · exact ((h.2.1.setFar (p := ⟨g, 1, none⟩) (by simp [blkOf]; exact HNE.out) _).drew).drew
  · exact (((Chg.refl (One g) _).setCell (p := ⟨g, 1, none⟩) (.inl rfl) _).drew).drew

/- Rest -/

theorem rest_nil (w : World) : Calls Tryz.prog 52 #[.pointer none] w fun e w' => e = .returned (.slice none 0 0) ∧ w = w' := by
  go_enter Tryz.func52, Tryz.ntmps52
  go_wp2
  go_ret
  exact ⟨rfl, rfl⟩
theorem byt_drop {w : World} {B : Nat} {r n : Nat} {l : List UInt8} (h : Byt w B (some ⟨r, 0, none⟩) l) : Byt w B (some ⟨r, n, none⟩) (l.drop n) := fun hl => by
  rw [List.length_drop] at hl
  obtain ⟨b, off, e, hb, hc⟩ := h (by omega)
  injection e with e
  injection e with e1 e2
  subst e1
  refine ⟨r, n, rfl, hb, fun j x hx => ?_⟩
  rw [List.getElem?_drop] at hx
  have := hc (n + j) x hx
  rw [← e2] at this
  simpa using this
set_option maxRecDepth 100000 in
set_option maxHeartbeats 1000000 in
theorem rest_some (g r : Nat) (l : List UInt8) (k f m : Nat) (w : World) (h : ReaderIs w g r l k) (hf : (k + 7) / 8 = f) (hm : l.length = f + m) (hm0 : 0 < m) :
    Calls Tryz.prog 52 #[.pointer (some ⟨g, 0, none⟩)] w (RetBytes w (l.drop f)) := by
  have c0 : w.cell? ⟨g, 0, none⟩ = some (.slice (some ⟨r, 0, none⟩) l.length l.length) := h.1.cell 0
  have c1 : w.cell? ⟨g, 1, none⟩ = some (.int .i64 (k : Int)) := h.1.cell 1
  have hk8 := h.2.2.1
  have hl := h.2.2.2
  have hgl := h.lt
  have hfi : ((k : Int) + 7) / 8 = (f : Int) := by omega
  have hmk := run_make8 (P := Tryz.prog) bytesT .i64 .i64 m (by omega)
  have c0' : (w.alloc (Obj.cells (mk8 m) 5)).cell? ⟨g, 0, none⟩ = some (.slice (some ⟨r, 0, none⟩) l.length l.length) := (h.1.alloc _).cell 0
  have hby : Byt (w.alloc (Obj.cells (mk8 m) 5)) w.heap.size (some ⟨r, 0, none⟩) l := h.2.1.byt.below ((Below.refl _ _).alloc (Nat.le_refl _) _)
  have o2 := Own8.new w (mk8 m) 5 m _ (by simp) (toList_mk8 m) (by unfold maxLen; omega)
  have hsub : (l.length : Int) - (f : Int) = (m : Int) := by omega
  have hfl : f ≤ l.length := by omega
  have hne : ¬ l.length = f := by omega
  have hD : Hid (l.length - f = (l.drop f).length) := by rw [List.length_drop]; exact rfl
  have HML : Hid (m = l.length - f) := by show _ = _; omega
  clear hm hf h
  go_enter Tryz.func52, Tryz.ntmps52
  go_wp2_with (refine wpList_copy8 (o := ⟨some 28, _, _, _, _, _⟩) (by rfl) (.tmp 21) (.tmp 27) 23 5 (by rfl) bytesT w.heap.size m m _ (by rfl) o2 _ _ _ _ (l.drop f) (by rfl) (byt_drop (n := f) hby) hD.out HML.out ?_; intro w1 own1 grow1)
  go_ret
  exact ⟨some ⟨w.heap.size, 0, none⟩, m, m, rfl, own1, by simp [blkOf], Below.grown ((Below.refl _ _).alloc (Nat.le_refl _) _) grow1 (by simp) (by simp)⟩
set_option maxRecDepth 100000 in
set_option maxHeartbeats 1000000 in
theorem rest_none (g r : Nat) (l : List UInt8) (k n : Nat) (w : World) (h : ReaderIs w g r l k) (hn : n = l.length) (hf : (k + 7) / 8 = n) :
    Calls Tryz.prog 52 #[.pointer (some ⟨g, 0, none⟩)] w (RetBytes w []) := by
  have c0 : w.cell? ⟨g, 0, none⟩ = some (.slice (some ⟨r, 0, none⟩) n n) := by rw [hn]; exact h.1.cell 0
  have c1 : w.cell? ⟨g, 1, none⟩ = some (.int .i64 (k : Int)) := h.1.cell 1
  have hl : n ≤ 1099511627776 := by rw [hn]; exact h.2.2.2
  have hk8 : k ≤ 8 * n := by rw [hn]; exact h.2.2.1
  have hgl := h.lt
  have hfi : ((k : Int) + 7) / 8 = (n : Int) := by omega
  have hmk := run_make8 (P := Tryz.prog) bytesT .i64 .i64 0 (by omega)
  rw [show ((0 : Nat) : Int) = 0 from rfl] at hmk
  have c0' : (w.alloc (Obj.cells (mk8 0) 5)).cell? ⟨g, 0, none⟩ = some (.slice (some ⟨r, 0, none⟩) n n) := by rw [hn]; exact (h.1.alloc _).cell 0
  have o2 := Own8.new w (mk8 0) 5 0 _ (by simp) (toList_mk8 0) (by unfold maxLen; omega)
  clear hn hf h
  go_enter Tryz.func52, Tryz.ntmps52
  go_wp2_with (refine wpList_copy8 (o := ⟨some 28, _, _, _, _, _⟩) (by rfl) (.tmp 21) (.tmp 27) 23 5 (by rfl) bytesT w.heap.size 0 0 _ (by rfl) o2 w.heap.size _ _ _ [] (by rfl) Byt.nil (by rfl) (by rfl) ?_; intro w1 own1 grow1)
  go_ret
  exact ⟨some ⟨w.heap.size, 0, none⟩, 0, 0, rfl, own1, by simp [blkOf], Below.grown ((Below.refl _ _).alloc (Nat.le_refl _) _) grow1 (by simp) (by simp)⟩
theorem rest_calls (g r : Nat) (l : List UInt8) (k : Nat) (w : World) (h : ReaderIs w g r l k) :
    Calls Tryz.prog 52 #[.pointer (some ⟨g, 0, none⟩)] w (RetBytes w (l.drop ((k + 7) / 8))) := by
  have hk8 := h.2.2.1
  by_cases hm : l.length = (k + 7) / 8
  · rw [← hm, List.drop_length]
    exact rest_none g r l k l.length w h rfl hm.symm
  · exact rest_some g r l k _ (l.length - (k + 7) / 8) w h rfl (by omega) (by omega)
end Go.Proofs.YtbfhpgpceakeiaaGreatDoor
namespace Go.Proofs.YtbfhpgpceakeiaaGreatDoor
open Go.RowKit Kin

theorem rem_bit (v i : Nat) : ∃ x : UInt8, ((v / 2 ^ i : Nat) : Int) % 2 = (x.toNat : Int) ∧ Hid (x = Bit.one (v.testBit i)) :=
  ⟨_, by have := Bit.low_bit v i; omega, rfl⟩

end Go.Proofs.YtbfhpgpceakeiaaGreatDoor
namespace Go.Proofs.YtbfhpgpceakeiaaGreatDoor
open Go.RowKit Kin

theorem pack_step (B : List Bool) (i n : Nat) (hn : n = B.length) (h8 : i % 8 = 0) (hi : i < n) : (Bit.pack B).take ((i + 8) / 8) = (Bit.pack B).take (i / 8) ++ [Bit.byteAt B (i / 8)] := by
  rw [show (i + 8) / 8 = i / 8 + 1 from by omega]
  exact Bit.pack_take B (i / 8) (by omega)
theorem pack_eight (B : List Bool) (i : Nat) (h8 : i % 8 = 0) : Bit.eight B i 8 = (Bit.byteAt B (i / 8)).toNat := by
  rw [← Bit.eight_byteAt, show 8 * (i / 8) = i from by omega]

end Go.Proofs.YtbfhpgpceakeiaaGreatDoor
namespace Go.Proofs.YtbfhpgpceakeiaaGreatDoor
open Go.RowKit Kin

/-- the length of the slice at block g -/
def lenAt (w : World) (g : Nat) : Nat := match w.cell? ⟨g, 0, none⟩ with | some (.slice _ n _) => n | _ => 0
end Go.Proofs.YtbfhpgpceakeiaaGreatDoor
namespace Go.Proofs.YtbfhpgpceakeiaaGreatDoor
open Go.RowKit Kin

/-- may the number be put? -/
def putOk (v n : Int) : Bool := decide (0 ≤ n ∧ n ≤ 64 ∧ v < 2 ^ n.toNat)
def putE (v n : Int) : Int := if putOk v n then 0 else 1
def putB (B : List Bool) (v n : Int) : List Bool := if putOk v n then B ++ Bit.digits v.toNat n.toNat else B
theorem length_putB (B : List Bool) (v n : Int) : (putB B v n).length ≤ B.length + 64 := by
  unfold putB
  split
  · rename_i h
    have := of_decide_eq_true h
    rw [List.length_append, Bit.length_digits]
    omega
  · omega

theorem put_any (g : Nat) (R : Option Nat) (B : List Bool) (v n : Int) (w : World) (h : WriterIs w g R B) (hB : B.length ≤ 1099511627776) (h0 : 0 ≤ v) (h1 : v < 18446744073709551616) :
    Calls Tryz.prog 66 #[.pointer (some ⟨g, 0, none⟩), .int .u64 v, .int .i64 n] w
      fun e w' => e = .returned (.int .i64 (putE v n)) ∧ ∃ R', WriterIs w' g R' (putB B v n) ∧ Chg (Foot g R) w w' ∧ RowNew w.heap.size R R' := by
  by_cases hn : n < 0 ∨ 64 < n
  · have e : putOk v n = false := by unfold putOk; rw [decide_eq_false_iff_not]; omega
    refine (put_bad g v n w hn).mono ?_
    rintro e w' ⟨rfl, rfl⟩
    unfold putE putB
    rw [e]
    exact ⟨rfl, R, h, Chg.refl _ _, RowNew.refl _ _⟩
  · obtain ⟨n, rfl⟩ : ∃ k : Nat, n = k := ⟨n.toNat, by omega⟩
    obtain ⟨v, rfl⟩ : ∃ k : Nat, v = k := ⟨v.toNat, by omega⟩
    have hp : ((2 ^ n : Nat) : Int) = 2 ^ n := by simp
    by_cases hv : v < 2 ^ n
    · have e : putOk v n = true := by unfold putOk; rw [decide_eq_true_iff, Int.toNat_natCast, ← hp]; omega
      refine (put_calls g R B v n w h hB (by omega) hv).mono ?_
      rintro e w' ⟨rfl, hh⟩
      unfold putE putB
      rw [e, Int.toNat_natCast, Int.toNat_natCast]
      exact ⟨rfl, hh⟩
    · have e : putOk v n = false := by unfold putOk; rw [decide_eq_false_iff_not, Int.toNat_natCast, ← hp]; omega
      have hn64 : n < 64 := by
        rcases Nat.lt_or_ge n 64 with h | h
        · exact h
        · have : n = 64 := by omega
          subst this
          omega
      refine (put_wide g v n w hn64 (by omega)).mono ?_
      rintro e w' ⟨rfl, rfl⟩
      unfold putE putB
      rw [e]
      exact ⟨rfl, R, h, Chg.refl _ _, RowNew.refl _ _⟩

theorem length_fill_le (B : List Bool) : (Bit.fill B).length ≤ B.length + 7 := by rw [Bit.length_fill]; omega
theorem dN (w : World) (k : Nat) : Below w.heap.size w (w.drewN k) := ⟨rfl, rfl, rfl, Nat.le_refl _, fun _ _ => rfl⟩
end Go.Proofs.YtbfhpgpceakeiaaGreatDoor
namespace Go.Proofs.YtbfhpgpceakeiaaGreatDoor
open Go.RowKit Kin

theorem ret_ib {k : IntKind} {a b : Int} {p q : Bool} (h : a = b) (h2 : p = q) : Ending.returned (.tuple #[.int k a, .bool p]) = .returned (.tuple #[.int k b, .bool q]) := by rw [h, h2]
theorem ret_ii {k k' : IntKind} {a b c d : Int} (h : a = b) (h2 : c = d) : Ending.returned (.tuple #[.int k a, .int k' c]) = .returned (.tuple #[.int k b, .int k' d]) := by rw [h, h2]

set_option maxRecDepth 100000 in
theorem glen_calls (v : Nat) (w : World) (hv : v < 18446744073709551616) :
    Calls Tryz.prog 67 #[.int .u64 (v : Int)] w fun e w' => e = .returned (.int .i64 (Gol.gl v : Int)) ∧ w = w' := by
  by_cases h : 4294967294 < v
  · rw [Gol.gl_big h]
    have d : decide ((4294967294 : Int) < (v : Int)) = true := by simp; omega
    go_enter Tryz.func67, Tryz.ntmps67
    go_wp2
    go_ret
    exact ⟨rfl, rfl⟩
  · have hb := Gol.bl_code (v := v) (by omega)
    have hg : Hid (((Gol.gl v : Nat) : Int) = 2 * (Gol.bl (v + 1) : Int) - 1) := by show _ = _; rw [Gol.gl_of (by omega)]; omega
    have d : decide ((4294967294 : Int) < (v : Int)) = false := by simp; omega
    have hb2 := hb.2.1
    have hb1 := hb.1
    clear hb
    have CC := fun w => Tryz.bits_Len64 ((v : Int) + 1) w (by omega) (by omega)
    rw [show ((v : Int) + 1).toNat = v + 1 from by omega] at CC
    have HC := hide CC
    clear CC
    have hbl : Hid (Go.Lib.bitLen (v + 1) = Gol.bl (v + 1)) := rfl
    rw [hbl.out] at HC
    generalize Gol.bl (v + 1) = L at *
    go_enter Tryz.func67, Tryz.ntmps67
    go_wp2_with (go_at_call 92; refine (HC.out _).mono ?_; rintro e w1 ⟨rfl, rfl⟩)
    go_ret
    exact ⟨ret_int (by rw [hg.out]), rfl⟩

theorem u64_low (v : Nat) (hv : v < 18446744073709551616) : bits BinOp.and IntKind.u64 (v : Int) 1 = ((v % 2 : Nat) : Int) := by
  have := u64_and_nat v 1 hv (by omega)
  rw [Nat.and_one_is_mod] at this
  exact this

end Go.Proofs.YtbfhpgpceakeiaaGreatDoor
namespace Go.Proofs.YtbfhpgpceakeiaaGreatDoor
open Go.RowKit Kin

def gputE (v : Nat) : Int := if v ≤ 4294967294 then 0 else 1
def gputB (B : List Bool) (v : Nat) : List Bool := if v ≤ 4294967294 then B ++ Gol.codeB v else B
theorem gputE_ok {v : Nat} (h : v ≤ 4294967294) : gputE v = 0 := if_pos h
theorem gputB_ok {B : List Bool} {v : Nat} (h : v ≤ 4294967294) : gputB B v = B ++ Gol.codeB v := if_pos h
theorem gputE_no {v : Nat} (h : 4294967294 < v) : gputE v = 1 := if_neg (by omega)
theorem gputB_no {B : List Bool} {v : Nat} (h : 4294967294 < v) : gputB B v = B := if_neg (by omega)
theorem length_gputB (B : List Bool) (v : Nat) : (gputB B v).length ≤ B.length + 63 := by
  by_cases h : v ≤ 4294967294
  · rw [gputB_ok h, List.length_append, Gol.length_codeB h]; have := Gol.gl_le v; omega
  · rw [gputB_no (by omega)]; omega

set_option maxRecDepth 100000 in
theorem gput_nil (v : Int) (w : World) : Calls Tryz.prog 40 #[.pointer none, .int .u64 v] w fun e w' => e = .returned (.int .i64 1) ∧ w = w' := by
  go_enter Tryz.func40, Tryz.ntmps40
  go_wp2
  go_ret
  exact ⟨rfl, rfl⟩
set_option maxRecDepth 100000 in
theorem gput_any (g : Nat) (R : Option Nat) (B : List Bool) (v : Nat) (w : World) (h : WriterIs w g R B) (hB : B.length ≤ 1099511627776) (hv : v < 18446744073709551616) :
    Calls Tryz.prog 40 #[.pointer (some ⟨g, 0, none⟩), .int .u64 (v : Int)] w
      fun e w' => e = .returned (.int .i64 (gputE v)) ∧ ∃ R', WriterIs w' g R' (gputB B v) ∧ Chg (Foot g R) w w' ∧ RowNew w.heap.size R R' := by
  by_cases hm : v ≤ 4294967294
  · rw [gputE_ok hm, gputB_ok hm]
    have d : decide ((4294967294 : Int) < (v : Int)) = false := by simp; omega
    have HF := hide (Gol.code_fits hm)
    have HC : Hid (Gol.codeB v = Bit.digits (v + 1) (Gol.gl v)) := by rw [Gol.gl_of hm]; exact rfl
    have hgl := Gol.gl_le v
    have HL := hide (glen_calls v)
    rw [HC.out]
    clear HC
    generalize Gol.gl v = L at *
    go_enter Tryz.func40, Tryz.ntmps40
    go_wp2_with fail
    refine (HL.out _ hv).mono ?_
    rintro e w1 ⟨rfl, rfl⟩
    go_wp2_with fail
    rw [show ((v : Int) + 1) = ((v + 1 : Nat) : Int) from by omega]
    refine (put_calls g R B (v + 1) L _ h hB (by omega) HF.out).mono ?_
    rintro e w2 ⟨rfl, hh⟩
    go_wp2
    go_ret
    exact ⟨rfl, hh⟩
  · rw [gputE_no (by omega), gputB_no (by omega)]
    have d : decide ((4294967294 : Int) < (v : Int)) = true := by simp; omega
    go_enter Tryz.func40, Tryz.ntmps40
    go_wp2
    go_ret
    exact ⟨rfl, R, h, Chg.refl _ _, RowNew.refl _ _⟩

def gsE (x : Int) : Int := if Gol.foldOk x then 0 else 1
def gsB (B : List Bool) (x : Int) : List Bool := if Gol.foldOk x then B ++ Gol.codeB (Gol.foldV x).toNat else B
theorem length_gsB (B : List Bool) (x : Int) : (gsB B x).length ≤ B.length + 63 := by
  unfold gsB
  have hr := Gol.foldV_range x
  split
  · rw [List.length_append, Gol.length_codeB (by omega)]; have := Gol.gl_le (Gol.foldV x).toNat; omega
  · omega
end Go.Proofs.YtbfhpgpceakeiaaGreatDoor
namespace Go.Proofs.YtbfhpgpceakeiaaGreatDoor.C3
open Go.RowKit Kin

theorem u32_stp_odd (v : Nat) (hv : v < 4294967296) (h : (bits BinOp.and IntKind.u32 (v : Int) 1 == 1) = true) : bits BinOp.xor IntKind.u32 ((v : Int) / 2) 3988292384 = (Crc.stp v : Int) := by
  have e := u32_and_nat v 1 hv (by omega)
  rw [Nat.and_one_is_mod] at e
  rw [show ((1 : Nat) : Int) = 1 from rfl] at e
  rw [e] at h
  have hm : v % 2 = 1 := by simp at h; omega
  have e2 := u32_xor_nat (v / 2) 3988292384 (by omega) (by omega)
  rw [show ((v / 2 : Nat) : Int) = (v : Int) / 2 from by omega] at e2
  rw [show ((3988292384 : Nat) : Int) = 3988292384 from rfl] at e2
  rw [e2]; unfold Crc.stp; rw [if_pos hm]
theorem u32_stp_even (v : Nat) (hv : v < 4294967296) (h : (bits BinOp.and IntKind.u32 (v : Int) 1 == 1) = false) : ((v : Int) / 2) = (Crc.stp v : Int) := by
  have e := u32_and_nat v 1 hv (by omega)
  rw [Nat.and_one_is_mod] at e
  rw [show ((1 : Nat) : Int) = 1 from rfl] at e
  rw [e] at h
  have hm : ¬ v % 2 = 1 := by simp at h; omega
  unfold Crc.stp; rw [if_neg hm]; omega

theorem u32_not (s : Nat) (hs : s < 4294967296) : bits BinOp.xor IntKind.u32 IntKind.u32.max (s : Int) = ((4294967295 - s : Nat) : Int) := by
  have e := u32_xor_nat 4294967295 s (by omega) hs
  rw [show (IntKind.u32.max) = ((4294967295 : Nat) : Int) from by decide, e, Crc.flip_xor s hs, Nat.xor_comm]
theorem u8_xor_mod (r v : Nat) (hv : v < 256) : bits BinOp.xor IntKind.u8 ((r : Int) % 256) (v : Int) = ((r % 256 ^^^ v : Nat) : Int) := by
  have e := u8_xor_nat (r % 256) v (by omega) hv
  rw [← e]; congr 1
theorem u32_upd (r v : Nat) (hr : r < 4294967296) (hv : v < 256) : bits BinOp.xor IntKind.u32 (Crc.tab (r % 256 ^^^ v) : Int) ((r : Int) / 256) = (Crc.upd r v : Int) := by
  have hx : r % 256 ^^^ v < 2 ^ 8 := Nat.xor_lt_two_pow (by omega) (by omega)
  have e := u32_xor_nat (Crc.tab (r % 256 ^^^ v)) (r / 256) (Crc.tab_lt (by omega)) (by omega)
  rw [Crc.upd, ← e]; congr 1
theorem fold_take (r : Nat) (l : List UInt8) (k : Nat) (h : k < l.length) : Crc.fold r (l.take (k + 1)) = Crc.upd (Crc.fold r (l.take k)) l[k].toNat := by
  rw [List.take_succ_eq_append_getElem h, Crc.fold_snoc]

set_option maxHeartbeats 400000 in
theorem eight_calls (r : Nat) (w : World) (h : r < 4294967296) :
    Calls Tryz.prog 123 #[.int .u32 (r : Int)] w fun e w' => e = .returned (.int .u32 (Crc.tab r : Int)) ∧ w = w' := by
  go_enter Tryz.func123, Tryz.ntmps123
  go_wp2
  go_loop [0, 3] (fun x i => ∃ (k : Nat), k ≤ 8 ∧ i = .int .i64 k ∧ x = .int .u32 (Crc.stpN k r : Int)) (fun _ i => 8 - (intOf i).toNat)
  case atStart => exact ⟨0, by omega, rfl, rfl⟩
  case round =>
    obtain ⟨k, hk, rfl, rfl⟩ := hrel
    have HS := hide (Crc.stpN_succ k r)
    have hv : Crc.stpN k r < 4294967296 := Crc.stpN_lt h
    by_cases hlt : k < 8
    · generalize Crc.stpN k r = v at *
      go_wp2
      · go_round
        case rel => exact ⟨k + 1, by omega, by go_num, by rw [HS.out, u32_stp_odd v hv ‹_›]⟩
        case measure => simp [intOf]; omega
      · go_round
        case rel => exact ⟨k + 1, by omega, by go_num, by rw [HS.out, u32_stp_even v hv ‹_›]⟩
        case measure => simp [intOf]; omega
    · obtain rfl : k = 8 := by omega
      clear HS
      go_wp2
      go_ret
      exact ⟨rfl, rfl⟩

def tabA : Array Value := rowA 256 (fun i => .int .u32 (Crc.tab i : Int))
def zerA : Array Value := rowA 256 (fun _ => .int .u32 0)
/-- the table as far as k -/
def tabF (k i : Nat) : Value := if i < k then .int .u32 (Crc.tab i : Int) else .int .u32 0
theorem tabF_succ (k : Nat) : rowA 256 (tabF (k + 1)) = (rowA 256 (tabF k)).setIfInBounds k (.int .u32 (Crc.tab k : Int)) := by
  rw [rowA_set]
  refine rowA_congr fun i _ => ?_
  unfold tabF
  by_cases e : i = k
  · subst e; simp
  · by_cases h : i < k
    · rw [if_pos (by omega), if_neg e, if_pos h]
    · rw [if_neg (by omega), if_neg e, if_neg h]
theorem tabF_all : rowA 256 (tabF 256) = tabA := rowA_congr fun _ hi => if_pos hi
theorem tabF_none : zerA = rowA 256 (tabF 0) := rowA_congr fun i _ => (if_neg (by omega)).symm
theorem Tryz.zero_tab : (Tryz.prog.info? 222).map (fun i => (i.zero, i.size)) = some (some (.agg zerA), 256) := by kernel_rfl

theorem size_tabA : tabA.size = 256 := size_rowA _ _
theorem one_tabA : tabA.all (·.oneCell') = true := oneCell_rowA _ _ fun _ _ => rfl

set_option maxRecDepth 100000 in
set_option maxHeartbeats 400000 in
theorem table_calls (w : World) : Calls Tryz.prog 93 #[] w fun e w' => e = .returned (.agg tabA) ∧ Below w.heap.size w w' := by
  have hz := (zero_of_info Tryz.zero_tab).1
  have HI := hide (zero_of_info Tryz.zero_tab).2
  go_enter Tryz.func93, Tryz.ntmps93
  go_wp2
  go_loopw [3] (fun i wr => ∃ (k : Nat), k ≤ 256 ∧ i = .int .i64 k ∧ Blk wr w.heap.size 222 zerA ∧ Blk wr (w.heap.size + 1) 222 (rowA 256 (tabF k)) ∧ Below w.heap.size w wr) (fun i _ => 256 - (intOf i).toNat)
  case atStart => exact ⟨0, by omega, rfl, (Blk.new _ _ _).alloc _, by rw [← tabF_none]; simpa using Blk.new (w.alloc (Obj.cells zerA 222)) 222 zerA, ((Below.refl _ _).alloc (by omega) _).alloc (by simp) _⟩
  case round =>
    obtain ⟨k, hk, rfl, hb0, hb1, hbel⟩ := hrel
    by_cases hlt : k < 256
    · have hc : wr.cell? ⟨w.heap.size + 1, k, none⟩ = some (tabF k k) := by rw [hb1.cell, getElem?_rowA _ hlt]
      have hf := hb1.frozen k
      have HS := hide (tabF_succ k)
      go_wp2_with (go_at_call 123; refine (eight_calls k _ (by omega)).mono ?_; rintro e w' ⟨rfl, rfl⟩)
      go_roundw
      case rel => exact ⟨k + 1, by omega, by go_num, hb0.far (by simp) _, by rw [HS.out]; exact hb1.set_ _ _, hbel.setCell (by simp) _⟩
      case measure => simp [intOf]; omega
    · obtain rfl : k = 256 := by omega
      rw [tabF_all] at hb1
      go_wp2_with (first | (refine wpList_load_row rfl 222 _ rfl (w.heap.size + 1) rfl 222 _ _ _ hb1 Tryz.underlying222 rfl (by rw [size_tabA]; exact HI.out) ?_) | (refine wpList_store_row rfl 222 _ _ rfl w.heap.size tabA rfl rfl 222 _ hb0 (by rw [size_tabA]; exact HI.out) (by rw [size_tabA]; exact size_rowA _ _) one_tabA ?_))
      refine bodyPost_ret (v := .agg tabA) (results_cell_row rfl _ _ w.heap.size 222 tabA (0, 0) _ (by simp [Act.put]) (hb0.setRow _) Tryz.underlying222 rfl (by rw [size_tabA]; exact HI.out)) (by simp [Act.put]) ⟨rfl, ?_⟩
      exact below_setRow' hbel (Nat.le_refl _) _

set_option maxRecDepth 100000 in
set_option maxHeartbeats 400000 in
theorem more_calls (s : Nat) (A : Option Addr) (n : Nat) (l : List UInt8) (cap : Nat) (w : World) (hs : s < 4294967296) (hn : n = l.length) (hl : l.length ≤ 9223372036854775807) {B : Nat} (hby0 : Byt w B A l) :
    Calls Tryz.prog 68 #[.int .u32 (s : Int), .slice A n cap] w fun e w' => e = .returned (.int .u32 (Crc.more s l : Int)) ∧ Below w.heap.size w w' := by
  subst hn
  have hby := hby0.here
  clear hby0
  have hz := (zero_of_info Tryz.zero_tab).1
  have HI := hide (zero_of_info Tryz.zero_tab).2
  go_enter Tryz.func68, Tryz.ntmps68
  go_wp2_with (first | (go_at_call 93; refine (table_calls _).mono ?_; rintro e w1 ⟨rfl, hb1⟩) | (refine wpList_store_row rfl 222 (.tmp 5) (.tmp 9) rfl _ tabA rfl rfl 222 zerA (heap_alloc_new _ _) (by rw [size_tabA]; exact HI.out) (by rw [size_tabA]; exact size_rowA _ _) one_tabA ?_; rw [World.setRow_alloc_new]))
  have hB : Byt (w1.alloc (Obj.cells tabA 222)) w.heap.size A l := hby.below (hb1.alloc hb1.size _)
  have hT := Blk.new w1 222 tabA
  have Hbel : Below w.heap.size w (w1.alloc (Obj.cells tabA 222)) := hb1.alloc hb1.size _
  clear hby hz HI hb1
  go_loop [6, 14] (fun x i => ∃ (k : Nat), k ≤ l.length ∧ i = .int .i64 k ∧ x = .int .u32 (Crc.fold (4294967295 - s) (l.take k) : Int)) (fun _ i => l.length - (intOf i).toNat)
  case atStart => exact ⟨0, by omega, rfl, by rw [u32_not s hs]; rfl⟩
  case round =>
    obtain ⟨k, hk, rfl, rfl⟩ := hrel
    have hr : Crc.fold (4294967295 - s) (l.take k) < 4294967296 := Crc.fold_lt (by omega)
    by_cases hlt : k < l.length
    · have HS := hide (fold_take (4294967295 - s) l k hlt)
      obtain ⟨b, off, rfl, hbB, hcell⟩ := hB.at_ hlt
      generalize Crc.fold (4294967295 - s) (l.take k) = r at *
      generalize l[k] = v at *
      have hvl := v.toNat_lt
      have hx : r % 256 ^^^ v.toNat < 2 ^ 8 := Nat.xor_lt_two_pow (by omega) (by omega)
      have e8 := u8_xor_mod r v.toNat hvl
      have HU := hide (u32_upd r v.toNat hr hvl)
      generalize r % 256 ^^^ v.toNat = y at *
      have ht : tabA[y]? = some (.int .u32 (Crc.tab y : Int)) := getElem?_rowA _ (by omega)
      clear hB hT Hbel h
      go_wp2
      go_round
      case rel => exact ⟨k + 1, by omega, by go_num, by rw [HS.out, HU.out]⟩
      case measure => simp [intOf]; omega
    · have e : l.take k = l := List.take_of_length_le (by omega)
      rw [e] at hr
      have HE := hide e
      have hk' : l.length ≤ k := by omega
      clear hB hT h e
      go_wp2
      go_ret
      refine ⟨?_, Hbel⟩
      rw [HE.out, u32_not _ hr]; rfl

set_option maxHeartbeats 400000 in
theorem sum_calls (A : Option Addr) (n : Nat) (l : List UInt8) (cap : Nat) (w : World) (hn : n = l.length) (hl : l.length ≤ 9223372036854775807) {B : Nat} (hby : Byt w B A l) :
    Calls Tryz.prog 42 #[.slice A n cap] w fun e w' => e = .returned (.int .u32 (Crc.sum l : Int)) ∧ Below w.heap.size w w' := by
  go_enter Tryz.func42, Tryz.ntmps42
  have HN := hide hn
  clear hn
  go_wp2_with (go_at_call 68; refine (more_calls 0 _ _ l _ _ (by omega) HN.out hl hby).mono ?_; rintro e w1 ⟨rfl, hb1⟩)
  go_ret
  exact ⟨rfl, hb1⟩
end Go.Proofs.YtbfhpgpceakeiaaGreatDoor.C3
namespace Go.Proofs.YtbfhpgpceakeiaaGreatDoor
open Go.RowKit Kin

theorem Own8.form {w : World} {e : TypeId} {A : Option Addr} {n c : Nat} {l : List UInt8} (h : Kin.Own8 w e A n c l) : (A = none ∧ n = 0 ∧ c = 0) ∨ ∃ g, A = some ⟨g, 0, none⟩ ∧ n ≤ c ∧ c ≤ maxLen := by
  rcases h.2.2 with ⟨hv, _⟩ | ⟨g, cap, cur, hv, _, _, h1, h2, _, _⟩
  · injection hv with h1 h2 h3
    exact .inl ⟨h1, h2, h3⟩
  · injection hv with h3 h4 h5
    subst h5
    exact .inr ⟨g, h3, h1, h2⟩

theorem quiet_left {P : Program} {f : FuncId} {args : Array Value} {w : World} {n : Nat} {v : Value}
    (h : Calls P f args (w.drewN n) fun e w' => e = .returned v ∧ w.drewN n = w') : Calls P f args (w.drewN n) fun e w'' => e = .returned v ∧ ∃ m, w'' = w.drewN m :=
  h.mono fun _ _ ⟨he, hm⟩ => ⟨he, n, hm.symm⟩

theorem Own8.cap {w : World} {e : TypeId} {A : Option Addr} {n c : Nat} {l : List UInt8} (h : Kin.Own8 w e A n c l) : n ≤ c := by
  rcases Own8.form h with ⟨_, rfl, rfl⟩ | ⟨g, _, h1, _⟩
  · exact Nat.le_refl _
  · exact h1

/-- are the bits from k up to the next whole byte noughts? -/
def Bit.restB (B : List Bool) (k : Nat) : Bool := ((B.drop k).take (8 * ((k + 7) / 8) - k)).all (! ·)

theorem restB_at {B : List Bool} {k i : Nat} (h : Bit.restB B k = true) (h1 : k ≤ i) (h2 : i < 8 * ((k + 7) / 8)) (h3 : i < B.length) : B[i] = false := by
  unfold Bit.restB at h
  rw [List.all_eq_true] at h
  have : B[i] ∈ (B.drop k).take (8 * ((k + 7) / 8) - k) := by
    rw [List.mem_iff_getElem?]
    refine ⟨i - k, ?_⟩
    rw [List.getElem?_take_of_lt (by omega), List.getElem?_drop, show k + (i - k) = i from by omega, List.getElem?_eq_getElem h3]
  simpa using h _ this
theorem restB_of {B : List Bool} {k : Nat} (h : ∀ i, k ≤ i → i < 8 * ((k + 7) / 8) → B.getD i false = false) : Bit.restB B k = true := by
  unfold Bit.restB
  rw [List.all_eq_true]
  intro b hb
  obtain ⟨j, hj⟩ := List.mem_iff_getElem?.1 hb
  rw [List.getElem?_take] at hj
  split at hj
  · rw [List.getElem?_drop] at hj
    have := h (k + j) (by omega) (by omega)
    rw [List.getD, hj] at this
    simpa using this
  · cases hj

/-- what an alignment answers, and where it leaves the reader -/
def alE (ok : Bool) : Int := if ok then 0 else 11
def alK (ok : Bool) (k : Nat) : Nat := if ok then 8 * ((k + 7) / 8) else k

end Go.Proofs.YtbfhpgpceakeiaaGreatDoor
namespace Go.Proofs.YtbfhpgpceakeiaaGreatDoor
open Go.RowKit Kin

theorem row_drop (l : List UInt8) (f : Nat) : (Bit.row l).drop (8 * f) = Bit.row (l.drop f) := by
  apply List.ext_getElem?
  intro i
  rw [List.getElem?_drop]
  by_cases h : 8 * f + i < 8 * l.length
  · rw [Bit.row_at l h, Bit.row_at _ (by rw [List.length_drop]; omega)]
    congr 1
    unfold Bit.rbit
    rw [List.getD, List.getD, List.getElem?_drop, show (8 * f + i) / 8 = f + i / 8 from by omega, show (8 * f + i) % 8 = i % 8 from by omega]
  · rw [List.getElem?_eq_none (by rw [Bit.length_row]; omega), List.getElem?_eq_none (by rw [Bit.length_row, List.length_drop]; omega)]
theorem pack_drop (l : List UInt8) (f : Nat) : Bit.pack ((Bit.row l).drop (8 * f)) = l.drop f := by rw [row_drop, Bit.pack_row]
theorem get_row (l : List UInt8) (k n : Nat) (h : k + n ≤ 8 * l.length) : Bit.num (((Bit.row l).drop k).take n) = Bit.get l k n := by
  have := Bit.get_pack (Bit.row l) k n (by rw [Bit.length_row]; exact h)
  rw [Bit.pack_row] at this
  exact this.symm
theorem byte_tail : ∀ x : Fin 256, ∀ q : Fin 8, (x.val * 2 ^ q.val % 256 == 0) = ((List.range (8 - q.val)).all fun j => ! x.val.testBit (7 - (q.val + j))) := by decide +kernel
theorem restZero_row (l : List UInt8) (k : Nat) (hk : ¬ k % 8 = 0) (hl : k ≤ 8 * l.length) : restZero l k = Bit.restB (Bit.row l) k := by
  have hx : k / 8 < l.length := by omega
  have h := byte_tail ⟨(l[k / 8]).toNat, (l[k / 8]).toNat_lt⟩ ⟨k % 8, Nat.mod_lt _ (by omega)⟩
  unfold restZero Bit.restB
  rw [List.getD, List.getElem?_eq_getElem hx, Option.getD_some]
  simp only at h
  rw [h]
  have e : ((Bit.row l).drop k).take (8 * ((k + 7) / 8) - k) = (List.range (8 - k % 8)).map fun j => (l[k / 8]).toNat.testBit (7 - (k % 8 + j)) := by
    apply List.ext_getElem?
    intro i
    by_cases hi : i < 8 - k % 8
    · rw [List.getElem?_take_of_lt (by omega), List.getElem?_drop, Bit.row_at l (by omega), List.getElem?_map, List.getElem?_range hi, Option.map_some]
      congr 1
      unfold Bit.rbit
      rw [List.getD, show (k + i) / 8 = k / 8 from by omega, List.getElem?_eq_getElem hx, Option.getD_some, show (k + i) % 8 = k % 8 + i from by omega]
    · rw [List.getElem?_eq_none (by rw [List.length_take]; omega), List.getElem?_eq_none (by simp; omega)]
  rw [e, List.all_map]
  rfl
theorem restB_whole (B : List Bool) (k : Nat) (hk : k % 8 = 0) : Bit.restB B k = true := by
  unfold Bit.restB
  rw [show 8 * ((k + 7) / 8) - k = 0 from by omega]; rfl

/-- what a get of n bits, of L bits at k, answers -/
def getE (L k : Nat) (n : Int) : Int := if n < 0 ∨ 64 < n then 1 else if L < k + n.toNat then 11 else 0
def getV (l : List UInt8) (k : Nat) (n : Int) : Nat := if getE (8 * l.length) k n = 0 then Bit.get l k n.toNat else 0
def getK (L k : Nat) (n : Int) : Nat := if getE L k n = 0 then k + n.toNat else k
theorem getE_bad {L k : Nat} {n : Int} (h : n < 0 ∨ 64 < n) : getE L k n = 1 := if_pos h
theorem getE_short {L k n : Nat} (h : n ≤ 64) (hs : L < k + n) : getE L k n = 11 := by unfold getE; rw [if_neg (by omega), if_pos (by simpa using hs)]
theorem getE_ok {L k n : Nat} (h : n ≤ 64) (hs : k + n ≤ L) : getE L k n = 0 := by unfold getE; rw [if_neg (by omega), if_neg (by simp; omega)]
theorem getV_zero {l : List UInt8} {k : Nat} {n : Int} (h : getE (8 * l.length) k n ≠ 0) : getV l k n = 0 := if_neg h
theorem getK_zero {L k : Nat} {n : Int} (h : getE L k n ≠ 0) : getK L k n = k := if_neg h

theorem get_any (g r : Nat) (l : List UInt8) (k : Nat) (n : Int) (w : World) (h : ReaderIs w g r l k) :
    Calls Tryz.prog 70 #[.pointer (some ⟨g, 0, none⟩), .int .i64 n] w
      fun e w' => e = .returned (.tuple #[.int .u64 (getV l k n : Int), .int .i64 (getE (8 * l.length) k n)]) ∧ ReaderIs w' g r l (getK (8 * l.length) k n) ∧ Chg (One g) w w' := by
  by_cases hn : n < 0 ∨ 64 < n
  · have e := getE_bad (L := 8 * l.length) (k := k) hn
    rw [getV_zero (by rw [e]; omega), getK_zero (by rw [e]; omega), e]
    refine (get_bad g n w hn).mono ?_
    rintro e w' ⟨rfl, rfl⟩
    exact ⟨rfl, h, Chg.refl _ _⟩
  · obtain ⟨n, rfl⟩ : ∃ m : Nat, n = m := ⟨n.toNat, by omega⟩
    by_cases hs : 8 * l.length < k + n
    · have e := getE_short (show n ≤ 64 by omega) hs
      rw [getV_zero (by rw [e]; omega), getK_zero (by rw [e]; omega), e]
      refine (get_short g r l k n w h (by omega) hs).mono ?_
      rintro e w' ⟨rfl, hb⟩
      exact ⟨rfl, h.below hb, Chg.of_below hb⟩
    · have e := getE_ok (show n ≤ 64 by omega) (show k + n ≤ 8 * l.length by omega)
      refine (get_calls g r l k n w h (by omega) (by omega)).mono ?_
      rintro e' w' ⟨rfl, hr, hc⟩
      unfold getV getK
      rw [if_pos e, if_pos e, e, Int.toNat_natCast]
      exact ⟨rfl, hr, hc⟩
theorem ralign_any (g r : Nat) (l : List UInt8) (k : Nat) (w : World) (h : ReaderIs w g r l k) :
    Calls Tryz.prog 51 #[.pointer (some ⟨g, 0, none⟩)] w
      fun e w' => e = .returned (.int .i64 (alE (Bit.restB (Bit.row l) k))) ∧ ReaderIs w' g r l (alK (Bit.restB (Bit.row l) k) k) ∧ Chg (One g) w w' := by
  have hk8 := h.2.2.1
  by_cases hk : k % 8 = 0
  · rw [restB_whole _ _ hk, show alK true k = k from by unfold alK; rw [if_pos rfl]; omega]
    refine (ralign_whole g r l k w h hk).mono ?_
    rintro e w' ⟨rfl, rfl⟩
    exact ⟨rfl, h, Chg.refl _ _⟩
  · rw [← restZero_row l k hk hk8]
    cases hz : restZero l k
    · refine (ralign_no g r l k w h hk hz).mono ?_
      rintro e w' ⟨rfl, hb⟩
      exact ⟨rfl, h.below hb, Chg.of_below hb⟩
    · exact ralign_yes g r l k w h hk hz
end Go.Proofs.YtbfhpgpceakeiaaGreatDoor
namespace Go.Proofs.YtbfhpgpceakeiaaGreatDoor
open Go.RowKit Kin

/-- the bits from k on -/
abbrev bitsOf (l : List UInt8) (k : Nat) : List Bool := (Bit.row l).drop k
theorem length_bitsOf (l : List UInt8) (k : Nat) : (bitsOf l k).length = 8 * l.length - k := by rw [List.length_drop, Bit.length_row]
theorem bitsOf_at (l : List UInt8) (k n : Nat) (h : k + n < 8 * l.length) : (bitsOf l k).getD n false = Bit.rbit l (k + n) := by
  rw [List.getD, List.getElem?_drop, Bit.row_at l h]; rfl
theorem get_one (l : List UInt8) (m : Nat) : Bit.get l m 1 = (Bit.rbit l m).toNat := by
  have := Bit.get_succ l m 0
  rw [Bit.get_zero] at this
  simpa using this
theorem get_zeros {l : List UInt8} {k n : Nat} (h : Gol.zerosTo (bitsOf l k) n) (hk : k ≤ 8 * l.length) : Bit.get l k n = 0 := by
  induction n with
  | zero => rfl
  | succ n ih =>
    have h1 := h.1
    rw [length_bitsOf] at h1
    rw [Bit.get_succ, ih ⟨by rw [length_bitsOf]; omega, fun i hi => h.2 i (by omega)⟩, ← bitsOf_at l k n (by omega), h.2 n (by omega)]; rfl
theorem gol_val {l : List UInt8} {k n : Nat} (h : Gol.zerosTo (bitsOf l k) n) (hn : n < 32) (hb : Bit.rbit l (k + n) = true) (hl : k + n + 1 + n ≤ 8 * l.length) :
    Gol.gE (bitsOf l k) = 0 ∧ Gol.gK (bitsOf l k) = 2 * n + 1 ∧ Gol.gV (bitsOf l k) = 2 ^ n + Bit.get l (k + n + 1) n - 1 := by
  have hs : (bitsOf l k).getD n false = true := by rw [bitsOf_at l k n (by omega)]; exact hb
  obtain ⟨e1, e2, e3⟩ := Gol.gE_good h hn hs (by rw [length_bitsOf]; omega)
  refine ⟨e1, e2, ?_⟩
  rw [e3, get_row l k (2 * n + 1) (by omega), show 2 * n + 1 = n + (1 + n) from by omega, Bit.get_add, get_zeros h (by omega), Bit.get_add, get_one, hb]
  simp

theorem gget_nil (w : World) : Calls Tryz.prog 50 #[.pointer none] w fun e w' => e = .returned (.tuple #[.int .u64 0, .int .i64 1]) ∧ w = w' := by
  go_enter Tryz.func50, Tryz.ntmps50
  go_wp2
  go_ret2
  exact ⟨rfl, rfl⟩

theorem u64_top (n low : Nat) (hn : n < 32) (hl : low < 2 ^ n) : bits BinOp.or IntKind.u64 (IntKind.u64.wrap (2 ^ n)) (low : Int) = ((2 ^ n + low : Nat) : Int) := by
  have hp : 2 ^ n ≤ 2 ^ 31 := Nat.pow_le_pow_right (by omega) (by omega)
  have ew : IntKind.u64.wrap (2 ^ n) = 2 ^ n := by
    have e1 : ((2 ^ n : Nat) : Int) = 2 ^ n := by simp
    rw [← e1, IntKind.wrap_u64]; omega
  rw [ew]
  have e := u64_or_nat (2 ^ n) low (by omega) (by omega)
  rw [show (((2 ^ n : Nat)) : Int) = 2 ^ n from by simp] at e
  rw [e]
  congr 1
  have h3 := Nat.two_pow_add_eq_or_of_lt hl 1
  rw [Nat.mul_one] at h3
  exact h3.symm

set_option maxRecDepth 100000 in
set_option maxHeartbeats 4000000 in
theorem gget_any (g r : Nat) (l : List UInt8) (k : Nat) (w : World) (h : ReaderIs w g r l k) :
    Calls Tryz.prog 50 #[.pointer (some ⟨g, 0, none⟩)] w
      fun e w' => e = .returned (.tuple #[.int .u64 (Gol.gV (bitsOf l k) : Int), .int .i64 (Gol.gE (bitsOf l k))]) ∧ ReaderIs w' g r l (k + Gol.gK (bitsOf l k)) ∧ Chg (One g) w w' := by
  have c0 : w.cell? ⟨g, 0, none⟩ = some (.slice (some ⟨r, 0, none⟩) l.length l.length) := h.1.cell 0
  have c1 : w.cell? ⟨g, 1, none⟩ = some (.int .i64 (k : Int)) := h.1.cell 1
  have hk8 := h.2.2.1
  have hl40 := h.2.2.2
  have hgl := h.lt
  have bA := Blk.new w 180 #[.slice (some ⟨r, 0, none⟩) l.length l.length, .int .i64 (k : Int)]
  have hA : ReaderIs (w.alloc (.cells #[.slice (some ⟨r, 0, none⟩) l.length l.length, .int .i64 (k : Int)] 180)) w.heap.size r l (k + 0) := ⟨bA, h.2.1.alloc _, hk8, hl40⟩
  have hb0 : Below w.heap.size w (w.alloc (.cells #[.slice (some ⟨r, 0, none⟩) l.length l.length, .int .i64 (k : Int)] 180)) := (Below.refl _ _).alloc (Nat.le_refl _) _
  have HGE : Hid (∀ v e, v = Gol.gV (bitsOf l k) → e = Gol.gE (bitsOf l k) → Ending.returned (.tuple #[.int .u64 (v : Int), .int .i64 e]) = .returned (.tuple #[.int .u64 (Gol.gV (bitsOf l k) : Int), .int .i64 (Gol.gE (bitsOf l k))])) := fun v e h1 h2 => by rw [h1, h2]
  have HH := hide h
  clear bA h
  go_enter Tryz.func50, Tryz.ntmps50
  go_wp2
  generalize w.alloc (.cells #[.slice (some ⟨r, 0, none⟩) l.length l.length, .int .i64 (k : Int)] 180) = W0 at *
  obtain ⟨ga, hga⟩ : ∃ x, x = w.heap.size := ⟨_, rfl⟩
  rw [← hga] at hA
  rw [← hga]
  have hgg : g < ga := by omega
  have hwga : w.heap.size ≤ ga := by omega
  clear hga c0 c1
  go_loopw [14] (fun nv wr => ∃ n : Nat, n ≤ 32 ∧ nv = .int .i64 (n : Int) ∧ Hid (Gol.zerosTo (bitsOf l k) n) ∧ ReaderIs wr ga r l (k + n) ∧ Below w.heap.size w wr) (fun nv _ => 32 - (intOf nv).toNat)
  case atStart => exact ⟨0, by omega, rfl, ⟨Nat.zero_le _, fun i hi => absurd hi (by omega)⟩, hA, hb0⟩
  case round =>
    obtain ⟨n, hn, rfl, HZ, hr, hb⟩ := hrel
    clear hA hb0
    by_cases hlt : n < 32
    · by_cases hs : 8 * l.length < k + n + 1
      · have hE : Gol.gE (bitsOf l k) = 11 := by
          have h1 := HZ.out.1
          rw [length_bitsOf] at h1
          exact Gol.gE_short HZ.out hlt (.inl (by rw [length_bitsOf]; omega)) (by rw [length_bitsOf]; omega)
        have HE := hide hE
        clear hE
        go_wp2_with fail
        refine (get_short ga r l (k + n) 1 _ hr (by omega) hs).mono ?_
        rintro e t1 ⟨rfl, b1⟩
        go_wp2
        go_ret2
        refine ⟨HGE.out 0 11 (by rw [Gol.gV_bad (by rw [HE.out]; decide)]) HE.out.symm, ?_, Chg.of_below (hb.trans (b1.mono hb.size))⟩
        rw [Gol.gK_bad (by rw [HE.out]; decide), Nat.add_zero]
        exact HH.out.below (hb.trans (b1.mono hb.size))
      · have hg1 := get_one l (k + n)
        have HG1 := hide hg1
        have hbit := bitsOf_at l k n (by omega)
        have HBIT := hide hbit
        clear hg1 hbit
        go_wp2_with fail
        refine (get_calls ga r l (k + n) 1 _ hr (by omega) (by omega)).mono ?_
        rintro e t1 ⟨rfl, hr1, ch1⟩
        have b1 := hb.trans (ch1.below (fun i h => by have h : i = ga := h; omega) hb.size)
        rw [HG1.out]
        cases hrb : Bit.rbit l (k + n)
        · have HZ2 : Hid (Gol.zerosTo (bitsOf l k) (n + 1)) := ⟨by rw [length_bitsOf]; omega, fun i hi => by
            by_cases e : i = n
            · subst e; rw [HBIT.out, hrb]
            · exact HZ.out.2 i (by omega)⟩
          clear hr hb ch1 HG1 HBIT HZ hrb
          rw [show (((false : Bool).toNat : Nat) : Int) = 0 from rfl]
          go_wp2
          go_roundw
          case rel => exact ⟨n + 1, by omega, by go_num, HZ2, by rw [← Nat.add_assoc]; exact hr1, b1⟩
          case measure => simp [intOf]; omega
        · rw [show (((true : Bool).toNat : Nat) : Int) = 1 from rfl]
          have HRB := hide hrb
          clear hr hb ch1 HG1 hrb
          by_cases hs2 : 8 * l.length < k + n + 1 + n
          · have hE : Gol.gE (bitsOf l k) = 11 := Gol.gE_short HZ.out hlt (.inr (by rw [HBIT.out, HRB.out])) (by rw [length_bitsOf]; omega)
            have HE := hide hE
            clear hE
            go_wp2_with fail
            refine (get_short ga r l (k + n + 1) n _ hr1 (by omega) hs2).mono ?_
            rintro e t2 ⟨rfl, b2⟩
            go_wp2
            go_ret2
            refine ⟨HGE.out 0 11 (by rw [Gol.gV_bad (by rw [HE.out]; decide)]) HE.out.symm, ?_, Chg.of_below (b1.trans (b2.mono b1.size))⟩
            rw [Gol.gK_bad (by rw [HE.out]; decide), Nat.add_zero]
            exact HH.out.below (b1.trans (b2.mono b1.size))
          · have HV := hide (gol_val HZ.out hlt HRB.out (by omega))
            have hlow := Bit.get_lt l (k + n + 1) n
            go_wp2_with fail
            refine (get_calls ga r l (k + n + 1) n _ hr1 (by omega) (by omega)).mono ?_
            rintro e t2 ⟨rfl, hr2, ch2⟩
            have b2 := b1.trans (ch2.below (fun i h => by have h : i = ga := h; omega) b1.size)
            have hr2g := HH.out.below b2
            generalize Bit.get l (k + n + 1) n = low at *
            have hor := u64_top n low hlt hlow
            have hpow : 2 ^ n ≤ 2 ^ 31 := Nat.pow_le_pow_right (by omega) (by omega)
            have hp1 : 1 ≤ 2 ^ n := Nat.one_le_two_pow
            have hsum1 : 1 ≤ 2 ^ n + low := by omega
            have hsum2 : 2 ^ n + low < 4294967296 := by omega
            generalize hY : 2 ^ n + low = Y at *
            have hY1 : (1 : Int) ≤ (Y : Int) := by omega
            have hY2 : (Y : Int) < 4294967296 := by omega
            have d0 : t2.cell? ⟨ga, 0, none⟩ = some (.slice (some ⟨r, 0, none⟩) l.length l.length) := hr2.1.cell 0
            have d1 : t2.cell? ⟨ga, 1, none⟩ = some (.int .i64 ((k + n + 1 + n : Nat) : Int)) := hr2.1.cell 1
            have e0 : t2.cell? ⟨g, 0, none⟩ = some (.slice (some ⟨r, 0, none⟩) l.length l.length) := hr2g.1.cell 0
            have e1 : t2.cell? ⟨g, 1, none⟩ = some (.int .i64 (k : Int)) := hr2g.1.cell 1
            have f0 := hr2g.1.frozen 0
            have f1 := hr2g.1.frozen 1
            clear hr1 b1 ch2 hlow hY hpow hp1
            generalize hkk : k + n + 1 + n = kk at *
            have HKK := hide hkk
            clear hkk
            go_wp2
            go_ret2
            have hw3 := (hr2g.1.set_ 0 (.slice (some ⟨r, 0, none⟩) l.length l.length)).set_ 1 (.int .i64 (kk : Int))
            have ho3 := (hr2g.2.1.setFar (p := ⟨g, 0, none⟩) (by have := hr2g.ne; simp [blkOf]; exact this) (.slice (some ⟨r, 0, none⟩) l.length l.length)).setFar (p := ⟨g, 1, none⟩) (by have := hr2g.ne; simp [blkOf]; exact this) (.int .i64 (kk : Int))
            refine ⟨?_, ?_, ((Chg.of_below (S := One g) b2).setCell (p := ⟨g, 0, none⟩) (.inl rfl) _).setCell (p := ⟨g, 1, none⟩) (.inl rfl) _⟩
            · have e := HGE.out (Y - 1) 0 HV.out.2.2.symm HV.out.1.symm
              rw [show ((Y - 1 : Nat) : Int) = (Y : Int) - 1 from by omega] at e
              exact e
            · rw [HV.out.2.1]
              have hk2 : k + (2 * n + 1) = kk := by have := HKK.out; omega
              rw [hk2]
              exact ⟨by simpa using hw3, ho3, by omega, hl40⟩
    · obtain rfl : n = 32 := by omega
      rw [show (((32 : Nat) : Int)) = 32 from rfl]
      have HE := hide (Gol.gE_golomb HZ.out)
      clear hlt hn
      go_wp2
      go_ret2
      refine ⟨HGE.out 0 21 (by rw [Gol.gV_bad (by rw [HE.out]; decide)]) HE.out.symm, ?_, Chg.of_below hb⟩
      rw [Gol.gK_bad (by rw [HE.out]; decide), Nat.add_zero]
      exact HH.out.below hb

theorem zeros_succ {B : List Bool} {n : Nat} (h : Gol.zerosTo B n) (h1 : n < B.length) (h2 : B.getD n false = false) : Gol.zerosTo B (n + 1) :=
  ⟨by omega, fun i hi => by
    by_cases e : i = n
    · subst e; exact h2
    · exact h.2 i (by omega)⟩

theorem gE_cases (B : List Bool) : Gol.gE B = 0 ∨ ((Gol.gE B == 0) = false ∧ (Gol.gE B != 0) = true) := by
  by_cases h : Gol.gE B = 0
  · exact .inl h
  · exact .inr ⟨by simpa using h, by simpa using h⟩
end Go.Proofs.YtbfhpgpceakeiaaGreatDoor
namespace Go.Proofs.YtbfhpgpceakeiaaGreatDoor
open Go.RowKit Kin

theorem tw_false (B : List Bool) : ∀ n, n ≤ (B.takeWhile (! ·)).length → B.take n = List.replicate n false := by
  induction B with
  | nil => intro n h; simp at h; subst h; rfl
  | cons b B ih =>
    intro n h
    cases n with
    | zero => rfl
    | succ n =>
      cases b
      · rw [List.takeWhile_cons] at h
        simp only [Bool.not_false, if_true, List.length_cons] at h
        rw [List.take_succ_cons, ih n (by omega), List.replicate_succ]
      · simp at h
theorem num_zeros (n : Nat) : Bit.num (List.replicate n false) = 0 := by
  induction n with
  | zero => rfl
  | succ n ih => rw [List.replicate_succ', Bit.num_snoc, ih]; rfl
theorem gV_le (B : List Bool) : Gol.gV B ≤ 4294967294 := by
  unfold Gol.gV
  split
  · rename_i h
    have h2 : Gol.gN B ≠ 32 := fun e => by unfold Gol.gE at h; rw [if_pos e] at h; omega
    have h3 := (Gol.gN_le B).1
    have h5 : Gol.gN B ≤ (B.takeWhile (! ·)).length := by unfold Gol.gN; omega
    have e : B.take (2 * Gol.gN B + 1) = B.take (Gol.gN B) ++ (B.drop (Gol.gN B)).take (Gol.gN B + 1) := by
      rw [show 2 * Gol.gN B + 1 = Gol.gN B + (Gol.gN B + 1) from by omega, List.take_add]
    rw [e, tw_false B _ h5, Bit.num_append, num_zeros, Nat.zero_mul, Nat.zero_add]
    have h1 := Bit.num_lt ((B.drop (Gol.gN B)).take (Gol.gN B + 1))
    have h4 : 2 ^ ((B.drop (Gol.gN B)).take (Gol.gN B + 1)).length ≤ 2 ^ 32 := Nat.pow_le_pow_right (by omega) (by rw [List.length_take]; omega)
    omega
  · omega
theorem bl_of {x n : Nat} (h1 : 2 ^ n ≤ x) (h2 : x < 2 ^ (n + 1)) (hn : n < 64) : Gol.bl x = n + 1 := by
  have hle := Gol.bl_le h2 (by omega)
  have hp := Nat.two_pow_pos n
  have h64 : x < 2 ^ 64 := Nat.lt_of_lt_of_le h2 (Nat.pow_le_pow_right (by omega) (by omega))
  obtain ⟨_, _, i3⟩ := Gol.bl_spec x x (Nat.le_refl _) (by omega) h64
  rcases Nat.lt_or_ge (Gol.bl x) (n + 1) with h | h
  · have : 2 ^ Gol.bl x ≤ 2 ^ n := Nat.pow_le_pow_right (by omega) (by omega)
    omega
  · omega
theorem tw_next (B : List Bool) (h : (B.takeWhile (! ·)).length < B.length) : B.getD (B.takeWhile (! ·)).length false = true := by
  induction B with
  | nil => simp at h
  | cons b B ih =>
    cases b
    · rw [List.takeWhile_cons] at h ⊢
      simp only [Bool.not_false, if_true, List.length_cons] at h ⊢
      have := ih (by omega)
      simpa [List.getD] using this
    · rfl
theorem code_of {B : List Bool} (h : Gol.gE B = 0) : B = Gol.codeB (Gol.gV B) ++ B.drop (Gol.gK B) ∧ Gol.gK B = Gol.gl (Gol.gV B) := by
  have h2 : Gol.gN B ≠ 32 := fun e => by unfold Gol.gE at h; rw [if_pos e] at h; omega
  have hl : 2 * Gol.gN B + 1 ≤ B.length := by
    unfold Gol.gE at h
    rw [if_neg h2] at h
    split at h
    · omega
    · omega
  have hN : Gol.gN B = (B.takeWhile (! ·)).length := by unfold Gol.gN at *; omega
  have h3 := (Gol.gN_le B).1
  have hK : Gol.gK B = 2 * Gol.gN B + 1 := if_pos h
  have hV : Gol.gV B = Bit.num (B.take (2 * Gol.gN B + 1)) - 1 := if_pos h
  have hle := gV_le B
  have hb : B.getD (Gol.gN B) false = true := by rw [hN]; exact tw_next B (by omega)
  have hbit : B[Gol.gN B]'(by omega) = true := by
    rw [List.getD, List.getElem?_eq_getElem (by omega)] at hb
    simpa using hb
  have e : B.take (2 * Gol.gN B + 1) = List.replicate (Gol.gN B) false ++ (true :: (B.drop (Gol.gN B + 1)).take (Gol.gN B)) := by
    rw [show 2 * Gol.gN B + 1 = Gol.gN B + (Gol.gN B + 1) from by omega, List.take_add, tw_false B _ (by omega)]
    congr 1
    rw [List.drop_eq_getElem_cons (by omega), hbit, List.take_succ_cons]
  clear hbit
  generalize hn : Gol.gN B = n at *
  have hnum : Bit.num (B.take (2 * n + 1)) = 2 ^ n + Bit.num ((B.drop (n + 1)).take n) := by
    rw [e, Bit.num_append, num_zeros, Nat.zero_mul, Nat.zero_add]
    have := Bit.num_append [true] ((B.drop (n + 1)).take n)
    rw [List.singleton_append] at this
    rw [this, List.length_take, List.length_drop, show min n (B.length - (n + 1)) = n from by omega]
    show 1 * 2 ^ n + _ = _
    omega
  have hT := Bit.num_lt ((B.drop (n + 1)).take n)
  rw [List.length_take, List.length_drop, show min n (B.length - (n + 1)) = n from by omega] at hT
  have hp := Nat.two_pow_pos n
  have hv1 : Gol.gV B + 1 = Bit.num (B.take (2 * n + 1)) := by omega
  have hbl : Gol.bl (Gol.gV B + 1) = n + 1 := by
    rw [hv1, hnum]
    exact bl_of (by omega) (by rw [Nat.pow_succ]; omega) (by omega)
  have hcode : Gol.codeB (Gol.gV B) = B.take (2 * n + 1) := by
    unfold Gol.codeB
    rw [hbl, hv1, show 2 * (n + 1) - 1 = 2 * n + 1 from by omega]
    have := Bit.digits_num (B.take (2 * n + 1))
    rw [List.length_take, show min (2 * n + 1) B.length = 2 * n + 1 from by omega] at this
    exact this
  refine ⟨?_, ?_⟩
  · rw [hcode, hK, List.take_append_drop]
  · rw [hK, Gol.gl_of hle, hbl]; omega
theorem row_pre (C : List Bool) : ∃ E, Bit.row (Bit.pack C) = C ++ E := by
  have h : C <+: Bit.row (Bit.pack C) := by
    rw [List.prefix_iff_eq_take]
    apply List.ext_getElem?
    intro i
    by_cases hi : i < C.length
    · rw [List.getElem?_take_of_lt hi, Bit.row_at _ (by rw [Bit.length_pack]; omega), Bit.rbit_pack, List.getD, List.getElem?_eq_getElem hi]; rfl
    · rw [List.getElem?_eq_none (by omega), List.getElem?_eq_none (by rw [List.length_take]; omega)]
  obtain ⟨E, e⟩ := h
  exact ⟨E, e.symm⟩
theorem row_append (l m : List UInt8) : Bit.row (l ++ m) = Bit.row l ++ Bit.row m := by
  apply List.ext_getElem?
  intro k
  by_cases hk : k < 8 * l.length
  · rw [List.getElem?_append_left (by rw [Bit.length_row]; exact hk), Bit.row_at _ (by rw [List.length_append]; omega), Bit.row_at _ hk]
    congr 1
    unfold Bit.rbit
    rw [List.getD, List.getD, List.getElem?_append_left (by omega)]
  · rw [List.getElem?_append_right (by rw [Bit.length_row]; omega), Bit.length_row]
    by_cases hk2 : k < 8 * (l.length + m.length)
    · rw [Bit.row_at _ (by rw [List.length_append]; exact hk2), Bit.row_at _ (by omega)]
      congr 1
      unfold Bit.rbit
      rw [List.getD, List.getD, List.getElem?_append_right (by omega), show k / 8 - l.length = (k - 8 * l.length) / 8 from by omega, show (k - 8 * l.length) % 8 = k % 8 from by omega]
    · rw [List.getElem?_eq_none (by rw [Bit.length_row, List.length_append]; omega), List.getElem?_eq_none (by rw [Bit.length_row]; omega)]
theorem row_pack_get (C : List Bool) (i : Nat) : (Bit.row (Bit.pack C)).getD i false = C.getD i false := by
  by_cases h : i < 8 * (Bit.pack C).length
  · rw [List.getD, Bit.row_at _ h, Option.getD_some, Bit.rbit_pack]
  · rw [List.getD, List.getElem?_eq_none (by rw [Bit.length_row]; omega), List.getD, List.getElem?_eq_none]
    rw [Bit.length_pack] at h; omega
theorem restB_app (B : List Bool) (r : List UInt8) : Bit.restB (Bit.row (Bit.pack B ++ r)) B.length = true := by
  refine restB_of fun i h1 h2 => ?_
  have hl := Bit.length_pack B
  have := row_pack_get B i
  rw [row_append, List.getD, List.getElem?_append_left (by rw [Bit.length_row]; omega)]
  rw [List.getD] at this
  rw [this, List.getD, List.getElem?_eq_none h1]; rfl
end Go.Proofs.YtbfhpgpceakeiaaGreatDoor
