/- The document's writer, each function by its contract. Conditions: the object is as the calls leave it; at most 2^40 bits. -/
import Derived.Test.YtdelaobffbaocaaRef01Pack
import Derived.Test.YtdelaobffbaocaaHeld
import Derived.Deep.RegionLaw
namespace Go.Proofs.Ytdelaobffbaocaa
open Go.RowKit Kin

/-- at block g lies the document's writer of the bits B, its row in block R -/
def RefWIs (w : World) (g : Nat) (R : Option Nat) (B : List Bool) : Prop :=
  ∃ A n c, Blk w g 41 #[.slice A n c] ∧ Own8 w 5 A n c (Bit.zo B) ∧ blkOf A = R
theorem RefWIs.lt {w : World} {g : Nat} {R : Option Nat} {B : List Bool} (h : RefWIs w g R B) : g < w.heap.size := by
  obtain ⟨A, n, c, h1, _, _⟩ := h
  exact h1.lt
theorem RefWIs.rlt {w : World} {g : Nat} {R : Option Nat} {B : List Bool} (h : RefWIs w g R B) : ∀ r, R = some r → r < w.heap.size := by
  obtain ⟨A, n, c, _, h2, h3⟩ := h
  intro r hr
  exact h2.lt r (by rw [h3]; exact hr)
theorem RefWIs.keep {S : Nat → Prop} {w w' : World} {g : Nat} {R : Option Nat} {B : List Bool} (h : RefWIs w g R B) (hc : Chg S w w') (hn : ∀ k, Foot g R k → ¬ S k) : RefWIs w' g R B := by
  obtain ⟨A, n, c, h1, h2, h3⟩ := h
  exact ⟨A, n, c, hc.blk h1 (hn g (.inl rfl)), hc.own h2 (fun k hk => hn k (.inr (by rw [← h3]; exact hk))), h3⟩
theorem RefWIs.below {w w' : World} {g : Nat} {R : Option Nat} {B : List Bool} (h : RefWIs w g R B) (hc : Below w.heap.size w w') : RefWIs w' g R B :=
  h.keep (S := fun _ => False) (Chg.of_below hc) (fun _ _ e => e)

theorem refw_grow {w w3 w4 : World} {g : Nat} {R : Option Nat} {A2 A4 : Option Addr} {n2 c2 n4 c4 : Nat} {B' : List Bool} (ch3 : Chg (Foot g R) w w3) (hr : RowNew w.heap.size R (blkOf A2)) (bk3 : Blk w3 g 41 #[.slice A2 n2 c2])
    (own4 : Own8 w4 5 A4 n4 c4 (Bit.zo B')) (grow4 : w3.grownBy w4 (blkOf A2)) (at4 : blkOf A4 = blkOf A2 ∨ blkOf A4 = some w3.heap.size) (hne : blkOf A2 ≠ some g) :
    RefWIs (w4.setCell ⟨g, 0, none⟩ (.slice A4 n4 c4)) g (blkOf A4) B' ∧ Chg (Foot g R) w (w4.setCell ⟨g, 0, none⟩ (.slice A4 n4 c4)) ∧ RowNew w.heap.size R (blkOf A4) := by
  have bk4 := (bk3.grown grow4 (Ne.symm hne)).set_ 0 (.slice A4 n4 c4)
  have hne4 : blkOf A4 ≠ some g := by
    rcases at4 with e | e
    · rw [e]; exact hne
    · rw [e]; have := bk3.lt; simp; omega
  have z := ch3.size
  refine ⟨⟨A4, n4, c4, by simpa using bk4, own4.setFar (p := ⟨g, 0, none⟩) hne4 _, rfl⟩, ?_, ?_⟩
  · refine Chg.setCell ?_ (.inl (.inl rfl)) _
    refine Chg.grown ch3 grow4 (fun r e => ?_)
    rcases hr with e' | ⟨r', e', hge⟩
    · exact .inl (.inr (by rw [← e']; exact e))
    · rw [e] at e'; injection e' with e'; exact .inr (by omega)
  · rcases at4 with e | e
    · rw [e]; exact hr
    · exact .inr ⟨_, e, by omega⟩

set_option maxRecDepth 100000 in
theorem refput_bad (P0 : Option Addr) (v n : Int) (w : World) (h : n < 0 ∨ 64 < n) : Calls Try.prog 23 #[.pointer P0, .int .u64 v, .int .i64 n] w fun e w' => e = .returned (.int .i64 1) ∧ w = w' := by
  by_cases h1 : n < 0
  · go_enter Try.func23, Try.ntmps23
    go_wp2
    go_ret
    exact ⟨rfl, rfl⟩
  · have h2 : 64 < n := by omega
    clear h
    go_enter Try.func23, Try.ntmps23
    go_wp2
    go_ret
    exact ⟨rfl, rfl⟩

set_option maxRecDepth 100000 in
set_option maxHeartbeats 1000000 in
theorem refput_wide (P0 : Option Addr) (v n : Nat) (w : World) (hv : v < 18446744073709551616) (hn : n ≤ 64) (h : 2 ^ n ≤ v) :
    Calls Try.prog 23 #[.pointer P0, .int .u64 (v : Int), .int .i64 (n : Int)] w fun e w' => e = .returned (.int .i64 1) ∧ Below w.heap.size w w' := by
  have d1 : decide ((n : Int) < 0) = false := by simp
  have d2 : decide ((64 : Int) < (n : Int)) = false := by simp; omega
  have hq : (((Bit.num (Bit.digits v n) : Nat) : Int) != (v : Int)) = true := by
    rw [Bit.num_digits]
    have hm := Nat.mod_lt v (Nat.two_pow_pos n)
    have hne : v % 2 ^ n ≠ v := by omega
    generalize v % 2 ^ n = r at *
    simp; omega
  have HL := hide (Bit.length_digits v n)
  clear h
  go_enter Try.func23, Try.ntmps23
  go_wp2_with fail
  refine (digits_calls v n _ hv hn).mono ?_
  rintro e w1 ⟨A1, n1, c1, rfl, o1, g1, b1⟩
  have hn1 : Hid (n1 = (Bit.digits v n).length) := by rw [o1.1, Bit.length_zo]; exact rfl
  have hn1' : n1 ≤ 64 := by rw [hn1.out, HL.out]; exact hn
  generalize Bit.digits v n = D at *
  go_wp2_with fail
  refine (number_calls _ _ _ D _ hn1.out hn1' o1.byt).mono ?_
  rintro e w2 ⟨rfl, rfl⟩
  go_wp2_with fail
  go_ret
  exact ⟨rfl, b1⟩

set_option maxRecDepth 100000 in
set_option maxHeartbeats 2000000 in
theorem refput_calls (g : Nat) (R : Option Nat) (B : List Bool) (v n : Nat) (w : World) (h : RefWIs w g R B) (hB : B.length ≤ 1099511627776) (hn : n ≤ 64) (hv : v < 2 ^ n) :
    Calls Try.prog 23 #[.pointer (some ⟨g, 0, none⟩), .int .u64 (v : Int), .int .i64 (n : Int)] w
      fun e w' => e = .returned (.int .i64 0) ∧ ∃ R', RefWIs w' g R' (B ++ Bit.digits v n) ∧ Chg (Foot g R) w w' ∧ RowNew w.heap.size R R' := by
  have d1 : decide ((n : Int) < 0) = false := by simp
  have d2 : decide ((64 : Int) < (n : Int)) = false := by simp; omega
  have hv64 : v < 18446744073709551616 := Nat.lt_of_lt_of_le hv (Nat.pow_le_pow_right (n := 2) (by omega) hn)
  have hq : (((Bit.num (Bit.digits v n) : Nat) : Int) != (v : Int)) = false := by
    rw [Bit.num_digits, Nat.mod_eq_of_lt hv]
    simp
  have HL := hide (Bit.length_digits v n)
  clear hv
  go_enter Try.func23, Try.ntmps23
  go_wp2_with fail
  refine (digits_calls v n _ hv64 hn).mono ?_
  rintro e w1 ⟨A1, n1, c1, rfl, o1, g1, b1⟩
  have hn1 : Hid (n1 = (Bit.digits v n).length) := by rw [o1.1, Bit.length_zo]; exact rfl
  have hn1' : n1 ≤ 64 := by rw [hn1.out, HL.out]; exact hn
  have DC := digits_calls v n
  have HDC := hide DC
  clear DC
  generalize hD : Bit.digits v n = D at *
  have HD := hide hD
  clear hD
  go_wp2_with fail
  refine (number_calls _ _ _ D _ hn1.out hn1' o1.byt).mono ?_
  rintro e w2 ⟨rfl, rfl⟩
  have h1 := h.below b1
  have ch1 : Chg (Foot g R) w w1 := Chg.of_below b1
  have z01 := ch1.size
  clear o1 h b1 g1 hn1 hn1'
  obtain ⟨A2, n2, c2, bk, ow, hR⟩ := h1
  have hn2 : n2 ≤ 1099511627776 := by rw [ow.1, Bit.length_zo]; exact hB
  have hne : blkOf A2 ≠ some g := by have := own_blk_ne ow.2 bk (by decide); rwa [ownBlock_slice] at this
  have HNE := hide hne
  clear hne
  go_wp2
  have bkd := bk.drew
  have owd := ow.drew
  have chd := ch1.drew
  have c0 : w1.drew.cell? ⟨g, 0, none⟩ = some (.slice A2 n2 c2) := bkd.cell 0
  clear bk ow ch1
  go_region_law
    (first
      | (go_simp; go_at_call 49; refine (HDC.out _ hv64 hn).mono ?_; rintro e w3 ⟨A3, n3, c3, rfl, o3, g3, b3⟩; have bk3 := bkd.below b3 bkd.lt; have k3 : w3.cell? ⟨g, 0, none⟩ = some (.slice A2 n2 c2) := bk3.cell 0; have ow3 := owd.below b3 owd.lt; have ch3 := chd.trans (Chg.of_below (S := Foot g R) b3) (fun _ _ k => k) (fun _ _ k => k); have hn3 : n3 ≤ 64 := (by rw [o3.1, Bit.length_zo, HL.out]; exact hn); dsimp only)
      | (refine step_append8 (by rfl) (.tmp 25) (.tmp 28) 22 5 (by rfl) bytesT _ _ _ _ (by rfl) ow3 _ _ _ _ _ (by rfl) o3.byt o3.1 (by omega) ?_; intro A4 c4 w4 own4 grow4 at4; have bk4 := bk3.grown grow4 (Ne.symm HNE.out); have k4 : w4.cell? ⟨g, 0, none⟩ = some (.slice A2 n2 c2) := bk4.cell 0; have f4 := bk4.frozen 0))
  all_goals
    obtain ⟨f1, f2, f3⟩ := refw_grow ch3 (by rw [hR]; exact RowNew.refl _ _) bk3 (by rw [← Bit.zo_append] at own4; exact own4) grow4 at4 HNE.out
    clear own4 grow4 at4 bk3 bk4 k3 k4 f4
    generalize w4.setCell ⟨g, 0, none⟩ (.slice A4 (n2 + n3) c4) = W at *
    go_wp2
    go_ret
    exact ⟨rfl, _, by rw [HD.out]; exact f1, f2, f3⟩

/-- the length of the slice at block g -/
def lenAt (w : World) (g : Nat) : Nat := match w.cell? ⟨g, 0, none⟩ with | some (.slice _ n _) => n | _ => 0
theorem lenAt_of {w : World} {g : Nat} {R : Option Nat} {B : List Bool} (h : RefWIs w g R B) : lenAt w g = B.length := by
  obtain ⟨A, n, c, h1, h2, _⟩ := h
  have c0 : w.cell? ⟨g, 0, none⟩ = some (.slice A n c) := h1.cell 0
  unfold lenAt
  rw [c0]
  show n = _
  rw [h2.1, Bit.length_zo]

set_option maxRecDepth 100000 in
set_option maxHeartbeats 2000000 in
theorem refwalign_calls (g : Nat) (R : Option Nat) (B : List Bool) (w : World) (h : RefWIs w g R B) (hB : B.length ≤ 1099511627776) :
    Calls Try.prog 24 #[.pointer (some ⟨g, 0, none⟩)] w
      fun e w' => e = .returned (.tuple #[]) ∧ ∃ R', RefWIs w' g R' (Bit.fill B) ∧ Chg (Foot g R) w w' ∧ RowNew w.heap.size R R' := by
  go_enter Try.func24, Try.ntmps24
  go_wp2
  go_loopw [] (fun wr => ∃ (k : Nat) (R' : Option Nat), k ≤ 8 * ((B.length + 7) / 8) - B.length ∧ RefWIs wr g R' (B ++ List.replicate k false) ∧ Chg (Foot g R) w wr ∧ RowNew w.heap.size R R') (fun wr => 8 * ((B.length + 7) / 8) - lenAt wr g)
  case atStart => exact ⟨0, R, Nat.zero_le _, by simpa using h, Chg.refl _ _, RowNew.refl _ _⟩
  case round =>
    obtain ⟨k, R', hk, q, qc, qr⟩ := hrel
    have HLA := hide (lenAt_of q)
    have HLL : Hid ((B ++ List.replicate k false).length = B.length + k) := by simp [Hid]
    have HS : Hid (B ++ List.replicate (k + 1) false = (B ++ List.replicate k false) ++ [false]) := by rw [List.replicate_succ', List.append_assoc]; exact rfl
    have HF : Hid (k = 8 * ((B.length + 7) / 8) - B.length → B ++ List.replicate k false = Bit.fill B) := by intro e; rw [e]; rfl
    generalize hm : B ++ List.replicate k false = M at *
    clear hm h
    obtain ⟨A, n, c, bk, ow, hR⟩ := q
    have hn : n = M.length := by rw [ow.1, Bit.length_zo]
    have hnM : M.length = B.length + k := HLL.out
    have HM := hide hnM
    have hnB : n ≤ 1099511627776 + 8 := by omega
    have c0 : wr.cell? ⟨g, 0, none⟩ = some (.slice A n c) := bk.cell 0
    have hne : blkOf A ≠ some g := by have := own_blk_ne ow.2 bk (by decide); rwa [ownBlock_slice] at this
    have HNE := hide hne
    have HNN := hide hn
    by_cases h8 : n % 8 = 0
    · have hk' : k = 8 * ((B.length + 7) / 8) - B.length := by omega
      have dd : ((n : Int) % 8 != 0) = false := by simp; omega
      have H1 := hide hk'
      clear hk' h8 hn hnM hne hk
      go_wp2
      go_end0
      have e := HF.out H1.out
      exact ⟨rfl, R', by rw [← e]; exact ⟨A, n, c, bk, ow, hR⟩, qc, qr⟩
    · have dd : ((n : Int) % 8 != 0) = true := by simp; omega
      have hk' : k + 1 ≤ 8 * ((B.length + 7) / 8) - B.length := by omega
      have H1 := hide hk'
      clear hk' h8 hn hnM hne hk
      go_wp2_with (at_builtin; refine wpList_append8 (by rfl) (.tmp 13) (.tmp 14) 22 5 (by rfl) bytesT _ _ _ _ (by rfl) (ow.alloc _) _ _ _ _ [0] (by rfl) (Byt.new _ _ _ _ _ rfl) (by rfl) (by simp; omega) ?_; intro A2 c2 w2 own2 grow2 at2; have b2 := (bk.alloc _).grown grow2 (Ne.symm HNE.out); have k0 := b2.cell 0; have k1 := b2.frozen 0)
      obtain ⟨f1, f2, f3⟩ := refw_grow (B' := M ++ [false]) (qc.alloc _) (by rw [hR]; exact qr) (bk.alloc _) (by rw [Bit.zo_append]; exact own2) grow2 at2 HNE.out
      have HLA2 := hide (lenAt_of f1)
      clear own2 grow2 at2 b2 k0 k1 c0
      generalize w2.setCell ⟨g, 0, none⟩ (.slice A2 (n + 1) c2) = W at *
      go_roundw
      case rel => exact ⟨k + 1, _, H1.out, by rw [HS.out]; exact f1, f2, f3⟩
      case measure =>
        have e1 := HLA.out
        have e2 := HLA2.out
        rw [List.length_append, List.length_singleton] at e2
        have e3 := H1.out
        have e4 := HM.out
        omega
end Go.Proofs.Ytdelaobffbaocaa
