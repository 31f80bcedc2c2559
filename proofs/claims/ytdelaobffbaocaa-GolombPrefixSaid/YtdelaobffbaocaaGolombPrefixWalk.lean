/- The statement GolombPrefix, walked: it returns true and changes nothing that was there. No conditions. -/
import Derived.Test.YtdelaobffbaocaaLaw02Alive
import Derived.OpenShut
import Derived.WalkLawsBesides
import Derived.WalkSpells
namespace Go.Proofs.Ytdelaobffbaocaa
open Go.RowKit Kin

theorem num_inj {A B : List Bool} (hl : A.length = B.length) (h : Bit.num A = Bit.num B) : A = B := by
  rw [← Bit.digits_num A, ← Bit.digits_num B, h, hl]
theorem code_min {a b n : Nat} (ha : a ≤ 4294967294) (hb : b ≤ 4294967294) (hn : n = min (Gol.gl a) (Gol.gl b)) :
    ((((Bit.get (Bit.pack (Gol.codeB a)) 0 n : Nat) : Int) == ((Bit.get (Bit.pack (Gol.codeB b)) 0 n : Nat) : Int)) == ((a : Int) == (b : Int))) = true := by
  have la := Gol.length_codeB ha
  have lb := Gol.length_codeB hb
  rw [Bit.get_pack _ _ _ (by omega), Bit.get_pack _ _ _ (by omega), List.drop_zero, List.drop_zero]
  by_cases h : a = b
  · subst h; simp
  · have h1 : ((a : Int) == (b : Int)) = false := by simp; omega
    rw [h1]
    have h2 : Bit.num ((Gol.codeB a).take n) ≠ Bit.num ((Gol.codeB b).take n) := by
      intro e
      have e2 := num_inj (by rw [List.length_take, List.length_take]; omega) e
      rcases Nat.le_total (Gol.gl a) (Gol.gl b) with hle | hle
      · rw [List.take_of_length_le (by omega)] at e2
        exact h (Gol.code_apart ha hb (by rw [e2]; exact List.take_prefix _ _))
      · rw [List.take_of_length_le (l := Gol.codeB b) (by omega)] at e2
        exact h (Gol.code_apart hb ha (by rw [← e2]; exact List.take_prefix _ _)).symm
    generalize Bit.num ((Gol.codeB a).take n) = X at *
    generalize Bit.num ((Gol.codeB b).take n) = Y at *
    simp; omega

set_option maxRecDepth 100000 in
set_option maxHeartbeats 4000000 in
theorem golombPrefix_bad (a b : Nat) (w : World) (ha : a < 18446744073709551616) (h : 4294967294 < a ∨ (a ≤ 4294967294 ∧ 4294967294 < b)) :
    Calls Try.prog 11 #[.int .u64 (a : Int), .int .u64 (b : Int)] w fun e w' => e = .returned (.bool true) ∧ Below w.heap.size w w' := by
  rcases h with h | ⟨h, h'⟩
  · have d1 : decide ((4294967294 : Int) < (a : Int)) = true := by simp; omega
    have d2 : decide ((a : Int) ≤ 4294967294) = false := by simp; omega
    have HG := hide (Gol.gl_big h)
    go_enter Try.func11, Try.ntmps11
    go_wp2_with fail
    refine (alive2_calls _).mono ?_
    rintro e w3 ⟨rfl, b3⟩
    go_wp2_with fail
    refine (glen_calls a _ ha).mono ?_
    rintro e w4 ⟨rfl, rfl⟩
    rw [HG.out]
    go_wp2
    go_ret
    exact ⟨rfl, b3⟩
  · have d1 : decide ((4294967294 : Int) < (a : Int)) = false := by simp; omega
    have d3 : decide ((4294967294 : Int) < (b : Int)) = true := by simp; omega
    have d2 : decide ((a : Int) ≤ 4294967294) = true := by simp; omega
    go_enter Try.func11, Try.ntmps11
    go_wp2_with fail
    refine (alive2_calls _).mono ?_
    rintro e w3 ⟨rfl, b3⟩
    go_wp2
    go_ret
    exact ⟨rfl, b3⟩

set_option maxRecDepth 100000 in
set_option maxHeartbeats 4000000 in
theorem golombPrefix_good (a b : Nat) (w : World) (ha : a ≤ 4294967294) (hb : b ≤ 4294967294) :
    Calls Try.prog 11 #[.int .u64 (a : Int), .int .u64 (b : Int)] w fun e w' => e = .returned (.bool true) ∧ Below w.heap.size w w' := by
  have d1 : decide ((4294967294 : Int) < (a : Int)) = false := by simp; omega
  have d3 : decide ((4294967294 : Int) < (b : Int)) = false := by simp; omega
  have la := Gol.length_codeB ha
  have lb := Gol.length_codeB hb
  have ga := Gol.gl_le a
  have gb := Gol.gl_le b
  have pa : 1 ≤ Gol.gl a := by rw [Gol.gl_of ha]; have := (Gol.bl_code ha).1; omega
  have pb : 1 ≤ Gol.gl b := by rw [Gol.gl_of hb]; have := (Gol.bl_code hb).1; omega
  obtain ⟨n, hn⟩ : ∃ n, n = min (Gol.gl a) (Gol.gl b) := ⟨_, rfl⟩
  have HCM := hide (code_min ha hb hn)
  have HA1 : Hid (gputB [] a = Gol.codeB a) := by rw [gputB_ok ha, List.nil_append]; exact rfl
  have HB1 : Hid (gputB [] b = Gol.codeB b) := by rw [gputB_ok hb, List.nil_append]; exact rfl
  have hn1 : 1 ≤ n := by omega
  have hn64 : n ≤ 63 := by omega
  have hpa : Hid (n ≤ 8 * (Bit.pack (Gol.codeB a)).length ∧ (Bit.pack (Gol.codeB a)).length ≤ 8) := by rw [Bit.length_pack]; exact ⟨by omega, by omega⟩
  have hpb : Hid (n ≤ 8 * (Bit.pack (Gol.codeB b)).length ∧ (Bit.pack (Gol.codeB b)).length ≤ 8) := by rw [Bit.length_pack]; exact ⟨by omega, by omega⟩
  have HMN : Hid (min ((Gol.codeB a).length : Int) ((Gol.codeB b).length : Int) = (n : Int)) := by show _ = _; omega
  have hla : (Gol.codeB a).length ≤ 63 := by omega
  have hlb : (Gol.codeB b).length ≤ 63 := by omega
  have hE1 := gputE_ok ha
  have hE2 := gputE_ok hb
  have HE1 := hide hE1
  have HE2 := hide hE2
  generalize hCa : Gol.codeB a = Ca at *
  generalize hCb : Gol.codeB b = Cb at *
  clear hn la lb ga gb pa pb hE1 hE2 hCa hCb
  go_enter Try.func11, Try.ntmps11
  go_wp2_with fail
  refine (new_calls _).mono ?_
  rintro e w1 ⟨rfl, hv1, b1⟩
  go_wp2_with fail
  refine (new_calls _).mono ?_
  rintro e w2 ⟨rfl, hw2, b2⟩
  have hv2 := hv1.below b2
  have z1 := hv1.lt
  obtain ⟨gv, hgv⟩ : ∃ g, g = w.heap.size := ⟨_, rfl⟩
  obtain ⟨gw, hgw⟩ : ∃ g, g = w1.heap.size := ⟨_, rfl⟩
  rw [← hgv] at hv2
  rw [← hgw] at hw2
  rw [← hgv, ← hgw]
  have B2 := bnext b1 b2
  have D2 : Disj gv none gw none := ⟨by omega, by simp, by simp, by simp⟩
  have ge1 : w.heap.size ≤ gv := by omega
  have ge2 : w.heap.size ≤ gw := by have := b1.size; omega
  clear hgv hgw z1 hv1 b1 b2
  go_wp2_with fail
  refine (gput_any gv none [] a _ hv2 (by simp) (by omega)).mono ?_
  rintro e w3 ⟨rfl, Rv, hv3, c3, r3⟩
  have hw3 := hw2.keep c3 D2.foot
  have D3 := D2.left r3 hw2.lt (by simp)
  have B3 := B2.trans (c3.below (Foot.ge ge1 (by simp)) B2.size)
  have gr3 := r3.ge (B := w.heap.size) (by simp) B2.size
  clear hv2 c3 r3 hw2 D2 B2
  go_wp2_with fail
  refine (gput_any gw none [] b _ hw3 (by simp) (by omega)).mono ?_
  rintro e w4 ⟨rfl, Rw, hw4, c4, r4⟩
  have hv4 := hv3.keep c4 D3.symm.foot
  have B4 := B3.trans (c4.below (Foot.ge ge2 (by simp)) B3.size)
  clear hv3 c4 r4 hw3 D3 B3 gr3
  rw [HA1.out] at hv4
  rw [HB1.out] at hw4
  rw [HE1.out, HE2.out]
  go_wp2_with fail
  refine (len_calls gv Rv Ca _ hv4).mono ?_
  rintro e w5 ⟨rfl, rfl⟩
  go_wp2_with fail
  refine (len_calls gw Rw Cb _ hw4).mono ?_
  rintro e w5 ⟨rfl, rfl⟩
  go_wp2_with fail
  rw [HMN.out]
  refine (wbytes_calls gv Rv Ca _ hv4 (by omega)).mono ?_
  rintro e w5 ⟨A5, n5, c5, rfl, o5, g5, b5⟩
  have hw5 := hw4.below b5
  have B5 := B4.trans (b5.mono B4.size)
  clear hw4 hv4 b5 g5
  go_wp2_with fail
  refine (open_calls _ _ _ (Bit.pack Ca) _ o5.1 (by rw [o5.1]; have := hpa.out.2; omega) o5.byt).mono ?_
  rintro e w6 ⟨rfl, hr6, b6⟩
  have hw6 := hw5.below b6
  have B6 := B5.trans (b6.mono B5.size)
  go_wp2_with fail
  refine (get_calls _ _ (Bit.pack Ca) 0 n _ hr6 (by omega) (by have := hpa.out.1; omega)).mono ?_
  rintro e w7 ⟨rfl, hr7, c7⟩
  have z5 := hw5.lt
  have z5' := hw5.rlt
  have hw7 := hw6.keep c7 (by
    rintro k (rfl | e) hk
    · have hk : k = w5.heap.size + 1 := hk
      omega
    · have hk : k = w5.heap.size + 1 := hk
      have := z5' k e
      omega)
  have B7 := B6.trans (c7.below (fun i hi => by have hi : i = w5.heap.size + 1 := hi; have := B5.size; omega) B6.size)
  clear hw5 hw6 hr6 hr7 c7 b6 B5 B6 o5 z5 z5'
  go_wp2_with fail
  refine (wbytes_calls gw Rw Cb _ hw7 (by omega)).mono ?_
  rintro e w8 ⟨A8, n8, c8, rfl, o8, g8, b8⟩
  have B8 := B7.trans (b8.mono B7.size)
  clear hw7 b8 g8
  go_wp2_with fail
  refine (open_calls _ _ _ (Bit.pack Cb) _ o8.1 (by rw [o8.1]; have := hpb.out.2; omega) o8.byt).mono ?_
  rintro e w9 ⟨rfl, hr9, b9⟩
  have B9 := B8.trans (b9.mono B8.size)
  go_wp2_with fail
  refine (get_calls _ _ (Bit.pack Cb) 0 n _ hr9 (by omega) (by have := hpb.out.1; omega)).mono ?_
  rintro e w10 ⟨rfl, hr10, c10⟩
  have B10 := B9.trans (c10.below (fun i hi => by have hi : i = w8.heap.size + 1 := hi; have := B8.size; omega) B9.size)
  clear hr9 hr10 c10 b9 B8 B9 o8
  have hcm := HCM.out
  clear HCM
  generalize Bit.get (Bit.pack Ca) 0 n = X at *
  generalize Bit.get (Bit.pack Cb) 0 n = Y at *
  go_wp2_with fail
  refine (alive2_calls _).mono ?_
  rintro e w3 ⟨rfl, b3⟩
  go_wp2
  go_ret
  exact ⟨rfl, B10.trans (b3.mono B10.size)⟩
theorem golombPrefix_walk (a b : Int) (w : World) (wa : (Lit.int .u64 a).wf = true) (wb : (Lit.int .u64 b).wf = true) :
    Calls Try.prog 11 #[.int .u64 a, .int .u64 b] w fun e w' => e = .returned (.bool true) ∧ Below w.heap.size w w' := by
  have ⟨v1, v2⟩ := bounds_u64 wa
  have ⟨x1, x2⟩ := bounds_u64 wb
  obtain ⟨a, rfl⟩ : ∃ k : Nat, a = k := ⟨a.toNat, by omega⟩
  obtain ⟨b, rfl⟩ : ∃ k : Nat, b = k := ⟨b.toNat, by omega⟩
  by_cases h : a ≤ 4294967294 ∧ b ≤ 4294967294
  · exact golombPrefix_good a b w h.1 h.2
  · exact golombPrefix_bad a b w (by omega) (by omega)
end Go.Proofs.Ytdelaobffbaocaa
