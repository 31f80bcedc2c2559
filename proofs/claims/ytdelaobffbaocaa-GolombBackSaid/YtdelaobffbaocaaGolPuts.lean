/- Golomb codes that are put, the program's and the document's writers, each function by its contract. Conditions: the objects are as the calls leave them; at most 2^40 bits. -/
import Derived.Test.YtdelaobffbaocaaGolWalks
namespace Go.Proofs.Ytdelaobffbaocaa
open Go.RowKit Kin

def gputE (v : Nat) : Int := if v ≤ 4294967294 then 0 else 1
def gputB (B : List Bool) (v : Nat) : List Bool := if v ≤ 4294967294 then B ++ Gol.codeB v else B
theorem gputE_ok {v : Nat} (h : v ≤ 4294967294) : gputE v = 0 := if_pos h
theorem gputB_ok {B : List Bool} {v : Nat} (h : v ≤ 4294967294) : gputB B v = B ++ Gol.codeB v := if_pos h
theorem gputE_no {v : Nat} (h : 4294967294 < v) : gputE v = 1 := if_neg (by omega)
theorem gputB_no {B : List Bool} {v : Nat} (h : 4294967294 < v) : gputB B v = B := if_neg (by omega)
theorem length_gputB (B : List Bool) (v : Nat) : (gputB B v).length ≤ B.length + 63 := by
  by_cases h : v ≤ 4294967294
  · rw [gputB_ok h, List.length_append, Gol.length_codeB h]; have := Gol.gl_le v; omega
  · rw [gputB_no (by omega)]; omega

set_option maxRecDepth 100000 in
theorem gput_nil (v : Int) (w : World) : Calls Try.prog 41 #[.pointer none, .int .u64 v] w fun e w' => e = .returned (.int .i64 1) ∧ w = w' := by
  go_enter Try.func41, Try.ntmps41
  go_wp2
  go_ret
  exact ⟨rfl, rfl⟩
set_option maxRecDepth 100000 in
theorem gput_any (g : Nat) (R : Option Nat) (B : List Bool) (v : Nat) (w : World) (h : WriterIs w g R B) (hB : B.length ≤ 1099511627776) (hv : v < 18446744073709551616) :
    Calls Try.prog 41 #[.pointer (some ⟨g, 0, none⟩), .int .u64 (v : Int)] w
      fun e w' => e = .returned (.int .i64 (gputE v)) ∧ ∃ R', WriterIs w' g R' (gputB B v) ∧ Chg (Foot g R) w w' ∧ RowNew w.heap.size R R' := by
  by_cases hm : v ≤ 4294967294
  · rw [gputE_ok hm, gputB_ok hm]
    have d : decide ((4294967294 : Int) < (v : Int)) = false := by simp; omega
    have HF := hide (Gol.code_fits hm)
    have HC : Hid (Gol.codeB v = Bit.digits (v + 1) (Gol.gl v)) := by rw [Gol.gl_of hm]; exact rfl
    have hgl := Gol.gl_le v
    have HL := hide (glen_calls v)
    rw [HC.out]
    clear HC
    generalize Gol.gl v = L at *
    go_enter Try.func41, Try.ntmps41
    go_wp2_with fail
    refine (HL.out _ hv).mono ?_
    rintro e w1 ⟨rfl, rfl⟩
    go_wp2_with fail
    rw [show ((v : Int) + 1) = ((v + 1 : Nat) : Int) from by omega]
    refine (put_calls g R B (v + 1) L _ h hB (by omega) HF.out).mono ?_
    rintro e w2 ⟨rfl, hh⟩
    go_wp2
    go_ret
    exact ⟨rfl, hh⟩
  · rw [gputE_no (by omega), gputB_no (by omega)]
    have d : decide ((4294967294 : Int) < (v : Int)) = true := by simp; omega
    go_enter Try.func41, Try.ntmps41
    go_wp2
    go_ret
    exact ⟨rfl, R, h, Chg.refl _ _, RowNew.refl _ _⟩

set_option maxRecDepth 100000 in
set_option maxHeartbeats 2000000 in
theorem refgput_any (g : Nat) (R : Option Nat) (B : List Bool) (v : Nat) (w : World) (h : RefWIs w g R B) (hB : B.length ≤ 1099511627776) (hv : v < 18446744073709551616) :
    Calls Try.prog 42 #[.pointer (some ⟨g, 0, none⟩), .int .u64 (v : Int)] w
      fun e w' => e = .returned (.int .i64 (gputE v)) ∧ ∃ R', RefWIs w' g R' (gputB B v) ∧ Chg (Foot g R) w w' ∧ RowNew w.heap.size R R' := by
  by_cases hm : v ≤ 4294967294
  · rw [gputE_ok hm, gputB_ok hm]
    have d : decide ((4294967294 : Int) < (v : Int)) = false := by simp; omega
    have HCC : Hid (∀ w, Calls Try.prog 34 #[.int .u64 (v : Int)] w (RetBytes w (Bit.zo (Gol.codeB v)))) := fun w => code_calls v w hm
    have HL : Hid ((Gol.codeB v).length ≤ 63) := by rw [Gol.length_codeB hm]; exact Gol.gl_le v
    generalize Gol.codeB v = D at *
    obtain ⟨A2, n2, c2, bk, ow, hR⟩ := h
    have hn2 : n2 ≤ 1099511627776 := by rw [ow.1, Bit.length_zo]; exact hB
    have hne : blkOf A2 ≠ some g := by have := own_blk_ne ow.2 bk (by decide); rwa [ownBlock_slice] at this
    have HNE := hide hne
    clear hne
    have bkd := bk.drew
    have owd := ow.drew
    have chd : Chg (Foot g R) w w.drew := (Chg.refl _ _).drew
    have c0 : w.drew.cell? ⟨g, 0, none⟩ = some (.slice A2 n2 c2) := bkd.cell 0
    clear bk ow
    go_enter Try.func42, Try.ntmps42
    go_wp2
    go_region_law
      (first
        | (go_simp; go_at_call 34; refine (HCC.out _).mono ?_; rintro e w3 ⟨A3, n3, c3, rfl, o3, g3, b3⟩; have bk3 := bkd.below b3 bkd.lt; have k3 : w3.cell? ⟨g, 0, none⟩ = some (.slice A2 n2 c2) := bk3.cell 0; have ow3 := owd.below b3 owd.lt; have ch3 := chd.trans (Chg.of_below (S := Foot g R) b3) (fun _ _ k => k) (fun _ _ k => k); have hn3 : n3 ≤ 63 := (by rw [o3.1, Bit.length_zo]; exact HL.out); dsimp only)
        | (refine step_append8 (by rfl) (.tmp 11) (.tmp 13) 22 5 (by rfl) bytesT _ _ _ _ (by rfl) ow3 _ _ _ _ _ (by rfl) o3.byt o3.1 (by omega) ?_; intro A4 c4 w4 own4 grow4 at4; have bk4 := bk3.grown grow4 (Ne.symm HNE.out); have k4 : w4.cell? ⟨g, 0, none⟩ = some (.slice A2 n2 c2) := bk4.cell 0; have f4 := bk4.frozen 0))
    all_goals
      obtain ⟨f1, f2, f3⟩ := refw_grow ch3 (by rw [hR]; exact RowNew.refl _ _) bk3 (by rw [← Bit.zo_append] at own4; exact own4) grow4 at4 HNE.out
      clear own4 grow4 at4 bk3 bk4 k3 k4 f4
      generalize w4.setCell ⟨g, 0, none⟩ (.slice A4 (n2 + n3) c4) = W at *
      go_wp2
      go_ret
      exact ⟨rfl, _, f1, f2, f3⟩
  · rw [gputE_no (by omega), gputB_no (by omega)]
    have d : decide ((4294967294 : Int) < (v : Int)) = true := by simp; omega
    go_enter Try.func42, Try.ntmps42
    go_wp2
    go_ret
    exact ⟨rfl, R, h, Chg.refl _ _, RowNew.refl _ _⟩

def gsE (x : Int) : Int := if Gol.foldOk x then 0 else 1
def gsB (B : List Bool) (x : Int) : List Bool := if Gol.foldOk x then B ++ Gol.codeB (Gol.foldV x).toNat else B
set_option maxRecDepth 100000 in
theorem gputs_nil (x : Int) (w : World) (h0 : -9223372036854775808 ≤ x) (h1 : x ≤ 9223372036854775807) : Calls Try.prog 43 #[.pointer none, .int .i64 x] w fun e w' => e = .returned (.int .i64 1) ∧ w = w' := by
  cases hok : Gol.foldOk x
  all_goals
    have HOK := hide hok
    clear hok
    go_enter Try.func43, Try.ntmps43
    go_wp2_with fail
    refine (fold_calls x _ h0 h1).mono ?_
    rintro e w1 ⟨rfl, rfl⟩
    rw [HOK.out]
    generalize Gol.foldV x = V at *
    go_wp2_with (go_at_call 41; refine (gput_nil V _).mono ?_; rintro e w1 ⟨rfl, rfl⟩)
    go_ret
    exact ⟨rfl, rfl⟩
set_option maxRecDepth 100000 in
theorem gputs_any (g : Nat) (R : Option Nat) (B : List Bool) (x : Int) (w : World) (h : WriterIs w g R B) (hB : B.length ≤ 1099511627776) (h0 : -9223372036854775808 ≤ x) (h1 : x ≤ 9223372036854775807) :
    Calls Try.prog 43 #[.pointer (some ⟨g, 0, none⟩), .int .i64 x] w
      fun e w' => e = .returned (.int .i64 (gsE x)) ∧ ∃ R', WriterIs w' g R' (gsB B x) ∧ Chg (Foot g R) w w' ∧ RowNew w.heap.size R R' := by
  have hr := Gol.foldV_range x
  have HFC := hide (fold_calls x)
  cases hok : Gol.foldOk x
  · have e1 : gsE x = 1 := by unfold gsE; rw [hok]; rfl
    have e2 : gsB B x = B := by unfold gsB; rw [hok]; rfl
    rw [e1, e2]
    rw [hok] at HFC
    clear hok e1 e2
    go_enter Try.func43, Try.ntmps43
    go_wp2_with fail
    refine (HFC.out _ h0 h1).mono ?_
    rintro e w1 ⟨rfl, rfl⟩
    go_wp2
    go_ret
    exact ⟨rfl, R, h, Chg.refl _ _, RowNew.refl _ _⟩
  · have e1 : gsE x = 0 := by unfold gsE; rw [hok]; rfl
    have e2 : gsB B x = B ++ Gol.codeB (Gol.foldV x).toNat := by unfold gsB; rw [hok]; rfl
    rw [e1, e2]
    rw [hok] at HFC
    clear hok e1 e2
    generalize Gol.foldV x = V at *
    obtain ⟨V, rfl⟩ : ∃ k : Nat, V = k := ⟨V.toNat, by omega⟩
    rw [Int.toNat_natCast]
    go_enter Try.func43, Try.ntmps43
    go_wp2_with fail
    refine (HFC.out _ h0 h1).mono ?_
    rintro e w1 ⟨rfl, rfl⟩
    go_wp2_with fail
    refine (gput_any g R B V _ h hB (by omega)).mono ?_
    rintro e w2 ⟨rfl, hh⟩
    rw [gputE_ok (by omega)]
    rw [gputB_ok (by omega)] at hh
    go_wp2
    go_ret
    exact ⟨rfl, hh⟩
theorem length_gsB (B : List Bool) (x : Int) : (gsB B x).length ≤ B.length + 63 := by
  unfold gsB
  have hr := Gol.foldV_range x
  split
  · rw [List.length_append, Gol.length_codeB (by omega)]; have := Gol.gl_le (Gol.foldV x).toNat; omega
  · omega
end Go.Proofs.Ytdelaobffbaocaa
