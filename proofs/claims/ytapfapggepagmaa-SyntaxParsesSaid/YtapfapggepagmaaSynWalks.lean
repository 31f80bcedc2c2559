/- Sequences and headers: right, fits, by their contracts. No conditions. -/
import Derived.Test.YtapfapggepagmaaGolPuts
import Derived.Test.YtapfapggepagmaaOwnR
import Derived.Test.YtapfapggepagmaaSynPlain
namespace Go.Proofs.Ytapfapggepagmaa
open Go.RowKit Kin

theorem side_cases (x : Int) : x < 16 ∨ (16 ≤ x ∧ 4096 < x) ∨ (16 ≤ x ∧ x ≤ 4096 ∧ (x % 16 != 0) = true) ∨ (16 ≤ x ∧ x ≤ 4096 ∧ (x % 16 != 0) = false) := by
  by_cases h1 : x < 16
  · exact .inl h1
  · by_cases h2 : 4096 < x
    · exact .inr (.inl ⟨by omega, h2⟩)
    · by_cases h3 : x % 16 = 0
      · exact .inr (.inr (.inr ⟨by omega, by omega, by simpa using h3⟩))
      · exact .inr (.inr (.inl ⟨by omega, by omega, by simpa using h3⟩))
/-- a sequence as a value -/
abbrev seqV (W H G : Int) : Value := .agg #[.int .i64 W, .int .i64 H, .int .i64 G]
def RetBool (w : World) (b : Bool) (e : Ending) (w' : World) : Prop := e = .returned (.bool b) ∧ Below w.heap.size w w'
theorem ret_bool {a b : Bool} (h : a = b) : Ending.returned (.bool a) = .returned (.bool b) := by rw [h]
set_option maxRecDepth 100000 in
set_option maxHeartbeats 2000000 in
theorem refright_calls (W H G : Int) (w : World) : Calls Try.prog 14 #[seqV W H G] w (RetBool w (Syn.rightB W H G)) := by
  have HW := hide (Syn.tmod16 W)
  have HH := hide (Syn.tmod16 H)
  have hg : G ≤ 64 ∨ 64 < G := by omega
  rcases hg with hg | hg
  all_goals
    go_enter Try.func14, Try.ntmps14
    go_wp2
    all_goals
      go_ret
      refine ⟨ret_bool ?_, (Below.refl _ _).alloc (Nat.le_refl _) _⟩
      have a1 := HW.out
      have a2 := HH.out
      first | exact Eq.symm (Syn.right_false (W := W) (H := H) (G := G) (by omega)) | exact Eq.symm (Syn.right_true (W := W) (H := H) (G := G) (by omega)) | exact Eq.symm ((Syn.right_false (W := W) (H := H) (G := G) (by omega)).trans (decide_eq_false (p := G ≤ 64) (by omega)).symm)

set_option maxRecDepth 100000 in
set_option maxHeartbeats 4000000 in
theorem right_calls (W H G : Int) (w : World) : Calls Try.prog 13 #[seqV W H G] w (RetBool w (Syn.rightB W H G)) := by
  have i0 : ∀ w, (Instr.index 54 (.agg #[.int .i64 W, .int .i64 H]) (.int .i64 0)).run Try.prog w = .ok (.int .i64 W) w := fun _ => by kernel_rfl
  have i1 : ∀ w, (Instr.index 54 (.agg #[.int .i64 W, .int .i64 H]) (.int .i64 1)).run Try.prog w = .ok (.int .i64 H) w := fun _ => by kernel_rfl
  go_enter Try.func13, Try.ntmps13
  go_wp2
  go_loop [10] (fun iv => ∃ i : Nat, i ≤ 2 ∧ iv = .int .i64 (i : Int) ∧ Hid ((1 ≤ i → 16 ≤ W ∧ W ≤ 4096 ∧ W % 16 = 0) ∧ (2 ≤ i → 16 ≤ H ∧ H ≤ 4096 ∧ H % 16 = 0))) (fun iv => 2 - (intOf iv).toNat)
  case atStart => exact ⟨0, by omega, rfl, ⟨fun h => absurd h (by omega), fun h => absurd h (by omega)⟩⟩
  case round =>
    obtain ⟨i, hi, rfl, HI⟩ := hrel
    have hcase : i = 0 ∨ i = 1 ∨ i = 2 := by omega
    rcases hcase with rfl | rfl | rfl
    · rw [show ((0 : Nat) : Int) = 0 from rfl]
      rcases side_cases W with h1 | ⟨h1, h2⟩ | ⟨h1, h2, h3⟩ | ⟨h1, h2, h3⟩
      iterate 3
        · go_wp2
          go_ret
          try (have h3 := bne_iff_ne.1 h3)
          exact ⟨ret_bool (Eq.symm (Syn.right_false (W := W) (H := H) (G := G) (by omega))), (Below.refl _ _).alloc (Nat.le_refl _) _⟩
      · have HI2 : Hid ((1 ≤ 1 → 16 ≤ W ∧ W ≤ 4096 ∧ W % 16 = 0) ∧ (2 ≤ 1 → 16 ≤ H ∧ H ≤ 4096 ∧ H % 16 = 0)) := ⟨fun _ => ⟨h1, h2, by simpa using h3⟩, fun h => absurd h (by omega)⟩
        go_wp2
        go_round
        case rel => exact ⟨1, by omega, rfl, HI2⟩
        case measure => simp [intOf]
    · rw [show ((1 : Nat) : Int) = 1 from rfl]
      have HI1 := HI.out.1 (Nat.le_refl _)
      have HIW := hide HI1
      clear HI1
      rcases side_cases H with h1 | ⟨h1, h2⟩ | ⟨h1, h2, h3⟩ | ⟨h1, h2, h3⟩
      iterate 3
        · go_wp2
          go_ret
          try (have h3 := bne_iff_ne.1 h3)
          exact ⟨ret_bool (Eq.symm (Syn.right_false (W := W) (H := H) (G := G) (by omega))), (Below.refl _ _).alloc (Nat.le_refl _) _⟩
      · have HI2 : Hid ((1 ≤ 2 → 16 ≤ W ∧ W ≤ 4096 ∧ W % 16 = 0) ∧ (2 ≤ 2 → 16 ≤ H ∧ H ≤ 4096 ∧ H % 16 = 0)) := ⟨fun _ => HIW.out, fun _ => ⟨h1, h2, by simpa using h3⟩⟩
        go_wp2
        go_round
        case rel => exact ⟨2, by omega, rfl, HI2⟩
        case measure => simp [intOf]
    · rw [show ((2 : Nat) : Int) = 2 from rfl]
      have HI1 := hide (HI.out.1 (by omega))
      have HI2 := hide (HI.out.2 (by omega))
      clear HI
      have hg : G < 1 ∨ (1 ≤ G ∧ G ≤ 64) ∨ (1 ≤ G ∧ 64 < G) := by omega
      rcases hg with hg | ⟨hg, hg'⟩ | ⟨hg, hg'⟩
      all_goals
        go_wp2
        go_ret
        refine ⟨ret_bool ?_, (Below.refl _ _).alloc (Nat.le_refl _) _⟩
        have a1 := HI1.out
        have a2 := HI2.out
        first | exact Eq.symm (Syn.right_false (W := W) (H := H) (G := G) (by omega)) | exact Eq.symm (Syn.right_true (W := W) (H := H) (G := G) (by omega)) | exact Eq.symm ((Syn.right_false (W := W) (H := H) (G := G) (by omega)).trans (decide_eq_false (p := G ≤ 64) (by omega)).symm)

abbrev headV (K : Bool) (N Q : Int) : Value := .agg #[.bool K, .int .i64 N, .int .i64 Q]

set_option maxRecDepth 100000 in
set_option maxHeartbeats 4000000 in
theorem fits_calls (K : Bool) (N Q W H G : Int) (w : World) : Calls Try.prog 15 #[headV K N Q, seqV W H G] w (RetBool w (Syn.fitsB K N Q W H G)) := by
  cases hr : Syn.rightB W H G
  · have HF : Hid (Syn.fitsB K N Q W H G = false) := Syn.fits_false (fun h => by rw [hr] at h; cases h.1)
    have HR := hide (right_calls W H G)
    rw [hr] at HR
    clear hr
    go_enter Try.func15, Try.ntmps15
    go_wp2_with fail
    refine (HR.out _).mono ?_
    rintro e w1 ⟨rfl, b1⟩
    have bb := bnext (((Below.refl w.heap.size w).alloc (Nat.le_refl _) (.cells #[.bool K, .int .i64 N, .int .i64 Q] 25)).alloc (by simp) (.cells #[.int .i64 W, .int .i64 H, .int .i64 G] 23)) b1
    go_wp2
    go_ret
    exact ⟨ret_bool HF.out.symm, bb⟩
  · have HR := hide (right_calls W H G)
    rw [hr] at HR
    have HRT := hide hr
    clear hr
    have hcase : Q < 0 ∨ (0 ≤ Q ∧ 31 < Q) ∨ (0 ≤ Q ∧ Q ≤ 31 ∧ N < 0) ∨ (0 ≤ Q ∧ Q ≤ 31 ∧ 0 ≤ N ∧ G ≤ N) ∨ (0 ≤ Q ∧ Q ≤ 31 ∧ 0 ≤ N ∧ N < G ∧ N = 0) ∨ (0 ≤ Q ∧ Q ≤ 31 ∧ 0 ≤ N ∧ N < G ∧ 0 < N) := by omega
    have bA := (Blk.new w 25 #[.bool K, .int .i64 N, .int .i64 Q]).alloc (.cells #[.int .i64 W, .int .i64 H, .int .i64 G] 23)
    have bS := Blk.new (w.alloc (.cells #[.bool K, .int .i64 N, .int .i64 Q] 25)) 23 #[.int .i64 W, .int .i64 H, .int .i64 G]
    rw [World.size_alloc] at bS
    have bb0 : Below w.heap.size w ((w.alloc (.cells #[.bool K, .int .i64 N, .int .i64 Q] 25)).alloc (.cells #[.int .i64 W, .int .i64 H, .int .i64 G] 23)) := ((Below.refl w.heap.size w).alloc (Nat.le_refl _) _).alloc (by simp) _
    go_enter Try.func15, Try.ntmps15
    go_wp2_with fail
    generalize (w.alloc (.cells #[.bool K, .int .i64 N, .int .i64 Q] 25)).alloc (.cells #[.int .i64 W, .int .i64 H, .int .i64 G] 23) = W0 at *
    refine (HR.out _).mono ?_
    rintro e w1 ⟨rfl, b1⟩
    have bb := bb0.trans (b1.mono bb0.size)
    have bA1 := bA.below b1 bA.lt
    have bS1 := bS.below b1 bS.lt
    have k0 : w1.cell? ⟨w.heap.size, 0, none⟩ = some (.bool K) := bA1.cell 0
    have k1 : w1.cell? ⟨w.heap.size, 1, none⟩ = some (.int .i64 N) := bA1.cell 1
    have k2 : w1.cell? ⟨w.heap.size, 2, none⟩ = some (.int .i64 Q) := bA1.cell 2
    have k3 : w1.cell? ⟨w.heap.size + 1, 2, none⟩ = some (.int .i64 G) := bS1.cell 2
    clear bA bS bA1 bS1 bb0 HR b1
    rcases hcase with h | ⟨h1, h2⟩ | ⟨h1, h2, h3⟩ | ⟨h1, h2, h3, h4⟩ | ⟨h1, h2, h3, h4, h5⟩ | ⟨h1, h2, h3, h4, h5⟩
    iterate 4
      · have HF : Hid (Syn.fitsB K N Q W H G = false) := Syn.fits_false (fun h => by have := h.2.1; omega)
        go_wp2
        go_ret
        exact ⟨ret_bool HF.out.symm, bb⟩
    · subst h5
      cases K
      · have HF : Hid (Syn.fitsB false 0 Q W H G = false) := Syn.fits_false (fun h => by have := h.2.2; simp at this)
        go_wp2
        go_ret
        exact ⟨ret_bool HF.out.symm, bb⟩
      · have HF : Hid (Syn.fitsB true 0 Q W H G = true) := Syn.fits_true HRT.out (by omega) (by simp)
        go_wp2
        go_ret
        exact ⟨ret_bool HF.out.symm, bb⟩
    · have hn0 : (N == 0) = false := by simp; omega
      cases K
      · have HF : Hid (Syn.fitsB false N Q W H G = true) := Syn.fits_true HRT.out (by omega) (by simp; omega)
        go_wp2
        go_ret
        exact ⟨ret_bool HF.out.symm, bb⟩
      · have HF : Hid (Syn.fitsB true N Q W H G = false) := Syn.fits_false (fun h => by have := h.2.2; simp at this; omega)
        go_wp2
        go_ret
        exact ⟨ret_bool HF.out.symm, bb⟩

set_option maxRecDepth 100000 in
set_option maxHeartbeats 4000000 in
theorem reffits_calls (K : Bool) (N Q W H G : Int) (w : World) : Calls Try.prog 16 #[headV K N Q, seqV W H G] w (RetBool w (Syn.fitsB K N Q W H G)) := by
  cases hr : Syn.rightB W H G
  · have HF : Hid (Syn.fitsB K N Q W H G = false) := Syn.fits_false (fun h => by rw [hr] at h; cases h.1)
    have HR := hide (refright_calls W H G)
    rw [hr] at HR
    clear hr
    go_enter Try.func16, Try.ntmps16
    go_wp2_with fail
    refine (HR.out _).mono ?_
    rintro e w1 ⟨rfl, b1⟩
    have bb := bnext (((Below.refl w.heap.size w).alloc (Nat.le_refl _) (.cells #[.bool K, .int .i64 N, .int .i64 Q] 25)).alloc (by simp) (.cells #[.int .i64 W, .int .i64 H, .int .i64 G] 23)) b1
    go_wp2
    go_ret
    exact ⟨ret_bool HF.out.symm, bb⟩
  · have HR := hide (refright_calls W H G)
    rw [hr] at HR
    have HRT := hide hr
    clear hr
    have hcase : Q < 0 ∨ (0 ≤ Q ∧ 31 < Q) ∨ (0 ≤ Q ∧ Q ≤ 31 ∧ N < 0) ∨ (0 ≤ Q ∧ Q ≤ 31 ∧ 0 ≤ N ∧ G ≤ N) ∨ (0 ≤ Q ∧ Q ≤ 31 ∧ 0 ≤ N ∧ N < G ∧ N = 0) ∨ (0 ≤ Q ∧ Q ≤ 31 ∧ 0 ≤ N ∧ N < G ∧ 0 < N) := by omega
    have bA := (Blk.new w 25 #[.bool K, .int .i64 N, .int .i64 Q]).alloc (.cells #[.int .i64 W, .int .i64 H, .int .i64 G] 23)
    have bS := Blk.new (w.alloc (.cells #[.bool K, .int .i64 N, .int .i64 Q] 25)) 23 #[.int .i64 W, .int .i64 H, .int .i64 G]
    rw [World.size_alloc] at bS
    have bb0 : Below w.heap.size w ((w.alloc (.cells #[.bool K, .int .i64 N, .int .i64 Q] 25)).alloc (.cells #[.int .i64 W, .int .i64 H, .int .i64 G] 23)) := ((Below.refl w.heap.size w).alloc (Nat.le_refl _) _).alloc (by simp) _
    go_enter Try.func16, Try.ntmps16
    go_wp2_with fail
    generalize (w.alloc (.cells #[.bool K, .int .i64 N, .int .i64 Q] 25)).alloc (.cells #[.int .i64 W, .int .i64 H, .int .i64 G] 23) = W0 at *
    refine (HR.out _).mono ?_
    rintro e w1 ⟨rfl, b1⟩
    have bb := bb0.trans (b1.mono bb0.size)
    have bA1 := bA.below b1 bA.lt
    have bS1 := bS.below b1 bS.lt
    have k0 : w1.cell? ⟨w.heap.size, 0, none⟩ = some (.bool K) := bA1.cell 0
    have k1 : w1.cell? ⟨w.heap.size, 1, none⟩ = some (.int .i64 N) := bA1.cell 1
    have k2 : w1.cell? ⟨w.heap.size, 2, none⟩ = some (.int .i64 Q) := bA1.cell 2
    have k3 : w1.cell? ⟨w.heap.size + 1, 2, none⟩ = some (.int .i64 G) := bS1.cell 2
    clear bA bS bA1 bS1 bb0 HR b1
    rcases hcase with h | ⟨h1, h2⟩ | ⟨h1, h2, h3⟩ | ⟨h1, h2, h3, h4⟩ | ⟨h1, h2, h3, h4, h5⟩ | ⟨h1, h2, h3, h4, h5⟩
    iterate 4
      · have HF : Hid (Syn.fitsB K N Q W H G = false) := Syn.fits_false (fun h => by have := h.2.1; omega)
        go_wp2
        go_ret
        exact ⟨ret_bool HF.out.symm, bb⟩
    · subst h5
      cases K
      · have HF : Hid (Syn.fitsB false 0 Q W H G = false) := Syn.fits_false (fun h => by have := h.2.2; simp at this)
        go_wp2
        go_ret
        exact ⟨ret_bool HF.out.symm, bb⟩
      · have HF : Hid (Syn.fitsB true 0 Q W H G = true) := Syn.fits_true HRT.out (by omega) (by simp)
        go_wp2
        go_ret
        exact ⟨ret_bool HF.out.symm, bb⟩
    · have hn0 : (N == 0) = false := by simp; omega
      cases K
      · have HF : Hid (Syn.fitsB false N Q W H G = true) := Syn.fits_true HRT.out (by omega) (by simp; omega)
        go_wp2
        go_ret
        exact ⟨ret_bool HF.out.symm, bb⟩
      · have HF : Hid (Syn.fitsB true N Q W H G = false) := Syn.fits_false (fun h => by have := h.2.2; simp at this; omega)
        go_wp2
        go_ret
        exact ⟨ret_bool HF.out.symm, bb⟩
end Go.Proofs.Ytapfapggepagmaa
