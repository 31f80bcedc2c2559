/- Which inits are right, by the contracts of the program's and the document's functions. Conditions: the name's length is a Go length. -/
import Derived.Test.YtakglalebjkpeaaHSegWalks
import Derived.Test.YtakglalebjkpeaaHSyn
namespace Go.Proofs.Ytakglalebjkpeaa.C17
open Go.RowKit Kin Go.Proofs.Ytakglalebjkpeaa Go.Proofs.Ytakglalebjkpeaa.C16

abbrev iniV (i : Sg.Ini) : Value := .agg #[.string i.nm, .int .i64 i.W, .int .i64 i.H, .int .i64 i.G, .int .i64 i.S, .int .i64 i.T]
abbrev iniC (i : Sg.Ini) : Array Value := #[.string i.nm, .int .i64 i.W, .int .i64 i.H, .int .i64 i.G, .int .i64 i.S, .int .i64 i.T]
theorem ini_cells {w : World} {g : Nat} {t : TypeId} {a b c d e f : Value} (h : Blk w g t #[a, b, c, d, e, f]) : w.cell? ⟨g, 0, none⟩ = some a ∧ w.cell? ⟨g, 1, none⟩ = some b ∧ w.cell? ⟨g, 2, none⟩ = some c ∧ w.cell? ⟨g, 3, none⟩ = some d ∧ w.cell? ⟨g, 4, none⟩ = some e ∧ w.cell? ⟨g, 5, none⟩ = some f :=
  ⟨h.cell 0, h.cell 1, h.cell 2, h.cell 3, h.cell 4, h.cell 5⟩

set_option maxRecDepth 100000 in
set_option maxHeartbeats 2000000 in
theorem rightI_calls (i : Sg.Ini) (w : World) (ht : i.nm.size ≤ 9223372036854775807) :
    Calls Try.prog 14 #[iniV i] w (C16.RetBool w (Sg.rightI i)) := by
  obtain ⟨t, W, H, G, S, T⟩ := i
  have b0 : Below w.heap.size w (w.alloc (.cells #[.string t, .int .i64 W, .int .i64 H, .int .i64 G, .int .i64 S, .int .i64 T] 25)) := (Below.refl _ _).alloc (Nat.le_refl _) _
  have bk := Blk.new w 25 #[.string t, .int .i64 W, .int .i64 H, .int .i64 G, .int .i64 S, .int .i64 T]
  obtain ⟨c0, c1, c2, c3, c4, c5⟩ := ini_cells bk
  dsimp only at ht
  have hn : ¬ (1 ≤ t.size ∧ t.size ≤ 8) ∨ (1 ≤ t.size ∧ t.size ≤ 8) := by omega
  rcases hn with hn | hn
  · have HR : Hid (Sg.rightI ⟨t, W, H, G, S, T⟩ = false) := Sg.rightI_false (fun h => hn h.1)
    go_enter Try.func14, Try.ntmps14
    have hd : (t.size : Int) < 1 ∨ 8 < (t.size : Int) := by omega
    rcases hd with hd | hd
    all_goals
      go_wp2
      go_ret
      exact ⟨by rw [HR.out]; rfl, b0⟩
  · have d1 : 1 ≤ (t.size : Int) := by omega
    have d2 : (t.size : Int) ≤ 8 := by omega
    have HRN : Hid (∀ k, upto t (k + 1) = false → Sg.rightI ⟨t, W, H, G, S, T⟩ = false) := fun k hk => Sg.rightI_false (fun h => by
      have := h.2.1
      dsimp only at this
      rw [upto_more hk] at this; cases this)
    have HU := hide (upto_all t t.size (Nat.le_refl _))
    go_enter Try.func14, Try.ntmps14
    go_wp2
    go_loopw [18] (fun iv wr => ∃ k : Nat, k ≤ t.size ∧ iv = .int .i64 (k : Int) ∧ upto t k = true ∧ wr = w.alloc (.cells #[.string t, .int .i64 W, .int .i64 H, .int .i64 G, .int .i64 S, .int .i64 T] 25)) (fun iv _ => t.size - (intOf iv).toNat)
    case atStart => exact ⟨0, by omega, rfl, rfl, rfl⟩
    case round =>
      obtain ⟨k, hk, rfl, hu, rfl⟩ := hrel
      by_cases hlt : k < t.size
      · have HS := hide (upto_succ t k hlt)
        rw [hu, Bool.true_and] at HS
        have HUk := hide hu
        clear hu
        have hi : (0 : Int) ≤ (k : Int) ∧ (k : Int) < (t.size : Int) := by omega
        have hx := (t[k]).toNat_lt
        obtain ⟨v, hv⟩ : ∃ v, (t[k]).toNat = v := ⟨_, rfl⟩
        have HV := hide hv
        rw [hv] at hx
        go_wp2
        all_goals (try clear hv)
        all_goals first
          | (go_ret; refine ⟨?_, b0⟩; rw [HRN.out k (by rw [HS.out]; exact okc_no HV.out (by omega))]; rfl)
          | (go_roundw; (case rel => exact ⟨k + 1, by omega, by go_num, by rw [HS.out]; exact okc_yes HV.out (by omega), trivial⟩); (case measure => simp [intOf]; omega))
      · obtain rfl : k = t.size := by omega
        have hs : ¬ ((1 ≤ S ∧ S ≤ 1048576) ∧ (1 ≤ T ∧ T ≤ 1048576)) ∨ ((1 ≤ S ∧ S ≤ 1048576) ∧ (1 ≤ T ∧ T ≤ 1048576)) := by omega
        rcases hs with hs | hs
        · have HR : Hid (Sg.rightI ⟨t, W, H, G, S, T⟩ = false) := Sg.rightI_false (fun h => hs h.2.2.2)
          have hd : S < 1 ∨ (1 ≤ S ∧ 1048576 < S) ∨ (1 ≤ S ∧ S ≤ 1048576 ∧ T < 1) ∨ (1 ≤ S ∧ S ≤ 1048576 ∧ 1 ≤ T ∧ 1048576 < T) := by omega
          clear hs hlt hu
          rcases hd with hd | hd | hd | hd
          all_goals
            go_wp2
            go_ret
            exact ⟨by rw [HR.out]; rfl, b0⟩
        · have HR : Hid (Sg.rightI ⟨t, W, H, G, S, T⟩ = Syn.rightB W H G) := by
            cases hr : Syn.rightB W H G
            · exact Sg.rightI_false (fun h => by rw [show Syn.rightB _ _ _ = false from hr] at h; cases h.2.2.1)
            · exact Sg.rightI_true ⟨hn, by rw [← HU.out, hu], hr, hs⟩
          obtain ⟨⟨s1, s2⟩, s3, s4⟩ := hs
          clear hlt hu
          go_wp2_with fail
          refine (C12.right_calls W H G _).mono ?_
          rintro e w2 ⟨rfl, b2⟩
          go_wp2
          go_ret
          exact ⟨by rw [HR.out]; rfl, b0.trans (b2.mono b0.size)⟩

set_option maxRecDepth 100000 in
set_option maxHeartbeats 2000000 in
theorem refname_calls (t : ByteArray) (w : World) (ht : t.size ≤ 9223372036854775807) :
    Calls Try.prog 33 #[.string t] w fun e w' => e = .returned (.bool (Sg.nameOk t)) ∧ w = w' := by
  have HRN : Hid (∀ k, upto t (k + 1) = false → Sg.nameOk t = false) := fun k hk => by
    unfold Sg.nameOk
    rw [upto_more hk, Bool.and_false]
  have HU := hide (upto_all t t.size (Nat.le_refl _))
  go_enter Try.func33, Try.ntmps33
  go_wp2
  go_loop [3] (fun iv => ∃ k : Nat, k ≤ t.size ∧ iv = .int .i64 (k : Int) ∧ upto t k = true) (fun iv => t.size - (intOf iv).toNat)
  case atStart => exact ⟨0, by omega, rfl, rfl⟩
  case round =>
      obtain ⟨k, hk, rfl, hu⟩ := hrel
      by_cases hlt : k < t.size
      · have HS := hide (upto_succ t k hlt)
        rw [hu, Bool.true_and] at HS
        have HUk := hide hu
        clear hu
        have hi : (0 : Int) ≤ (k : Int) ∧ (k : Int) < (t.size : Int) := by omega
        have hx := (t[k]).toNat_lt
        obtain ⟨v, hv⟩ : ∃ v, (t[k]).toNat = v := ⟨_, rfl⟩
        have HV := hide hv
        rw [hv] at hx
        go_wp2
        all_goals (try clear hv)
        all_goals first
          | (go_ret; refine ⟨?_, rfl⟩; rw [HRN.out k (by rw [HS.out]; exact okc_no HV.out (by omega))]; rfl)
          | (go_round; (case rel => exact ⟨k + 1, by omega, by go_num, by rw [HS.out]; exact okc_yes HV.out (by omega)⟩); (case measure => simp [intOf]; omega))
      · obtain rfl : k = t.size := by omega
        have HT : Hid (Sg.nameOk t = decide (1 ≤ t.size ∧ t.size ≤ 8)) := by
          unfold Sg.nameOk
          rw [← HU.out, hu, Bool.and_true]
          exact rfl
        clear hu hlt
        have hd : (t.size : Int) < 1 ∨ (1 ≤ (t.size : Int) ∧ (t.size : Int) ≤ 8) ∨ (1 ≤ (t.size : Int) ∧ 8 < (t.size : Int)) := by omega
        rcases hd with hd | hd | hd
        · have e2 := hide (decide_eq_false (p := 1 ≤ t.size ∧ t.size ≤ 8) (by omega))
          go_wp2
          go_ret
          exact ⟨by rw [HT.out, e2.out]; rfl, rfl⟩
        · have e2 := hide (decide_eq_true (p := 1 ≤ t.size ∧ t.size ≤ 8) (by omega))
          have e3 : decide ((t.size : Int) ≤ 8) = true := by simp; omega
          go_wp2
          go_ret
          exact ⟨by rw [HT.out, e2.out]; rfl, rfl⟩
        · have e2 := hide (decide_eq_false (p := 1 ≤ t.size ∧ t.size ≤ 8) (by omega))
          have e3 : decide ((t.size : Int) ≤ 8) = false := by simp; omega
          go_wp2
          go_ret
          exact ⟨by rw [HT.out, e2.out]; rfl, rfl⟩

set_option maxRecDepth 100000 in
set_option maxHeartbeats 2000000 in
theorem refrightI_calls (i : Sg.Ini) (w : World) (ht : i.nm.size ≤ 9223372036854775807) :
    Calls Try.prog 15 #[iniV i] w (C16.RetBool w (Sg.rightI i)) := by
  obtain ⟨t, W, H, G, S, T⟩ := i
  have b0 : Below w.heap.size w (w.alloc (.cells #[.string t, .int .i64 W, .int .i64 H, .int .i64 G, .int .i64 S, .int .i64 T] 25)) := (Below.refl _ _).alloc (Nat.le_refl _) _
  have bk := Blk.new w 25 #[.string t, .int .i64 W, .int .i64 H, .int .i64 G, .int .i64 S, .int .i64 T]
  obtain ⟨c0, c1, c2, c3, c4, c5⟩ := ini_cells bk
  dsimp only at ht
  have HR : Hid (Sg.rightI ⟨t, W, H, G, S, T⟩ = (Sg.nameOk t && Syn.rightB W H G && Sg.timeOk S && Sg.timeOk T)) := rfl
  go_enter Try.func15, Try.ntmps15
  go_wp2_with fail
  refine (refname_calls t _ ht).mono ?_
  rintro e w2 ⟨rfl, rfl⟩
  go_wp2_with fail
  refine (C12.refright_calls W H G _).mono ?_
  rintro e w2 ⟨rfl, b2⟩
  have bk2 := bk.below b2 bk.lt
  obtain ⟨d0, d1, d2, d3, d4, d5⟩ := ini_cells bk2
  have bel := b0.trans (b2.mono b0.size)
  clear c0 c1 c2 c3 c4 c5 b2 b0 bk bk2
  generalize Sg.nameOk t = x at *
  generalize Syn.rightB W H G = y at *
  have HS : Hid (Sg.timeOk S = decide (1 ≤ S ∧ S ≤ 1048576)) := rfl
  have HT : Hid (Sg.timeOk T = decide (1 ≤ T ∧ T ≤ 1048576)) := rfl
  have hs : S < 1 ∨ (1 ≤ S ∧ 1048576 < S) ∨ (1 ≤ S ∧ S ≤ 1048576) := by omega
  have h2 : T < 1 ∨ (1 ≤ T ∧ 1048576 < T) ∨ (1 ≤ T ∧ T ≤ 1048576) := by omega
  cases x
  · go_wp2
    go_ret
    exact ⟨by rw [HR.out]; rfl, bel⟩
  · cases y
    · go_wp2
      go_ret
      exact ⟨by rw [HR.out]; rfl, bel⟩
    · rcases hs with hs | hs | hs
      · have e1 := decide_eq_false (p := 1 ≤ S ∧ S ≤ 1048576) (by omega)
        go_wp2
        go_ret
        exact ⟨by rw [HR.out, HS.out, e1]; rfl, bel⟩
      · have e1 := decide_eq_false (p := 1 ≤ S ∧ S ≤ 1048576) (by omega)
        go_wp2
        go_ret
        exact ⟨by rw [HR.out, HS.out, e1]; rfl, bel⟩
      · have e1 := hide (decide_eq_true (p := 1 ≤ S ∧ S ≤ 1048576) (by omega))
        rcases h2 with h2 | h2 | h2
        · have e2 := hide (decide_eq_false (p := 1 ≤ T ∧ T ≤ 1048576) (by omega))
          go_wp2
          go_ret
          exact ⟨by rw [HR.out, HS.out, HT.out, e1.out, e2.out]; rfl, bel⟩
        · have e2 := hide (decide_eq_false (p := 1 ≤ T ∧ T ≤ 1048576) (by omega))
          have e3 : decide (T ≤ 1048576) = false := by simp; omega
          go_wp2
          go_ret
          exact ⟨by rw [HR.out, HS.out, HT.out, e1.out, e2.out]; rfl, bel⟩
        · have e2 := hide (decide_eq_true (p := 1 ≤ T ∧ T ≤ 1048576) (by omega))
          have e3 : decide (T ≤ 1048576) = true := by simp; omega
          go_wp2
          go_ret
          exact ⟨by rw [HR.out, HS.out, HT.out, e1.out, e2.out]; rfl, bel⟩
end Go.Proofs.Ytakglalebjkpeaa.C17
