/- Which requests and responses are right, as the program and as the document say, by their contracts. No conditions but Go's lengths. -/
import Derived.Test.YtijcollcncjdoaaWireWalks
namespace Go.Proofs.Ytijcollcncjdoaa
open Go.RowKit Kin

set_option maxRecDepth 100000 in
set_option maxHeartbeats 2000000 in
theorem refpath_calls (t : ByteArray) (w : World) (hts : t.size ≤ 9223372036854775807) : Calls Try.prog 26 #[.string t] w fun e w' => e = .returned (.bool (Wi.path t)) ∧ w = w' := by
  have HU := hide (Wi.upto_all t t.size (Nat.le_refl _))
  have HRN : Hid (∀ k, Wi.upto t (k + 1) = false → Wi.path t = false) := by
    intro k hk
    unfold Wi.path
    rw [Wi.upto_more hk, Bool.and_false]
  go_enter Try.func26, Try.ntmps26
  go_wp2
  go_loop [3] (fun iv => ∃ k : Nat, k ≤ t.size ∧ iv = .int .i64 (k : Int) ∧ Wi.upto t k = true) (fun iv => t.size - (intOf iv).toNat)
  case atStart => exact ⟨0, by omega, rfl, rfl⟩
  case round =>
    obtain ⟨k, hk, rfl, hu⟩ := hrel
    by_cases hlt : k < t.size
    · have HS := hide (Wi.upto_succ t k hlt)
      rw [hu, Bool.true_and] at HS
      have HUk := hide hu
      clear hu
      have hi : (0 : Int) ≤ (k : Int) ∧ (k : Int) < (t.size : Int) := by omega
      have hx := (t[k]).toNat_lt
      obtain ⟨v, hv⟩ : ∃ v, (t[k]).toNat = v := ⟨_, rfl⟩
      have HV := hide hv
      rw [hv] at hx
      by_cases hok : (97 ≤ v ∧ v ≤ 122) ∨ (48 ≤ v ∧ v ≤ 57) ∨ v = 46 ∨ v = 47
      · have HN := hide (HS.out.trans (Wi.okp_yes HV.out hok))
        by_cases c1 : v = 46
        case' pos => subst c1
        case' neg =>
          by_cases c2 : v = 47
          case' pos => subst c2
          case' neg =>
            have c1' : ((v : Int) != 46) = true := by simp; omega
            have c2' : ((v : Int) != 47) = true := by simp; omega
            have c3 : (97 ≤ v ∧ v ≤ 122) ∨ (48 ≤ v ∧ v ≤ 57) := by omega
        all_goals
          clear hok
          go_wp2
          all_goals (try clear hv)
          all_goals first
            | (exfalso; omega)
            | (go_round; (case rel => exact ⟨k + 1, by omega, by go_num, HN.out⟩); (case measure => simp [intOf]; omega))
      · have HN := hide (HRN.out k (HS.out.trans (Wi.okp_no HV.out hok)))
        have c1' : ((v : Int) != 46) = true := by simp; omega
        have c2' : ((v : Int) != 47) = true := by simp; omega
        go_wp2
        all_goals (try clear hv)
        all_goals first
          | (exfalso; omega)
          | (go_ret; exact ⟨by rw [HN.out]; rfl, rfl⟩)
    · obtain rfl : k = t.size := by omega
      have HT : Hid (Wi.path t = decide (1 ≤ t.size ∧ t.size ≤ 60)) := by
        unfold Wi.path
        rw [← HU.out, hu, Bool.and_true]
        exact rfl
      clear hu hlt
      by_cases h1 : 1 ≤ t.size
      · by_cases h2 : t.size ≤ 60
        · have HE : Hid (Wi.path t = true) := by rw [HT.out]; exact decide_eq_true ⟨h1, h2⟩
          have i1 : (1 : Int) ≤ (t.size : Int) := by omega
          have i2 : (t.size : Int) ≤ 60 := by omega
          go_wp2
          go_ret
          exact ⟨by rw [HE.out]; rfl, rfl⟩
        · have HE : Hid (Wi.path t = false) := by rw [HT.out]; exact decide_eq_false (fun h => h2 h.2)
          have i1 : (1 : Int) ≤ (t.size : Int) := by omega
          have i2 : decide ((t.size : Int) ≤ 60) = false := by simp; omega
          go_wp2
          go_ret
          exact ⟨by rw [HE.out]; rfl, rfl⟩
      · have HE : Hid (Wi.path t = false) := by rw [HT.out]; exact decide_eq_false (fun h => h1 h.1)
        have i1 : decide ((1 : Int) ≤ (t.size : Int)) = false := by simp; omega
        go_wp2
        go_ret
        exact ⟨by rw [HE.out]; rfl, rfl⟩

theorem rq_eq (id : Int) (p : ByteArray) (fr to : Int) : Wi.rq id p fr to = (Wi.win id 0 1048575 && Wi.path p && Wi.win fr 0 1048576 && Wi.win to (-1) 1048576) := rfl
theorem rq_eq' (id : Int) (p : ByteArray) (fr to : Int) : Wi.rq id p fr to = (Wi.path p && Wi.win id 0 1048575 && Wi.win fr 0 1048576 && Wi.win to (-1) 1048576) := by
  rw [rq_eq, Bool.and_comm (Wi.win id 0 1048575)]
theorem rr_eq (id st fr sz : Int) (n : Nat) : Wi.rr id st fr sz n = (Wi.win id 0 1048575 && Wi.win st 1 4 && Wi.win fr 0 1048576 && Wi.win sz 0 1048576 && decide (n ≤ 1048576)) := rfl

set_option maxRecDepth 100000 in
set_option maxHeartbeats 4000000 in
theorem rq_calls (id : Int) (p : ByteArray) (fr to : Int) (w : World) : Calls Try.prog 12 #[reqV id p fr to] w (RetBool w (Wi.rq id p fr to)) := by
  have HQ := hide (rq_eq id p fr to)
  have b0 : Below w.heap.size w (w.alloc (.cells #[.int .i64 id, .string p, .int .i64 fr, .int .i64 to] 23)) := (Below.refl _ _).alloc (Nat.le_refl _) _
  have bk := Blk.new w 23 #[.int .i64 id, .string p, .int .i64 fr, .int .i64 to]
  have H1 := hide (within_calls id 0 1048575)
  have H2 := hide (path_calls p)
  have H3 := hide (within_calls fr 0 1048576)
  have H4 := hide (within_calls to (-1) 1048576)
  generalize Wi.win id 0 1048575 = x1 at *
  generalize Wi.path p = x2 at *
  generalize Wi.win fr 0 1048576 = x3 at *
  generalize Wi.win to (-1) 1048576 = x4 at *
  have k0 : (w.alloc (.cells #[.int .i64 id, .string p, .int .i64 fr, .int .i64 to] 23)).cell? ⟨w.heap.size, 0, none⟩ = some (.int .i64 id) := bk.cell 0
  have k1 : (w.alloc (.cells #[.int .i64 id, .string p, .int .i64 fr, .int .i64 to] 23)).cell? ⟨w.heap.size, 1, none⟩ = some (.string p) := bk.cell 1
  have k2 : (w.alloc (.cells #[.int .i64 id, .string p, .int .i64 fr, .int .i64 to] 23)).cell? ⟨w.heap.size, 2, none⟩ = some (.int .i64 fr) := bk.cell 2
  have k3 : (w.alloc (.cells #[.int .i64 id, .string p, .int .i64 fr, .int .i64 to] 23)).cell? ⟨w.heap.size, 3, none⟩ = some (.int .i64 to) := bk.cell 3
  go_enter Try.func12, Try.ntmps12
  go_wp2_with fail
  generalize w.alloc (.cells #[.int .i64 id, .string p, .int .i64 fr, .int .i64 to] 23) = W0 at *
  refine (H1.out _).mono ?_
  rintro e w1 ⟨rfl, rfl⟩
  cases x1
  · go_wp2
    go_ret
    exact ⟨by rw [HQ.out]; rfl, b0⟩
  · go_wp2_with fail
    refine (H2.out _).mono ?_
    rintro e w1 ⟨rfl, rfl⟩
    cases x2
    · go_wp2
      go_ret
      exact ⟨by rw [HQ.out]; rfl, b0⟩
    · go_wp2_with fail
      refine (H3.out _).mono ?_
      rintro e w1 ⟨rfl, rfl⟩
      cases x3
      · go_wp2
        go_ret
        exact ⟨by rw [HQ.out]; rfl, b0⟩
      · go_wp2_with fail
        refine (H4.out _).mono ?_
        rintro e w1 ⟨rfl, rfl⟩
        go_wp2
        go_ret
        exact ⟨by rw [HQ.out]; rfl, b0⟩
set_option maxRecDepth 100000 in
set_option maxHeartbeats 4000000 in
theorem refrq_calls (id : Int) (p : ByteArray) (fr to : Int) (w : World) (hp : p.size ≤ 9223372036854775807) : Calls Try.prog 13 #[reqV id p fr to] w (RetBool w (Wi.rq id p fr to)) := by
  have HQ := hide (rq_eq' id p fr to)
  have b0 : Below w.heap.size w (w.alloc (.cells #[.int .i64 id, .string p, .int .i64 fr, .int .i64 to] 23)) := (Below.refl _ _).alloc (Nat.le_refl _) _
  have bk := Blk.new w 23 #[.int .i64 id, .string p, .int .i64 fr, .int .i64 to]
  have H1 := hide (refwithin_calls id 0 1048575)
  have H2 := hide (fun w => refpath_calls p w hp)
  have H3 := hide (refwithin_calls fr 0 1048576)
  have H4 := hide (refwithin_calls to (-1) 1048576)
  generalize Wi.win id 0 1048575 = x1 at *
  generalize Wi.path p = x2 at *
  generalize Wi.win fr 0 1048576 = x3 at *
  generalize Wi.win to (-1) 1048576 = x4 at *
  have k0 : (w.alloc (.cells #[.int .i64 id, .string p, .int .i64 fr, .int .i64 to] 23)).cell? ⟨w.heap.size, 0, none⟩ = some (.int .i64 id) := bk.cell 0
  have k1 : (w.alloc (.cells #[.int .i64 id, .string p, .int .i64 fr, .int .i64 to] 23)).cell? ⟨w.heap.size, 1, none⟩ = some (.string p) := bk.cell 1
  have k2 : (w.alloc (.cells #[.int .i64 id, .string p, .int .i64 fr, .int .i64 to] 23)).cell? ⟨w.heap.size, 2, none⟩ = some (.int .i64 fr) := bk.cell 2
  have k3 : (w.alloc (.cells #[.int .i64 id, .string p, .int .i64 fr, .int .i64 to] 23)).cell? ⟨w.heap.size, 3, none⟩ = some (.int .i64 to) := bk.cell 3
  go_enter Try.func13, Try.ntmps13
  go_wp2_with fail
  generalize w.alloc (.cells #[.int .i64 id, .string p, .int .i64 fr, .int .i64 to] 23) = W0 at *
  refine (H2.out _).mono ?_
  rintro e w1 ⟨rfl, rfl⟩
  cases x2
  · go_wp2
    go_ret
    exact ⟨by rw [HQ.out]; rfl, b0⟩
  · go_wp2_with fail
    refine (H1.out _).mono ?_
    rintro e w1 ⟨rfl, rfl⟩
    cases x1
    · go_wp2
      go_ret
      exact ⟨by rw [HQ.out]; rfl, b0⟩
    · go_wp2_with fail
      refine (H3.out _).mono ?_
      rintro e w1 ⟨rfl, rfl⟩
      cases x3
      · go_wp2
        go_ret
        exact ⟨by rw [HQ.out]; rfl, b0⟩
      · go_wp2_with fail
        refine (H4.out _).mono ?_
        rintro e w1 ⟨rfl, rfl⟩
        go_wp2
        go_ret
        exact ⟨by rw [HQ.out]; rfl, b0⟩

set_option maxRecDepth 100000 in
set_option maxHeartbeats 4000000 in
theorem rr_calls (id st fr sz : Int) (A : Option Addr) (n c : Nat) (w : World) (hm : n ≤ 9223372036854775807) : Calls Try.prog 14 #[resV id st fr sz A n c] w (RetBool w (Wi.rr id st fr sz n)) := by
  have HQ := hide (rr_eq id st fr sz n)
  have b0 : Below w.heap.size w (w.alloc (.cells #[.int .i64 id, .int .i64 st, .int .i64 fr, .int .i64 sz, .slice A n c] 27)) := (Below.refl _ _).alloc (Nat.le_refl _) _
  have bk := Blk.new w 27 #[.int .i64 id, .int .i64 st, .int .i64 fr, .int .i64 sz, .slice A n c]
  have H1 := hide (within_calls id 0 1048575)
  have H2 := hide (within_calls st 1 4)
  have H3 := hide (within_calls fr 0 1048576)
  have H4 := hide (within_calls sz 0 1048576)
  have hd : decide ((n : Int) ≤ 1048576) = decide (n ≤ 1048576) := by
    apply Bool.eq_iff_iff.2
    rw [decide_eq_true_iff, decide_eq_true_iff]
    omega
  have HD := hide hd
  clear hd
  generalize Wi.win id 0 1048575 = x1 at *
  generalize Wi.win st 1 4 = x2 at *
  generalize Wi.win fr 0 1048576 = x3 at *
  generalize Wi.win sz 0 1048576 = x4 at *
  have k0 : (w.alloc (.cells #[.int .i64 id, .int .i64 st, .int .i64 fr, .int .i64 sz, .slice A n c] 27)).cell? ⟨w.heap.size, 0, none⟩ = some (.int .i64 id) := bk.cell 0
  have k1 : (w.alloc (.cells #[.int .i64 id, .int .i64 st, .int .i64 fr, .int .i64 sz, .slice A n c] 27)).cell? ⟨w.heap.size, 1, none⟩ = some (.int .i64 st) := bk.cell 1
  have k2 : (w.alloc (.cells #[.int .i64 id, .int .i64 st, .int .i64 fr, .int .i64 sz, .slice A n c] 27)).cell? ⟨w.heap.size, 2, none⟩ = some (.int .i64 fr) := bk.cell 2
  have k3 : (w.alloc (.cells #[.int .i64 id, .int .i64 st, .int .i64 fr, .int .i64 sz, .slice A n c] 27)).cell? ⟨w.heap.size, 3, none⟩ = some (.int .i64 sz) := bk.cell 3
  have k4 : (w.alloc (.cells #[.int .i64 id, .int .i64 st, .int .i64 fr, .int .i64 sz, .slice A n c] 27)).cell? ⟨w.heap.size, 4, none⟩ = some (.slice A n c) := bk.cell 4
  go_enter Try.func14, Try.ntmps14
  go_wp2_with fail
  generalize w.alloc (.cells #[.int .i64 id, .int .i64 st, .int .i64 fr, .int .i64 sz, .slice A n c] 27) = W0 at *
  refine (H1.out _).mono ?_
  rintro e w1 ⟨rfl, rfl⟩
  cases x1
  · go_wp2
    go_ret
    exact ⟨by rw [HQ.out]; rfl, b0⟩
  · go_wp2_with fail
    refine (H2.out _).mono ?_
    rintro e w1 ⟨rfl, rfl⟩
    cases x2
    · go_wp2
      go_ret
      exact ⟨by rw [HQ.out]; rfl, b0⟩
    · go_wp2_with fail
      refine (H3.out _).mono ?_
      rintro e w1 ⟨rfl, rfl⟩
      cases x3
      · go_wp2
        go_ret
        exact ⟨by rw [HQ.out]; rfl, b0⟩
      · go_wp2_with fail
        refine (H4.out _).mono ?_
        rintro e w1 ⟨rfl, rfl⟩
        cases x4
        · go_wp2
          go_ret
          exact ⟨by rw [HQ.out]; rfl, b0⟩
        · go_wp2
          go_ret
          exact ⟨by rw [HQ.out, ← HD.out]; rfl, b0⟩

set_option maxRecDepth 100000 in
set_option maxHeartbeats 4000000 in
theorem refrr_calls (id st fr sz : Int) (A : Option Addr) (n c : Nat) (w : World) (hm : n ≤ 9223372036854775807) : Calls Try.prog 15 #[resV id st fr sz A n c] w (RetBool w (Wi.rr id st fr sz n)) := by
  have HQ := hide (rr_eq id st fr sz n)
  have b0 : Below w.heap.size w (w.alloc (.cells #[.int .i64 id, .int .i64 st, .int .i64 fr, .int .i64 sz, .slice A n c] 27)) := (Below.refl _ _).alloc (Nat.le_refl _) _
  have bk := Blk.new w 27 #[.int .i64 id, .int .i64 st, .int .i64 fr, .int .i64 sz, .slice A n c]
  have H1 := hide (refwithin_calls id 0 1048575)
  have H2 := hide (refwithin_calls st 1 4)
  have H3 := hide (refwithin_calls fr 0 1048576)
  have H4 := hide (refwithin_calls sz 0 1048576)
  have hd : decide ((n : Int) ≤ 1048576) = decide (n ≤ 1048576) := by
    apply Bool.eq_iff_iff.2
    rw [decide_eq_true_iff, decide_eq_true_iff]
    omega
  have HD := hide hd
  clear hd
  generalize Wi.win id 0 1048575 = x1 at *
  generalize Wi.win st 1 4 = x2 at *
  generalize Wi.win fr 0 1048576 = x3 at *
  generalize Wi.win sz 0 1048576 = x4 at *
  have k0 : (w.alloc (.cells #[.int .i64 id, .int .i64 st, .int .i64 fr, .int .i64 sz, .slice A n c] 27)).cell? ⟨w.heap.size, 0, none⟩ = some (.int .i64 id) := bk.cell 0
  have k1 : (w.alloc (.cells #[.int .i64 id, .int .i64 st, .int .i64 fr, .int .i64 sz, .slice A n c] 27)).cell? ⟨w.heap.size, 1, none⟩ = some (.int .i64 st) := bk.cell 1
  have k2 : (w.alloc (.cells #[.int .i64 id, .int .i64 st, .int .i64 fr, .int .i64 sz, .slice A n c] 27)).cell? ⟨w.heap.size, 2, none⟩ = some (.int .i64 fr) := bk.cell 2
  have k3 : (w.alloc (.cells #[.int .i64 id, .int .i64 st, .int .i64 fr, .int .i64 sz, .slice A n c] 27)).cell? ⟨w.heap.size, 3, none⟩ = some (.int .i64 sz) := bk.cell 3
  have k4 : (w.alloc (.cells #[.int .i64 id, .int .i64 st, .int .i64 fr, .int .i64 sz, .slice A n c] 27)).cell? ⟨w.heap.size, 4, none⟩ = some (.slice A n c) := bk.cell 4
  go_enter Try.func15, Try.ntmps15
  go_wp2_with fail
  generalize w.alloc (.cells #[.int .i64 id, .int .i64 st, .int .i64 fr, .int .i64 sz, .slice A n c] 27) = W0 at *
  refine (H1.out _).mono ?_
  rintro e w1 ⟨rfl, rfl⟩
  cases x1
  · go_wp2
    go_ret
    exact ⟨by rw [HQ.out]; rfl, b0⟩
  · go_wp2_with fail
    refine (H2.out _).mono ?_
    rintro e w1 ⟨rfl, rfl⟩
    cases x2
    · go_wp2
      go_ret
      exact ⟨by rw [HQ.out]; rfl, b0⟩
    · go_wp2_with fail
      refine (H3.out _).mono ?_
      rintro e w1 ⟨rfl, rfl⟩
      cases x3
      · go_wp2
        go_ret
        exact ⟨by rw [HQ.out]; rfl, b0⟩
      · go_wp2_with fail
        refine (H4.out _).mono ?_
        rintro e w1 ⟨rfl, rfl⟩
        cases x4
        · go_wp2
          go_ret
          exact ⟨by rw [HQ.out]; rfl, b0⟩
        · go_wp2
          go_ret
          exact ⟨by rw [HQ.out, ← HD.out]; rfl, b0⟩
end Go.Proofs.Ytijcollcncjdoaa
