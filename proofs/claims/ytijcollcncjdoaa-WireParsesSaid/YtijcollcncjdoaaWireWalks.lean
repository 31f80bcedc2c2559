/- Which requests and responses are right, each function by its contract. No conditions but Go's lengths. -/
import Derived.Test.YtijcollcncjdoaaRows
import Derived.Test.YtijcollcncjdoaaWirePlain
import Derived.Test.YtijcollcncjdoaaBitsWalks
import Derived.Outline
namespace Go.Proofs.Ytijcollcncjdoaa
open Go.RowKit Kin

def RetBool (w : World) (b : Bool) : Ending → World → Prop := fun e w' => e = .returned (.bool b) ∧ Below w.heap.size w w'
/-- a request as a value, a response as a value -/
abbrev reqV (id : Int) (p : ByteArray) (fr to : Int) : Value := .agg #[.int .i64 id, .string p, .int .i64 fr, .int .i64 to]
abbrev resV (id st fr sz : Int) (A : Option Addr) (n c : Nat) : Value := .agg #[.int .i64 id, .int .i64 st, .int .i64 fr, .int .i64 sz, .slice A n c]

set_option maxRecDepth 100000 in
theorem within_calls (n a b : Int) (w : World) : Calls Try.prog 24 #[.int .i64 n, .int .i64 a, .int .i64 b] w fun e w' => e = .returned (.bool (Wi.win n a b)) ∧ w = w' := by
  by_cases h1 : a ≤ n
  · by_cases h2 : n ≤ b
    · have HW : Hid (Wi.win n a b = true) := decide_eq_true ⟨h1, h2⟩
      go_enter Try.func24, Try.ntmps24
      go_wp2
      go_ret
      exact ⟨by rw [HW.out]; rfl, rfl⟩
    · have HW : Hid (Wi.win n a b = false) := decide_eq_false (fun h => h2 h.2)
      have d2 : decide (n ≤ b) = false := by simpa using h2
      go_enter Try.func24, Try.ntmps24
      go_wp2
      go_ret
      exact ⟨by rw [HW.out]; rfl, rfl⟩
  · have HW : Hid (Wi.win n a b = false) := decide_eq_false (fun h => h1 h.1)
    have d1 : decide (a ≤ n) = false := by simpa using h1
    go_enter Try.func24, Try.ntmps24
    go_wp2
    go_ret
    exact ⟨by rw [HW.out]; rfl, rfl⟩
set_option maxRecDepth 100000 in
theorem refwithin_calls (n a b : Int) (w : World) : Calls Try.prog 27 #[.int .i64 n, .int .i64 a, .int .i64 b] w fun e w' => e = .returned (.bool (Wi.win n a b)) ∧ w = w' := by
  by_cases h1 : a ≤ n
  · by_cases h2 : n ≤ b
    · have HW : Hid (Wi.win n a b = true) := decide_eq_true ⟨h1, h2⟩
      go_enter Try.func27, Try.ntmps27
      go_wp2
      go_ret
      exact ⟨by rw [HW.out]; rfl, rfl⟩
    · have HW : Hid (Wi.win n a b = false) := decide_eq_false (fun h => h2 h.2)
      have d2 : decide (n ≤ b) = false := by simpa using h2
      go_enter Try.func27, Try.ntmps27
      go_wp2
      go_ret
      exact ⟨by rw [HW.out]; rfl, rfl⟩
  · have HW : Hid (Wi.win n a b = false) := decide_eq_false (fun h => h1 h.1)
    have d1 : decide (a ≤ n) = false := by simpa using h1
    go_enter Try.func27, Try.ntmps27
    go_wp2
    go_ret
    exact ⟨by rw [HW.out]; rfl, rfl⟩

set_option maxRecDepth 100000 in
set_option maxHeartbeats 2000000 in
theorem path_calls (t : ByteArray) (w : World) : Calls Try.prog 25 #[.string t] w fun e w' => e = .returned (.bool (Wi.path t)) ∧ w = w' := by
  by_cases hs : 1 ≤ t.size ∧ t.size ≤ 60
  · have HR : Hid (Wi.path t = t.data.toList.all Wi.okp) := by unfold Wi.path; rw [decide_eq_true hs, Bool.true_and]; exact rfl
    have HU := hide (Wi.upto_all t t.size (Nat.le_refl _))
    have HRN : Hid (∀ k, Wi.upto t (k + 1) = false → Wi.path t = false) := by
      intro k hk
      rw [HR.out, Wi.upto_more hk]
    obtain ⟨s1, s2⟩ := hs
    have d1 : decide ((t.size : Int) < 1) = false := by simp; omega
    have d2 : decide ((60 : Int) < (t.size : Int)) = false := by simp; omega
    go_enter Try.func25, Try.ntmps25
    go_wp2
    go_loop [15] (fun iv => ∃ k : Nat, k ≤ t.size ∧ iv = .int .i64 (k : Int) ∧ Wi.upto t k = true) (fun iv => t.size - (intOf iv).toNat)
    case atStart => exact ⟨0, by omega, rfl, rfl⟩
    case round =>
      obtain ⟨k, hk, rfl, hu⟩ := hrel
      by_cases hlt : k < t.size
      · have HS := hide (Wi.upto_succ t k hlt)
        rw [hu, Bool.true_and] at HS
        have HUk := hide hu
        clear hu
        have hi : (0 : Int) ≤ (k : Int) ∧ (k : Int) < (t.size : Int) := by omega
        have hx := (t[k]).toNat_lt
        obtain ⟨v, hv⟩ : ∃ v, (t[k]).toNat = v := ⟨_, rfl⟩
        have HV := hide hv
        rw [hv] at hx
        by_cases hok : (97 ≤ v ∧ v ≤ 122) ∨ (48 ≤ v ∧ v ≤ 57) ∨ v = 46 ∨ v = 47
        · have HN := hide (HS.out.trans (Wi.okp_yes HV.out hok))
          by_cases c1 : v = 46
          case' pos => subst c1
          case' neg =>
            by_cases c2 : v = 47
            case' pos => subst c2
            case' neg =>
              have c1' : ((v : Int) != 46) = true := by simp; omega
              have c2' : ((v : Int) != 47) = true := by simp; omega
              have c3 : (97 ≤ v ∧ v ≤ 122) ∨ (48 ≤ v ∧ v ≤ 57) := by omega
          all_goals
            clear hok
            go_wp2
            all_goals (try clear hv)
            all_goals first
              | (exfalso; omega)
              | (go_round; (case rel => exact ⟨k + 1, by omega, by go_num, HN.out⟩); (case measure => simp [intOf]; omega))
        · have HN := hide (HRN.out k (HS.out.trans (Wi.okp_no HV.out hok)))
          have c1' : ((v : Int) != 46) = true := by simp; omega
          have c2' : ((v : Int) != 47) = true := by simp; omega
          go_wp2
          all_goals (try clear hv)
          all_goals first
            | (exfalso; omega)
            | (go_ret; exact ⟨by rw [HN.out]; rfl, rfl⟩)
      · obtain rfl : k = t.size := by omega
        have HT := hide (HR.out.trans (HU.out.symm.trans hu))
        clear hu hlt
        go_wp2
        go_ret
        exact ⟨by rw [HT.out]; rfl, rfl⟩
  · have HR : Hid (Wi.path t = false) := by unfold Wi.path; rw [decide_eq_false hs, Bool.false_and]; exact rfl
    by_cases h1 : (t.size : Int) < 1
    case' neg =>
      have h2 : (60 : Int) < (t.size : Int) := by omega
      have d1 : decide ((t.size : Int) < 1) = false := by simpa using h1
    all_goals
      clear hs
      go_enter Try.func25, Try.ntmps25
      go_wp2
      go_ret
      exact ⟨by rw [HR.out]; rfl, rfl⟩
end Go.Proofs.Ytijcollcncjdoaa
