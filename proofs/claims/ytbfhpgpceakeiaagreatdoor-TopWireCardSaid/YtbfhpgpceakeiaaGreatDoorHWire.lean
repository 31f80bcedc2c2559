/- Texts of this claim in one: HWire. What each proves, and on what conditions, its own words say. -/
import Derived.Test.YtbfhpgpceakeiaaGreatDoorRows
import Derived.Test.YtbfhpgpceakeiaaGreatDoorHPlain
import Derived.Test.YtbfhpgpceakeiaaGreatDoorHBits
import Derived.Outline
import Derived.Lib.ConvBytes
import Derived.Test.YtbfhpgpceakeiaaGreatDoorOwnR
import Derived.Test.YtbfhpgpceakeiaaGreatDoorCut
namespace Go.Proofs.YtbfhpgpceakeiaaGreatDoor.C20
open Go.RowKit Kin

def RetBool (w : World) (b : Bool) : Ending → World → Prop := fun e w' => e = .returned (.bool b) ∧ Below w.heap.size w w'
/-- a request as a value, a response as a value -/
abbrev reqV (id : Int) (p : ByteArray) (fr tto : Int) : Value := .agg #[.int .i64 id, .string p, .int .i64 fr, .int .i64 tto]
abbrev resV (id st fr sz : Int) (A : Option Addr) (n c : Nat) : Value := .agg #[.int .i64 id, .int .i64 st, .int .i64 fr, .int .i64 sz, .slice A n c]

set_option maxRecDepth 100000 in
theorem within_calls (n a b : Int) (w : World) : Calls Tryz.prog 38 #[.int .i64 n, .int .i64 a, .int .i64 b] w fun e w' => e = .returned (.bool (Wi.win n a b)) ∧ w = w' := by
  by_cases h1 : a ≤ n
  · by_cases h2 : n ≤ b
    · have HW : Hid (Wi.win n a b = true) := decide_eq_true ⟨h1, h2⟩
      go_enter Tryz.func38, Tryz.ntmps38
      go_wp2
      go_ret
      exact ⟨by rw [HW.out]; rfl, rfl⟩
    · have HW : Hid (Wi.win n a b = false) := decide_eq_false (fun h => h2 h.2)
      have d2 : decide (n ≤ b) = false := by simpa using h2
      go_enter Tryz.func38, Tryz.ntmps38
      go_wp2
      go_ret
      exact ⟨by rw [HW.out]; rfl, rfl⟩
  · have HW : Hid (Wi.win n a b = false) := decide_eq_false (fun h => h1 h.1)
    have d1 : decide (a ≤ n) = false := by simpa using h1
    go_enter Tryz.func38, Tryz.ntmps38
    go_wp2
    go_ret
    exact ⟨by rw [HW.out]; rfl, rfl⟩
set_option maxRecDepth 100000 in
set_option maxHeartbeats 2000000 in
theorem path_calls (t : ByteArray) (w : World) : Calls Tryz.prog 43 #[.string t] w fun e w' => e = .returned (.bool (Wi.path t)) ∧ w = w' := by
  by_cases hs : 1 ≤ t.size ∧ t.size ≤ 60
  · have HR : Hid (Wi.path t = t.data.toList.all Wi.okp) := by unfold Wi.path; rw [decide_eq_true hs, Bool.true_and]; exact rfl
    have HU := hide (Wi.upto_all t t.size (Nat.le_refl _))
    have HRN : Hid (∀ k, Wi.upto t (k + 1) = false → Wi.path t = false) := by
      intro k hk
      rw [HR.out, Wi.upto_more hk]
    obtain ⟨s1, s2⟩ := hs
    have d1 : decide ((t.size : Int) < 1) = false := by simp; omega
    have d2 : decide ((60 : Int) < (t.size : Int)) = false := by simp; omega
    go_enter Tryz.func43, Tryz.ntmps43
    go_wp2
    go_loop [15] (fun iv => ∃ k : Nat, k ≤ t.size ∧ iv = .int .i64 (k : Int) ∧ Wi.upto t k = true) (fun iv => t.size - (intOf iv).toNat)
    case atStart => exact ⟨0, by omega, rfl, rfl⟩
    case round =>
      obtain ⟨k, hk, rfl, hu⟩ := hrel
      by_cases hlt : k < t.size
      · have HS := hide (Wi.upto_succ t k hlt)
        rw [hu, Bool.true_and] at HS
        have HUk := hide hu
        clear hu
        have hi : (0 : Int) ≤ (k : Int) ∧ (k : Int) < (t.size : Int) := by omega
        have hx := (t[k]).toNat_lt
        obtain ⟨v, hv⟩ : ∃ v, (t[k]).toNat = v := ⟨_, rfl⟩
        have HV := hide hv
        rw [hv] at hx
        by_cases hok : (97 ≤ v ∧ v ≤ 122) ∨ (48 ≤ v ∧ v ≤ 57) ∨ v = 46 ∨ v = 47
        · have HN := hide (HS.out.trans (Wi.okp_yes HV.out hok))
          by_cases c1 : v = 46
          case' pos => subst c1
          case' neg =>
            by_cases c2 : v = 47
            case' pos => subst c2
            case' neg =>
              have c1' : ((v : Int) != 46) = true := by simp; omega
              have c2' : ((v : Int) != 47) = true := by simp; omega
              have c3 : (97 ≤ v ∧ v ≤ 122) ∨ (48 ≤ v ∧ v ≤ 57) := by omega
          all_goals
            clear hok
            go_wp2
            all_goals (try clear hv)
            all_goals first
              | (exfalso; omega)
              | (go_round; (case rel => exact ⟨k + 1, by omega, by go_num, HN.out⟩); (case measure => simp [intOf]; omega))
        · have HN := hide (HRN.out k (HS.out.trans (Wi.okp_no HV.out hok)))
          have c1' : ((v : Int) != 46) = true := by simp; omega
          have c2' : ((v : Int) != 47) = true := by simp; omega
          go_wp2
          all_goals (try clear hv)
          all_goals first
            | (exfalso; omega)
            | (go_ret; exact ⟨by rw [HN.out]; rfl, rfl⟩)
      · obtain rfl : k = t.size := by omega
        have HT := hide (HR.out.trans (HU.out.symm.trans hu))
        clear hu hlt
        go_wp2
        go_ret
        exact ⟨by rw [HT.out]; rfl, rfl⟩
  · have HR : Hid (Wi.path t = false) := by unfold Wi.path; rw [decide_eq_false hs, Bool.false_and]; exact rfl
    by_cases h1 : (t.size : Int) < 1
    case' neg =>
      have h2 : (60 : Int) < (t.size : Int) := by omega
      have d1 : decide ((t.size : Int) < 1) = false := by simpa using h1
    all_goals
      clear hs
      go_enter Tryz.func43, Tryz.ntmps43
      go_wp2
      go_ret
      exact ⟨by rw [HR.out]; rfl, rfl⟩
end Go.Proofs.YtbfhpgpceakeiaaGreatDoor.C20
namespace Go.Proofs.YtbfhpgpceakeiaaGreatDoor.C20
open Go.RowKit Kin

theorem rq_eq (id : Int) (p : ByteArray) (fr tto : Int) : Wi.rq id p fr tto = (Wi.win id 0 1048575 && Wi.path p && Wi.win fr 0 1048576 && Wi.win tto (-1) 1048576) := rfl
theorem rq_eq' (id : Int) (p : ByteArray) (fr tto : Int) : Wi.rq id p fr tto = (Wi.path p && Wi.win id 0 1048575 && Wi.win fr 0 1048576 && Wi.win tto (-1) 1048576) := by
  rw [rq_eq, Bool.and_comm (Wi.win id 0 1048575)]
theorem rr_eq (id st fr sz : Int) (n : Nat) : Wi.rr id st fr sz n = (Wi.win id 0 1048575 && Wi.win st 1 4 && Wi.win fr 0 1048576 && Wi.win sz 0 1048576 && decide (n ≤ 1048576)) := rfl

set_option maxRecDepth 100000 in
set_option maxHeartbeats 4000000 in
theorem rq_calls (id : Int) (p : ByteArray) (fr tto : Int) (w : World) : Calls Tryz.prog 22 #[reqV id p fr tto] w (RetBool w (Wi.rq id p fr tto)) := by
  have HQ := hide (rq_eq id p fr tto)
  have b0 : Below w.heap.size w (w.alloc (.cells #[.int .i64 id, .string p, .int .i64 fr, .int .i64 tto] 27)) := (Below.refl _ _).alloc (Nat.le_refl _) _
  have bk := Blk.new w 27 #[.int .i64 id, .string p, .int .i64 fr, .int .i64 tto]
  have H1 := hide (within_calls id 0 1048575)
  have H2 := hide (path_calls p)
  have H3 := hide (within_calls fr 0 1048576)
  have H4 := hide (within_calls tto (-1) 1048576)
  generalize Wi.win id 0 1048575 = x1 at *
  generalize Wi.path p = x2 at *
  generalize Wi.win fr 0 1048576 = x3 at *
  generalize Wi.win tto (-1) 1048576 = x4 at *
  have k0 : (w.alloc (.cells #[.int .i64 id, .string p, .int .i64 fr, .int .i64 tto] 27)).cell? ⟨w.heap.size, 0, none⟩ = some (.int .i64 id) := bk.cell 0
  have k1 : (w.alloc (.cells #[.int .i64 id, .string p, .int .i64 fr, .int .i64 tto] 27)).cell? ⟨w.heap.size, 1, none⟩ = some (.string p) := bk.cell 1
  have k2 : (w.alloc (.cells #[.int .i64 id, .string p, .int .i64 fr, .int .i64 tto] 27)).cell? ⟨w.heap.size, 2, none⟩ = some (.int .i64 fr) := bk.cell 2
  have k3 : (w.alloc (.cells #[.int .i64 id, .string p, .int .i64 fr, .int .i64 tto] 27)).cell? ⟨w.heap.size, 3, none⟩ = some (.int .i64 tto) := bk.cell 3
  go_enter Tryz.func22, Tryz.ntmps22
  go_wp2_with fail
  generalize w.alloc (.cells #[.int .i64 id, .string p, .int .i64 fr, .int .i64 tto] 27) = W0 at *
  refine (H1.out _).mono ?_
  rintro e w1 ⟨rfl, rfl⟩
  cases x1
  · go_wp2
    go_ret
    exact ⟨by rw [HQ.out]; rfl, b0⟩
  · go_wp2_with fail
    refine (H2.out _).mono ?_
    rintro e w1 ⟨rfl, rfl⟩
    cases x2
    · go_wp2
      go_ret
      exact ⟨by rw [HQ.out]; rfl, b0⟩
    · go_wp2_with fail
      refine (H3.out _).mono ?_
      rintro e w1 ⟨rfl, rfl⟩
      cases x3
      · go_wp2
        go_ret
        exact ⟨by rw [HQ.out]; rfl, b0⟩
      · go_wp2_with fail
        refine (H4.out _).mono ?_
        rintro e w1 ⟨rfl, rfl⟩
        go_wp2
        go_ret
        exact ⟨by rw [HQ.out]; rfl, b0⟩
set_option maxRecDepth 100000 in
set_option maxHeartbeats 4000000 in
theorem rr_calls (id st fr sz : Int) (A : Option Addr) (n c : Nat) (w : World) (hm : n ≤ 9223372036854775807) : Calls Tryz.prog 20 #[resV id st fr sz A n c] w (RetBool w (Wi.rr id st fr sz n)) := by
  have HQ := hide (rr_eq id st fr sz n)
  have b0 : Below w.heap.size w (w.alloc (.cells #[.int .i64 id, .int .i64 st, .int .i64 fr, .int .i64 sz, .slice A n c] 25)) := (Below.refl _ _).alloc (Nat.le_refl _) _
  have bk := Blk.new w 25 #[.int .i64 id, .int .i64 st, .int .i64 fr, .int .i64 sz, .slice A n c]
  have H1 := hide (within_calls id 0 1048575)
  have H2 := hide (within_calls st 1 4)
  have H3 := hide (within_calls fr 0 1048576)
  have H4 := hide (within_calls sz 0 1048576)
  have hd : decide ((n : Int) ≤ 1048576) = decide (n ≤ 1048576) := by
    apply Bool.eq_iff_iff.2
    rw [decide_eq_true_iff, decide_eq_true_iff]
    omega
  have HD := hide hd
  clear hd
  generalize Wi.win id 0 1048575 = x1 at *
  generalize Wi.win st 1 4 = x2 at *
  generalize Wi.win fr 0 1048576 = x3 at *
  generalize Wi.win sz 0 1048576 = x4 at *
  have k0 : (w.alloc (.cells #[.int .i64 id, .int .i64 st, .int .i64 fr, .int .i64 sz, .slice A n c] 25)).cell? ⟨w.heap.size, 0, none⟩ = some (.int .i64 id) := bk.cell 0
  have k1 : (w.alloc (.cells #[.int .i64 id, .int .i64 st, .int .i64 fr, .int .i64 sz, .slice A n c] 25)).cell? ⟨w.heap.size, 1, none⟩ = some (.int .i64 st) := bk.cell 1
  have k2 : (w.alloc (.cells #[.int .i64 id, .int .i64 st, .int .i64 fr, .int .i64 sz, .slice A n c] 25)).cell? ⟨w.heap.size, 2, none⟩ = some (.int .i64 fr) := bk.cell 2
  have k3 : (w.alloc (.cells #[.int .i64 id, .int .i64 st, .int .i64 fr, .int .i64 sz, .slice A n c] 25)).cell? ⟨w.heap.size, 3, none⟩ = some (.int .i64 sz) := bk.cell 3
  have k4 : (w.alloc (.cells #[.int .i64 id, .int .i64 st, .int .i64 fr, .int .i64 sz, .slice A n c] 25)).cell? ⟨w.heap.size, 4, none⟩ = some (.slice A n c) := bk.cell 4
  go_enter Tryz.func20, Tryz.ntmps20
  go_wp2_with fail
  generalize w.alloc (.cells #[.int .i64 id, .int .i64 st, .int .i64 fr, .int .i64 sz, .slice A n c] 25) = W0 at *
  refine (H1.out _).mono ?_
  rintro e w1 ⟨rfl, rfl⟩
  cases x1
  · go_wp2
    go_ret
    exact ⟨by rw [HQ.out]; rfl, b0⟩
  · go_wp2_with fail
    refine (H2.out _).mono ?_
    rintro e w1 ⟨rfl, rfl⟩
    cases x2
    · go_wp2
      go_ret
      exact ⟨by rw [HQ.out]; rfl, b0⟩
    · go_wp2_with fail
      refine (H3.out _).mono ?_
      rintro e w1 ⟨rfl, rfl⟩
      cases x3
      · go_wp2
        go_ret
        exact ⟨by rw [HQ.out]; rfl, b0⟩
      · go_wp2_with fail
        refine (H4.out _).mono ?_
        rintro e w1 ⟨rfl, rfl⟩
        cases x4
        · go_wp2
          go_ret
          exact ⟨by rw [HQ.out]; rfl, b0⟩
        · go_wp2
          go_ret
          exact ⟨by rw [HQ.out, ← HD.out]; rfl, b0⟩

end Go.Proofs.YtbfhpgpceakeiaaGreatDoor.C20
namespace Go.Proofs.YtbfhpgpceakeiaaGreatDoor.C20
open Go.RowKit Kin

/-- bytes of the call's own, and an error -/
def RetBE (w : World) (l : List UInt8) (E : Int) (e : Ending) (w' : World) : Prop :=
  ∃ A n c, e = .returned (.tuple #[.slice A n c, .int .i64 E]) ∧ Own8 w' 5 A n c l ∧ (∀ g, blkOf A = some g → w.heap.size ≤ g) ∧ Below w.heap.size w w'
def numsV (vs : List Nat) : List Value := vs.map fun (v : Nat) => .int .i64 (v : Int)
theorem numsV_at {vs : List Nat} {k : Nat} (h : k < vs.length) : (numsV vs)[k]'(by simpa [numsV] using h) = .int .i64 (vs[k] : Int) := by simp [numsV]
theorem take_codes {vs : List Nat} {k : Nat} (h : k < vs.length) : Wi.codes (vs.take (k + 1)) = Wi.codes (vs.take k) ++ Gol.codeB vs[k] := by
  rw [List.take_add_one, List.getElem?_eq_getElem h]
  exact Wi.codes_snoc _ _
theorem four_cells (s : Nat) (h : s < 4294967296) : #[Value.int .u8 ((s : Int) / 16777216), .int .u8 ((s : Int) / 65536 % 256), .int .u8 ((s : Int) / 256 % 256), .int .u8 ((s : Int) % 256)].toList = B8 (Wi.four s) := by
  unfold B8 Wi.four
  rw [List.map_cons, List.map_cons, List.map_cons, List.map_cons, List.map_nil, Wi.u8m, Wi.u8m, Wi.u8m, Wi.u8m]
  have c1 : ((s / 16777216 % 256 : Nat) : Int) = (s : Int) / 16777216 := by omega
  have c2 : ((s / 65536 % 256 : Nat) : Int) = (s : Int) / 65536 % 256 := by omega
  have c3 : ((s / 256 % 256 : Nat) : Int) = (s : Int) / 256 % 256 := by omega
  have c4 : ((s % 256 : Nat) : Int) = (s : Int) % 256 := by omega
  rw [c1, c2, c3, c4]
theorem codes_len : ∀ (vs : List Nat), (∀ v ∈ vs, v ≤ 4294967294) → (Wi.codes vs).length ≤ 64 * vs.length
  | [], _ => by simp [Wi.codes]
  | v :: vs, h => by
    have ih := codes_len vs (fun x hx => h x (by simp [hx]))
    have hv := h v (by simp)
    show (Gol.codeB v ++ Wi.codes vs).length ≤ _
    rw [List.length_append, Gol.length_codeB hv, List.length_cons]
    have := Gol.gl_le v
    omega

set_option maxRecDepth 100000 in
set_option maxHeartbeats 4000000 in
theorem write_calls (A : Option Addr) (n c : Nat) (t : List UInt8) (A' : Option Addr) (n' c' : Nat) (vs : List Nat) (w : World) (hn : n = t.length) (hm : n ≤ 1048576) (hA : Byt w w.heap.size A t) (hn' : n' = vs.length) (hm' : n' ≤ 6) (hA' : Vals w w.heap.size A' (numsV vs)) (hv : ∀ v ∈ vs, v ≤ 4294967294) :
    Calls Tryz.prog 21 #[.slice A n c, .slice A' n' c'] w (RetBE w (Wi.wire vs t) 0) := by
  have HN := hide hn
  have HN' := hide hn'
  have HV := hide hv
  have HA := hide hA
  clear hn hn' hv hA
  go_enter Tryz.func21, Tryz.ntmps21
  go_wp2_with fail
  refine (new_calls _).mono ?_
  rintro e w1 ⟨rfl, r1, b1⟩
  obtain ⟨gw, hgw⟩ : ∃ g, g = w.heap.size := ⟨_, rfl⟩
  rw [← hgw] at r1 ⊢
  have ggw : w.heap.size ≤ gw := Nat.le_of_eq hgw.symm
  clear hgw
  go_wp2
  go_loopw [14] (fun iv wr => ∃ (k : Nat) (R : Option Nat), k ≤ n' ∧ iv = .int .i64 (k : Int) ∧ WriterIs wr gw R (Wi.codes (vs.take k)) ∧ (∀ r, R = some r → w.heap.size ≤ r) ∧ Below w.heap.size w wr) (fun iv _ => n' - (intOf iv).toNat)
  case atStart => exact ⟨0, none, by omega, rfl, r1, by simp, b1⟩
  case round =>
    obtain ⟨k, R, hk, rfl, hw, gR, bel⟩ := hrel
    clear r1 b1
    have HLC : Hid ((Wi.codes (vs.take k)).length ≤ 384) := by
      have h1 := codes_len (vs.take k) (fun v hv => HV.out v (List.mem_of_mem_take hv))
      rw [List.length_take] at h1
      show _ ≤ _
      omega
    by_cases hlt : k < n'
    · have hkx : k < vs.length := by rw [← HN'.out]; exact hlt
      obtain ⟨b, off, rfl, hb, c0⟩ := (hA'.below bel).at_ (k := k) (by simpa [numsV] using hkx)
      rw [numsV_at hkx] at c0
      have HT := hide (take_codes hkx)
      have hvk := HV.out _ (List.getElem_mem hkx)
      generalize vs[k] = v at *
      have i0 : (0 : Int) ≤ (k : Int) := by omega
      have i1 : (k : Int) < (n' : Int) := by omega
      have HAA := hide hA'
      clear hA'
      go_wp2_with fail
      refine (gput_any gw R _ v _ hw (by have := HLC.out; omega) (by omega)).mono ?_
      rintro e w2 ⟨rfl, R2, hw2, ch2, rn2⟩
      rw [gputB_ok hvk, ← HT.out] at hw2
      rw [gputE_ok hvk]
      have bel2 := bel.trans (ch2.below (Foot.ge ggw gR) bel.size)
      have gR2 := rn2.ge gR bel.size
      clear hw ch2 rn2 c0
      go_wp2
      go_roundw
      case rel => exact ⟨k + 1, R2, by omega, by go_num, hw2, gR2, bel2⟩
      case measure => simp [intOf]; omega
    · obtain rfl : n' = k := by omega
      have HT := hide (List.take_of_length_le (l := vs) (i := n') (by rw [← HN'.out]; omega))
      rw [HT.out] at hw HLC
      clear hlt
      go_wp2_with fail
      refine (wbytes_calls gw R _ _ hw (by have := HLC.out; omega)).mono ?_
      rintro e w2 ⟨A2, n2, c2, rfl, o2, g2, b2⟩
      have bel2 := bnext bel b2
      have gA2 : ∀ g, blkOf A2 = some g → w.heap.size ≤ g := fun g hg => Nat.le_trans bel.size (g2 g hg)
      have hn2 : n2 ≤ 100 := by rw [o2.1, Bit.length_pack]; have := HLC.out; omega
      clear hw g2 b2 bel
      go_wp2_with (first
        | (at_builtin; refine wpList_append8 (by rfl) (.tmp 25) (.tmp 26) 23 5 (by rfl) bytesT _ _ _ _ (by rfl) o2 _ _ _ _ t (by rfl) (HA.out.below bel2) HN.out (by omega) ?_; intro A3 c3 w3 own3 grow3 at3))
      have bel3 := bel2.grown grow3 bel2.size gA2
      have gA3 : ∀ g, blkOf A3 = some g → w.heap.size ≤ g := by
        intro g hg
        rcases at3 with e | e
        · exact gA2 g (by rw [← e]; exact hg)
        · rw [hg] at e; injection e with e; rw [e]; exact bel2.size
      have hbo : Bit.pack (Wi.codes vs) ++ t = Wi.body vs t := rfl
      rw [hbo] at own3
      clear grow3 at3 o2 gA2 bel2
      refine (C3.sum_calls A3 (n2 + n) _ c3 w3 own3.1 (by rw [← own3.1]; omega) own3.byt).mono ?_
      rintro e w4 ⟨rfl, b4⟩
      have own4 := own3.below b4 own3.lt
      have bel4 := bnext bel3 b4
      have hs : Crc.sum (Wi.body vs t) < 4294967296 := Crc.more_lt 0 _
      have HWi : Hid (Wi.wire vs t = Wi.body vs t ++ Wi.four (Crc.sum (Wi.body vs t))) := rfl
      generalize Crc.sum (Wi.body vs t) = s at *
      clear own3 b4 bel3
      have HF := hide (four_cells s hs)
      have o5 := own4.alloc (.cells #[.int .u8 ((s : Int) / 16777216), .int .u8 ((s : Int) / 65536 % 256), .int .u8 ((s : Int) / 256 % 256), .int .u8 ((s : Int) % 256)] 5)
      have y5 := Byt.new w4 #[.int .u8 ((s : Int) / 16777216), .int .u8 ((s : Int) / 65536 % 256), .int .u8 ((s : Int) / 256 % 256), .int .u8 ((s : Int) % 256)] 5 (0, 0) _ HF.out
      have bel5 := bel4.alloc bel4.size (.cells #[.int .u8 ((s : Int) / 16777216), .int .u8 ((s : Int) / 65536 % 256), .int .u8 ((s : Int) / 256 % 256), .int .u8 ((s : Int) % 256)] 5)
      go_wp2_with (at_builtin; refine wpList_append8 (by rfl) (.tmp 30) (.tmp 42) 23 5 (by rfl) bytesT _ _ _ _ (by rfl) o5 _ _ _ _ (Wi.four s) (by rfl) y5 (by rfl) (by omega) ?_; intro A6 c6 w6 own6 grow6 at6)
      rw [← HWi.out] at own6
      go_ret2
      refine ⟨A6, _, c6, rfl, own6, ?_, bel5.grown grow6 bel5.size gA3⟩
      intro g hg
      rcases at6 with e | e
      · exact gA3 g (by rw [← e]; exact hg)
      · rw [hg] at e; injection e with e; rw [e]; exact bel5.size

/-- what is written of a request, of a response -/
def rqN (id : Int) (p : ByteArray) (fr tto : Int) : List Nat := [0, id.toNat, fr.toNat, (tto + 1).toNat, p.size]
def rrN (id st fr sz : Int) (n : Nat) : List Nat := [1, id.toNat, st.toNat, fr.toNat, sz.toNat, n]
def rqL (id : Int) (p : ByteArray) (fr tto : Int) : List UInt8 := if Wi.rq id p fr tto = true then Wi.wire (rqN id p fr tto) p.data.toList else []
def rrL (id st fr sz : Int) (t : List UInt8) : List UInt8 := if Wi.rr id st fr sz t.length = true then Wi.wire (rrN id st fr sz t.length) t else []
def okE (b : Bool) : Int := if b = true then 0 else 201
theorem win_of {n a b : Int} (h : Wi.win n a b = true) : a ≤ n ∧ n ≤ b := of_decide_eq_true h
theorem rq_of {id : Int} {p : ByteArray} {fr tto : Int} (h : Wi.rq id p fr tto = true) : (0 ≤ id ∧ id ≤ 1048575) ∧ (1 ≤ p.size ∧ p.size ≤ 60) ∧ (0 ≤ fr ∧ fr ≤ 1048576) ∧ (-1 ≤ tto ∧ tto ≤ 1048576) := by
  unfold Wi.rq at h
  rw [Bool.and_eq_true, Bool.and_eq_true, Bool.and_eq_true] at h
  obtain ⟨⟨⟨h1, h2⟩, h3⟩, h4⟩ := h
  unfold Wi.path at h2
  rw [Bool.and_eq_true] at h2
  exact ⟨win_of h1, of_decide_eq_true h2.1, win_of h3, win_of h4⟩
theorem rr_of {id st fr sz : Int} {n : Nat} (h : Wi.rr id st fr sz n = true) : (0 ≤ id ∧ id ≤ 1048575) ∧ (1 ≤ st ∧ st ≤ 4) ∧ (0 ≤ fr ∧ fr ≤ 1048576) ∧ (0 ≤ sz ∧ sz ≤ 1048576) ∧ n ≤ 1048576 := by
  unfold Wi.rr at h
  rw [Bool.and_eq_true, Bool.and_eq_true, Bool.and_eq_true, Bool.and_eq_true] at h
  obtain ⟨⟨⟨⟨h1, h2⟩, h3⟩, h4⟩, h5⟩ := h
  exact ⟨win_of h1, win_of h2, win_of h3, win_of h4, of_decide_eq_true h5⟩
theorem vals_new (w : World) (cs : Array Value) (e : TypeId) (xs : List Value) (g : Nat) (hg : w.heap.size = g) (h : cs.toList = xs) : Vals (w.alloc (.cells cs e)) (w.alloc (.cells cs e)).heap.size (some ⟨g, 0, none⟩) xs := by
  subst hg
  intro _
  refine ⟨w.heap.size, 0, rfl, by simp, fun j v hj => ?_⟩
  rw [cell_of_row _ _ _ cs e (0, 0) (heap_alloc_new w _), Nat.zero_add]
  rw [← h] at hj
  simpa using hj

theorem conv_sb (w : World) (s : ByteArray) : ∃ c w', Sem.run Tryz.prog (convert 9 23 (.string s)) w = .ok (.slice (some ⟨w.heap.size, 0, none⟩) s.size c) w' ∧ Byt w' w'.heap.size (some ⟨w.heap.size, 0, none⟩) s.data.toList ∧ Below w.heap.size w w' := by
  refine ⟨_, _, Lib.run_convert_string_bytes (P := Tryz.prog) w 9 23 5 s Tryz.underlying9 Tryz.underlying23 Tryz.underlying5, ?_, ?_⟩
  · intro _
    refine ⟨w.heap.size, 0, rfl, by rw [Lib.bytesWorld_size]; omega, fun j x hx => ?_⟩
    obtain ⟨hj, he⟩ := List.getElem?_eq_some_iff.1 hx
    have := Lib.bytesWorld_cell w 5 s j (by simpa using hj)
    rw [Nat.zero_add, this]
    simp [List.getD, hx]
  · refine ⟨rfl, rfl, rfl, by rw [Lib.bytesWorld_size]; omega, fun k hk => Lib.bytesWorld_at_old w 5 s k hk⟩

set_option maxRecDepth 100000 in
set_option maxHeartbeats 4000000 in
theorem request_calls (id : Int) (p : ByteArray) (fr tto : Int) (w : World) : Calls Tryz.prog 7 #[reqV id p fr tto] w (RetBE w (rqL id p fr tto) (okE (Wi.rq id p fr tto))) := by
  have b0 : Below w.heap.size w (w.alloc (.cells #[.int .i64 id, .string p, .int .i64 fr, .int .i64 tto] 27)) := (Below.refl _ _).alloc (Nat.le_refl _) _
  have bk := Blk.new w 27 #[.int .i64 id, .string p, .int .i64 fr, .int .i64 tto]
  have HQ := hide (rq_calls id p fr tto)
  cases hq : Wi.rq id p fr tto
  · rw [hq] at HQ
    have HL : Hid (rqL id p fr tto = []) := by unfold rqL; rw [hq]; exact rfl
    clear hq
    go_enter Tryz.func7, Tryz.ntmps7
    go_wp2_with fail
    refine (HQ.out _).mono ?_
    rintro e w1 ⟨rfl, b1⟩
    go_wp2
    go_ret2
    rw [HL.out]
    exact ⟨none, 0, 0, rfl, Own8.nil _ _, by simp [blkOf], bnext b0 b1⟩
  · rw [hq] at HQ
    have HL : Hid (rqL id p fr tto = Wi.wire (rqN id p fr tto) p.data.toList) := by unfold rqL; rw [hq]; exact rfl
    obtain ⟨⟨i1, i2⟩, ⟨p1, p2⟩, ⟨f1, f2⟩, t1, t2⟩ := rq_of hq
    clear hq
    obtain ⟨a, rfl⟩ : ∃ a : Nat, id = a := ⟨id.toNat, by omega⟩
    obtain ⟨b, rfl⟩ : ∃ a : Nat, fr = a := ⟨fr.toNat, by omega⟩
    obtain ⟨d, hd⟩ : ∃ a : Nat, tto + 1 = a := ⟨(tto + 1).toNat, by omega⟩
    have HNum : Hid (#[Value.int .i64 0, .int .i64 (a : Int), .int .i64 (b : Int), .int .i64 (d : Int), .int .i64 (p.size : Int)].toList = numsV (rqN a p b tto)) := by
      unfold numsV rqN
      rw [hd]
      rfl
    have HVs : Hid (∀ v ∈ rqN a p b tto, v ≤ 4294967294) := by
      unfold rqN
      rw [hd]
      intro v hv
      simp at hv
      rcases hv with rfl | rfl | rfl | rfl | rfl <;> omega
    have hd1 : (tto + 1 : Int) = (d : Int) := hd
    clear hd
    go_enter Tryz.func7, Tryz.ntmps7
    go_wp2_with fail
    generalize w.alloc (.cells #[.int .i64 (a : Int), .string p, .int .i64 (b : Int), .int .i64 tto] 27) = W0 at *
    refine (HQ.out _).mono ?_
    rintro e w1 ⟨rfl, b1⟩
    have bk1 := bk.below b1 bk.lt
    have bel1 := bnext b0 b1
    have k0 : w1.cell? ⟨w.heap.size, 0, none⟩ = some (.int .i64 (a : Int)) := bk1.cell 0
    have k1 : w1.cell? ⟨w.heap.size, 1, none⟩ = some (.string p) := bk1.cell 1
    have k2 : w1.cell? ⟨w.heap.size, 2, none⟩ = some (.int .i64 (b : Int)) := bk1.cell 2
    have k3 : w1.cell? ⟨w.heap.size, 3, none⟩ = some (.int .i64 tto) := bk1.cell 3
    obtain ⟨cc, W1, hcv, y1, bW1⟩ := conv_sb w1 p
    have bk2 := bk1.below bW1 bk1.lt
    have m0 : W1.cell? ⟨w.heap.size, 0, none⟩ = some (.int .i64 (a : Int)) := bk2.cell 0
    have m1 : W1.cell? ⟨w.heap.size, 1, none⟩ = some (.string p) := bk2.cell 1
    have m2 : W1.cell? ⟨w.heap.size, 2, none⟩ = some (.int .i64 (b : Int)) := bk2.cell 2
    have m3 : W1.cell? ⟨w.heap.size, 3, none⟩ = some (.int .i64 tto) := bk2.cell 3
    have bV : Below W1.heap.size W1 (W1.alloc (.cells #[.int .i64 0, .int .i64 (a : Int), .int .i64 (b : Int), .int .i64 (d : Int), .int .i64 (p.size : Int)] 3)) := (Below.refl _ _).alloc (Nat.le_refl _) _
    have vals := vals_new W1 #[.int .i64 0, .int .i64 (a : Int), .int .i64 (b : Int), .int .i64 (d : Int), .int .i64 (p.size : Int)] 3 _ W1.heap.size rfl HNum.out
    have bel2 := bnext (bnext bel1 bW1) bV
    have HWC := hide (write_calls (some ⟨w1.heap.size, 0, none⟩) p.size cc p.data.toList (some ⟨W1.heap.size, 0, none⟩) 5 5 (rqN a p b tto) _ rfl (by omega) ((y1.below bV).more bV.size) rfl (by omega) vals HVs.out)
    clear y1 bk bk1 bk2 vals HNum HVs
    go_wp2_with fail
    refine HWC.out.mono ?_
    rintro e w3 ⟨A3, n3, c3, rfl, o3, g3, b3⟩
    go_wp2
    go_ret2
    rw [HL.out]
    exact ⟨A3, n3, c3, rfl, o3, fun g hg => Nat.le_trans bel2.size (g3 g hg), bnext bel2 b3⟩

set_option maxRecDepth 100000 in
set_option maxHeartbeats 4000000 in
theorem response_calls (id st fr sz : Int) (A : Option Addr) (n c : Nat) (t : List UInt8) (w : World) (hn : n = t.length) (hm : n ≤ 9223372036854775807) (hA : Byt w w.heap.size A t) : Calls Tryz.prog 6 #[resV id st fr sz A n c] w (RetBE w (rrL id st fr sz t) (okE (Wi.rr id st fr sz n))) := by
  have b0 : Below w.heap.size w (w.alloc (.cells #[.int .i64 id, .int .i64 st, .int .i64 fr, .int .i64 sz, .slice A n c] 25)) := (Below.refl _ _).alloc (Nat.le_refl _) _
  have bk := Blk.new w 25 #[.int .i64 id, .int .i64 st, .int .i64 fr, .int .i64 sz, .slice A n c]
  have HQ := hide (fun w' => rr_calls id st fr sz A n c w' hm)
  have HN := hide hn
  have HA := hide hA
  have HL0 : Hid (rrL id st fr sz t = if Wi.rr id st fr sz n = true then Wi.wire (rrN id st fr sz n) t else []) := by unfold rrL; rw [hn]; exact rfl
  clear hn hA
  cases hq : Wi.rr id st fr sz n
  · rw [hq] at HQ
    have HL : Hid (rrL id st fr sz t = []) := by rw [HL0.out, hq]; exact rfl
    clear hq HL0
    go_enter Tryz.func6, Tryz.ntmps6
    go_wp2_with fail
    refine (HQ.out _).mono ?_
    rintro e w1 ⟨rfl, b1⟩
    go_wp2
    go_ret2
    rw [HL.out]
    exact ⟨none, 0, 0, rfl, Own8.nil _ _, by simp [blkOf], bnext b0 b1⟩
  · rw [hq] at HQ
    have HL : Hid (rrL id st fr sz t = Wi.wire (rrN id st fr sz n) t) := by rw [HL0.out, hq]; exact rfl
    obtain ⟨⟨i1, i2⟩, ⟨p1, p2⟩, ⟨f1, f2⟩, ⟨t1, t2⟩, hnm⟩ := rr_of hq
    clear hq HL0
    obtain ⟨a, rfl⟩ : ∃ a : Nat, id = a := ⟨id.toNat, by omega⟩
    obtain ⟨s, rfl⟩ : ∃ a : Nat, st = a := ⟨st.toNat, by omega⟩
    obtain ⟨b, rfl⟩ : ∃ a : Nat, fr = a := ⟨fr.toNat, by omega⟩
    obtain ⟨d, rfl⟩ : ∃ a : Nat, sz = a := ⟨sz.toNat, by omega⟩
    have HNum : Hid (#[Value.int .i64 1, .int .i64 (a : Int), .int .i64 (s : Int), .int .i64 (b : Int), .int .i64 (d : Int), .int .i64 (n : Int)].toList = numsV (rrN a s b d n)) := rfl
    have HVs : Hid (∀ v ∈ rrN a s b d n, v ≤ 4294967294) := by
      unfold rrN
      intro v hv
      simp at hv
      rcases hv with rfl | rfl | rfl | rfl | rfl | rfl <;> omega
    go_enter Tryz.func6, Tryz.ntmps6
    go_wp2_with fail
    generalize w.alloc (.cells #[.int .i64 (a : Int), .int .i64 (s : Int), .int .i64 (b : Int), .int .i64 (d : Int), .slice A n c] 25) = W0 at *
    refine (HQ.out _).mono ?_
    rintro e w1 ⟨rfl, b1⟩
    have bk1 := bk.below b1 bk.lt
    have bel1 := bnext b0 b1
    have m0 : w1.cell? ⟨w.heap.size, 0, none⟩ = some (.int .i64 (a : Int)) := bk1.cell 0
    have m1 : w1.cell? ⟨w.heap.size, 1, none⟩ = some (.int .i64 (s : Int)) := bk1.cell 1
    have m2 : w1.cell? ⟨w.heap.size, 2, none⟩ = some (.int .i64 (b : Int)) := bk1.cell 2
    have m3 : w1.cell? ⟨w.heap.size, 3, none⟩ = some (.int .i64 (d : Int)) := bk1.cell 3
    have m4 : w1.cell? ⟨w.heap.size, 4, none⟩ = some (.slice A n c) := bk1.cell 4
    have bV : Below w1.heap.size w1 (w1.alloc (.cells #[.int .i64 1, .int .i64 (a : Int), .int .i64 (s : Int), .int .i64 (b : Int), .int .i64 (d : Int), .int .i64 (n : Int)] 3)) := (Below.refl _ _).alloc (Nat.le_refl _) _
    have vals := vals_new w1 #[.int .i64 1, .int .i64 (a : Int), .int .i64 (s : Int), .int .i64 (b : Int), .int .i64 (d : Int), .int .i64 (n : Int)] 3 _ w1.heap.size rfl HNum.out
    have bel2 := bnext bel1 bV
    have HWC := hide (write_calls A n c t (some ⟨w1.heap.size, 0, none⟩) 6 6 (rrN a s b d n) _ HN.out (by omega) ((HA.out.below bel2).more bel2.size) rfl (by omega) vals HVs.out)
    clear bk bk1 vals HNum HVs
    go_wp2_with fail
    refine HWC.out.mono ?_
    rintro e w3 ⟨A3, n3, c3, rfl, o3, g3, b3⟩
    go_wp2
    go_ret2
    rw [HL.out]
    exact ⟨A3, n3, c3, rfl, o3, fun g hg => Nat.le_trans bel2.size (g3 g hg), bnext bel2 b3⟩
end Go.Proofs.YtbfhpgpceakeiaaGreatDoor.C20
namespace Go.Proofs.YtbfhpgpceakeiaaGreatDoor.C20
open Go.RowKit Kin

theorem ptrsT : IsRows Tryz.prog 137 92 1 8 := isRows_of (z := .pointer none) Tryz.underlying137 (by decide) (by kernel_rfl) rfl
theorem run_cutR_h {P : Program} {t e : TypeId} {k by_ : Nat} (ht : IsRows P t e k by_) (A : Option Addr) (n c : Nat) (j : Nat) (h2 : j ≤ c) (w : World) :
    (Instr.sliceAt t (.slice A n c) none (some (.int .i64 (j : Int))) none).run P w = .ok (.slice A j c) w := by
  obtain ⟨ht, _, i, z, hi, _, hs, _⟩ := ht
  have he : P.elem t = e := by simp [Program.elem, ht]
  have ht' : P.underlying t = some (.slice (P.elem t)) := by rw [he]; exact ht
  rw [run_sliceAt_slice w t _ _ _ _ ht', run_slice_h w t A n c ht' .i64 j (by omega) (by omega)]
  have : A.map (·.add 0) = A := by cases A <;> simp [Addr.add]
  simp [he, Go.sizeOf, typeInfo, hi, hs, sliced, Result.andThen, this]
theorem wpList_appendZ {P : Program} {w : World} {ops : Array Oper} {rest : List Oper} {o : Oper} {a : Act} {Q : Exit → Act → World → Prop} (hw : Region.wanted o (yielded ops a.tmps) = true) (s x : Operand) (t e tn : TypeId) (by_ : Nat)
    (ho : o.op = .call { callee := .builtin .append, args := #[s, x], argTypes := #[t, tn] }) (ht : IsRows P t e 1 by_) (kn : IntKind) (htn : P.underlying tn = some (.int kn))
    (hs : a.eval s = .slice none 0 0) (k : IntKind) (n : Nat) (hx : a.eval x = .int k (n : Int)) (h0 : 0 < n) (hb : n ≤ 1000000) (hby : by_ ≤ 100)
    (h : ∀ A' c' w', OwnR w' e 1 A' 0 c' [] → n ≤ c' → (∀ g, blkOf A' = some g → g = w.heap.size) → Below w.heap.size w w' → wpList P ops Q rest (a.put o.dst (.slice A' n c')) w') : wpList P ops Q (o :: rest) a w := by
  obtain ⟨ht, _, i, z, hi, hz, hsize, hbb, hzs⟩ := ht
  have hr := Lib.run_append_nil_zeros (P := P) w t tn o.type e i z k kn ht htn hi hz n h0 (by omega) (by omega) (by rw [hbb]; exact Nat.le_trans (Nat.mul_le_mul hb hby) (by decide))
  have hge := grownCap_ge w n 0 e
  have hcm : grownCap w n 0 e ≤ maxLen := grownCap_le_maxLen w n 0 e (by unfold maxLen; omega)
  refine BigFrame.wpList_want hw fun K hK => ?_
  unfold Oper.wp execOp
  simp only [ho, resolve, invoke, builtin, Sem.run_bind, Sem.run_pure, Result.andThen_ok, List.map_toArray, List.map_cons, List.map_nil, hs, hx, hr]
  refine hK _ _ (h _ _ _ ⟨rfl, by simp, by simp, Or.inr ⟨w.heap.size, _, _, rfl, Nat.zero_le _, heap_alloc_new w.drew _, Nat.zero_le _, hcm, ?_, by simp⟩⟩ hge (by simp [blkOf]) ?_)
  · rw [Array.size_append, size_zeroCells, size_zeroCells, hzs]; omega
  · exact ⟨rfl, rfl, rfl, by simp, fun k hk => Below.heap_alloc w.drew _ k hk⟩

set_option maxRecDepth 100000 in
set_option maxHeartbeats 2000000 in
theorem grow_calls (n : Nat) (w : World) (h0 : 0 < n) (hn : n ≤ 100) : Calls Tryz.prog 69 #[.slice none 0 0, .int .i64 (n : Int)] w fun e w' => ∃ A c, e = .returned (.slice A 0 c) ∧ OwnR w' 92 1 A 0 c [] ∧ (∀ g, blkOf A = some g → w.heap.size ≤ g) ∧ Below w.heap.size w w' := by
  have hs1 : ∀ w', Sem.run Tryz.prog (Instr.sliceAt 137 (.slice none 0 0) none (some (.int .i64 0)) none) w' = .ok (.slice none 0 0) w' := fun w' => run_cutR_h ptrsT none 0 0 0 (Nat.le_refl _) w'
  have hs2 : ∀ (A : Option Addr) (m c : Nat) w', Sem.run Tryz.prog (Instr.sliceAt 137 (.slice A m c) none (some (.int .i64 0)) none) w' = .ok (.slice A 0 c) w' := fun A m c w' => run_cutR_h ptrsT A m c 0 (Nat.zero_le _) w'
  have d0 : decide ((n : Int) < 0) = false := by simp
  have i0 : (0 : Int) < (n : Int) := by omega
  go_enter Tryz.func69, Tryz.ntmps69
  go_wp2_with (at_builtin; refine wpList_appendZ (by rfl) (.tmp 20) (.tmp 21) 137 92 3 8 (by rfl) ptrsT .i64 Tryz.underlying3 (by rfl) .i64 n (by rfl) h0 (by omega) (by decide) ?_; intro A1 c1 w1 own1 hc1 g1 b1)
  go_ret
  exact ⟨A1, c1, rfl, own1, fun g hg => Nat.le_of_eq (g1 g hg).symm, b1⟩

/-- rows of one cell -/
def ptrRows (ps : List Addr) : List (List Value) := ps.map fun p => [.pointer (some p)]
theorem ptrRows_len (ps : List Addr) : ∀ r ∈ ptrRows ps, r.length = 1 := by
  intro r hr
  obtain ⟨p, _, rfl⟩ := List.mem_map.1 hr
  rfl
theorem ptrRows_one (ps : List Addr) : ∀ r ∈ ptrRows ps, ∀ u ∈ r, u.oneCell' = true := by
  intro r hr
  obtain ⟨p, _, rfl⟩ := List.mem_map.1 hr
  simp [Value.oneCell']
theorem ptr_nxt {w W W' : World} {A A' : Option Addr} (bel : Below w.heap.size w W) (gA : ∀ k, blkOf A = some k → w.heap.size ≤ k) (grow : W.grownBy W' (blkOf A)) (at1 : blkOf A' = blkOf A ∨ blkOf A' = some W.heap.size) :
    Below w.heap.size w W' ∧ (∀ k, blkOf A' = some k → w.heap.size ≤ k) := by
  refine ⟨bel.grown grow bel.size gA, fun k hk => ?_⟩
  rcases at1 with e | e
  · exact gA k (by rw [← e]; exact hk)
  · rw [hk] at e; injection e with e; rw [e]; exact bel.size
theorem ptrRows_app (a b : List Addr) : ptrRows (a ++ b) = ptrRows a ++ ptrRows b := by simp [ptrRows]

set_option maxRecDepth 100000 in
set_option maxHeartbeats 4000000 in
theorem concat_calls (g : Nat) (A1 A2 A3 : Option Addr) (n1 n2 n3 c1 c2 c3 : Nat) (p1 p2 p3 : List Addr) (w : World) (hg : Blk w g 137 #[.slice A1 n1 c1, .slice A2 n2 c2, .slice A3 n3 c3])
    (h1 : n1 = p1.length) (h2 : n2 = p2.length) (h3 : n3 = p3.length) (h0 : 0 < n1) (hm : n1 + n2 + n3 ≤ 100) (r1 : Recs w w.heap.size 1 A1 (ptrRows p1)) (r2 : Recs w w.heap.size 1 A2 (ptrRows p2)) (r3 : Recs w w.heap.size 1 A3 (ptrRows p3)) :
    Calls Tryz.prog 49 #[.slice (some ⟨g, 0, none⟩) 3 3] w fun e w' => ∃ A c, e = .returned (.slice A (n1 + n2 + n3) c) ∧ OwnR w' 92 1 A (n1 + n2 + n3) c (ptrRows (p1 ++ p2 ++ p3)) ∧ (∀ k, blkOf A = some k → w.heap.size ≤ k) ∧ Below w.heap.size w w' := by
  have H1 := hide h1
  have H2 := hide h2
  have H3 := hide h3
  clear h1 h2 h3
  have q0 : w.cell? ⟨g, 0, none⟩ = some (.slice A1 n1 c1) := hg.cell 0
  have q1 : w.cell? ⟨g, 1, none⟩ = some (.slice A2 n2 c2) := hg.cell 1
  have q2 : w.cell? ⟨g, 2, none⟩ = some (.slice A3 n3 c3) := hg.cell 2
  go_enter Tryz.func49, Tryz.ntmps49
  go_wp2
  go_loop [3, 11] (fun sv iv => ∃ k s : Nat, k ≤ 3 ∧ iv = .int .i64 (k : Int) ∧ sv = .int .i64 (s : Int) ∧ Hid ((k = 0 → s = 0) ∧ (k = 1 → s = n1) ∧ (k = 2 → s = n1 + n2) ∧ (k = 3 → s = n1 + n2 + n3)) ∧ s ≤ 100) (fun _ iv => 3 - (intOf iv).toNat)
  case atStart => exact ⟨0, 0, by omega, rfl, rfl, ⟨fun _ => rfl, fun h => by omega, fun h => by omega, fun h => by omega⟩, by omega⟩
  case round =>
    obtain ⟨k, s, hk, rfl, rfl, hs, hs2⟩ := hrel
    by_cases hlt : k < 3
    · have hk3 : k = 0 ∨ k = 1 ∨ k = 2 := by omega
      rcases hk3 with rfl | rfl | rfl
      · obtain rfl : s = 0 := hs.out.1 rfl
        go_wp2
        go_round
        case rel => exact ⟨1, n1, by omega, by go_num, by go_num, ⟨fun h => by omega, fun _ => rfl, fun h => by omega, fun h => by omega⟩, by omega⟩
        case measure => simp [intOf]
      · obtain rfl : s = n1 := hs.out.2.1 rfl
        go_wp2
        go_round
        case rel => exact ⟨2, s + n2, by omega, by go_num, by go_num, ⟨fun h => by omega, fun h => by omega, fun _ => rfl, fun h => by omega⟩, by omega⟩
        case measure => simp [intOf]
      · have hs' : s = n1 + n2 := hs.out.2.2.1 rfl
        have HSS := hide hs'
        have hs3 : s + n3 ≤ 100 := by omega
        clear hs'
        go_wp2
        go_round
        case rel => exact ⟨3, s + n3, by omega, by go_num, by go_num, ⟨fun h => by omega, fun h => by omega, fun h => by omega, fun _ => by rw [HSS.out]⟩, by omega⟩
        case measure => simp [intOf]
    · obtain rfl : k = 3 := by omega
      have hs' : s = n1 + n2 + n3 := hs.out.2.2.2 rfl
      have HSS := hide hs'
      have hs0 : 0 < s := by omega
      clear hs' hlt hs q0 q1 q2
      go_wp2_with fail
      refine (grow_calls s _ hs0 hs2).mono ?_
      rintro e w1 ⟨A4, c4, rfl, o4, g4, b4⟩
      go_wp2
      go_loopw [6, 27] (fun sv iv wr => ∃ (k m cc : Nat) (AA : Option Addr) (ps : List Addr), k ≤ 3 ∧ iv = .int .i64 (k : Int) ∧ sv = .slice AA m cc ∧ OwnR wr 92 1 AA m cc (ptrRows ps) ∧ (∀ q, blkOf AA = some q → w.heap.size ≤ q) ∧ Below w.heap.size w wr ∧ Hid ((k = 0 → ps = []) ∧ (k = 1 → ps = p1) ∧ (k = 2 → ps = p1 ++ p2) ∧ (k = 3 → ps = p1 ++ p2 ++ p3))) (fun _ iv _ => 3 - (intOf iv).toNat)
      case atStart => exact ⟨0, 0, c4, A4, [], by omega, rfl, rfl, o4, g4, b4, ⟨fun _ => rfl, fun h => by omega, fun h => by omega, fun h => by omega⟩⟩
      case round =>
        obtain ⟨k, m, cc, AA, ps, hk, rfl, rfl, own, gA, bel, hps⟩ := hrel
        have hg2 := hg.below bel hg.lt
        have q0 : wr.cell? ⟨g, 0, none⟩ = some (.slice A1 n1 c1) := hg2.cell 0
        have q1 : wr.cell? ⟨g, 1, none⟩ = some (.slice A2 n2 c2) := hg2.cell 1
        have q2 : wr.cell? ⟨g, 2, none⟩ = some (.slice A3 n3 c3) := hg2.cell 2
        have hml : m = ps.length := by have := own.1; rw [ptrRows, List.length_map] at this; exact this
        have HML := hide hml
        clear hml
        by_cases hlt : k < 3
        · have hk3 : k = 0 ∨ k = 1 ∨ k = 2 := by omega
          rcases hk3 with rfl | rfl | rfl
          · obtain rfl : ps = [] := hps.out.1 rfl
            have hm1 : m = 0 := HML.out
            subst hm1
            go_wp2_with (at_builtin; refine wpList_appendR (by rfl) (.tmp 31) (.tmp 32) 137 92 1 8 (by rfl) ptrsT _ _ _ _ (by rfl) own _ _ _ _ (ptrRows p1) (by rfl) (r1.below bel) (by rw [ptrRows, List.length_map]; exact H1.out) (ptrRows_len _) (ptrRows_one _) (by omega) (by unfold maxLen; omega) ?_; intro A5 c5 w5 own5 grow5 at5)
            have F5 := ptr_nxt bel gA grow5 at5
            rw [← ptrRows_app, List.nil_append, Nat.zero_add] at own5
            go_roundw
            case rel => exact ⟨1, _, c5, A5, p1, by omega, by go_num, rfl, own5, F5.2, F5.1, ⟨fun h => by omega, fun _ => rfl, fun h => by omega, fun h => by omega⟩⟩
            case measure => simp [intOf]
          · obtain rfl : ps = p1 := hps.out.2.1 rfl
            have hmb : m + n2 ≤ 100 := by have := HML.out; have := H1.out; omega
            go_wp2_with (at_builtin; refine wpList_appendR (by rfl) (.tmp 31) (.tmp 32) 137 92 1 8 (by rfl) ptrsT _ _ _ _ (by rfl) own _ _ _ _ (ptrRows p2) (by rfl) (r2.below bel) (by rw [ptrRows, List.length_map]; exact H2.out) (ptrRows_len _) (ptrRows_one _) (by omega) (by unfold maxLen; omega) ?_; intro A5 c5 w5 own5 grow5 at5)
            have F5 := ptr_nxt bel gA grow5 at5
            rw [← ptrRows_app] at own5
            go_roundw
            case rel => exact ⟨2, _, c5, A5, ps ++ p2, by omega, by go_num, rfl, own5, F5.2, F5.1, ⟨fun h => by omega, fun h => by omega, fun _ => rfl, fun h => by omega⟩⟩
            case measure => simp [intOf]
          · have hps' : ps = p1 ++ p2 := hps.out.2.2.1 rfl
            subst hps'
            have hmb : m + n3 ≤ 100 := by have := HML.out; rw [List.length_append] at this; have := H1.out; have := H2.out; omega
            go_wp2_with (at_builtin; refine wpList_appendR (by rfl) (.tmp 31) (.tmp 32) 137 92 1 8 (by rfl) ptrsT _ _ _ _ (by rfl) own _ _ _ _ (ptrRows p3) (by rfl) (r3.below bel) (by rw [ptrRows, List.length_map]; exact H3.out) (ptrRows_len _) (ptrRows_one _) (by omega) (by unfold maxLen; omega) ?_; intro A5 c5 w5 own5 grow5 at5)
            have F5 := ptr_nxt bel gA grow5 at5
            rw [← ptrRows_app] at own5
            go_roundw
            case rel => exact ⟨3, _, c5, A5, p1 ++ p2 ++ p3, by omega, by go_num, rfl, own5, F5.2, F5.1, ⟨fun h => by omega, fun h => by omega, fun h => by omega, fun _ => rfl⟩⟩
            case measure => simp [intOf]
        · obtain rfl : k = 3 := by omega
          obtain rfl : ps = p1 ++ p2 ++ p3 := hps.out.2.2.2 rfl
          have hmm : m = n1 + n2 + n3 := by have := HML.out; rw [List.length_append, List.length_append] at this; have := H1.out; have := H2.out; have := H3.out; omega
          subst hmm
          clear hlt q0 q1 q2
          go_wp2
          go_ret
          exact ⟨AA, cc, rfl, by rw [← List.append_assoc]; exact own, gA, bel⟩
end Go.Proofs.YtbfhpgpceakeiaaGreatDoor.C20
