/- The statement GolombBack, walked: it returns true and changes nothing that was there. Conditions: the slice reads as numbers. -/
import Derived.Test.YtdelaobffbaocaaLaw02Alive
import Derived.Test.YtdelaobffbaocaaPlay
import Derived.Test.YtdelaobffbaocaaOwnR
import Derived.Test.YtdelaobffbaocaaVals
namespace Go.Proofs.Ytdelaobffbaocaa
open Go.RowKit Kin

theorem numsT : IsRows Try.prog 60 27 1 8 := isRows_of (z := .int .u64 0) Try.underlying60 (by decide) (by kernel_rfl) rfl
/-- the codes of numbers, one behind the other -/
def codes (vs : List Nat) : List Bool := vs.flatMap Gol.codeB
theorem codes_snoc (vs : List Nat) (v : Nat) : codes (vs ++ [v]) = codes vs ++ Gol.codeB v := by simp [codes]
theorem codes_take (vs : List Nat) (j : Nat) (v : Nat) (h : vs[j]? = some v) : codes (vs.take (j + 1)) = codes (vs.take j) ++ Gol.codeB v := by
  rw [List.take_add_one, h, Option.toList_some, codes_snoc]
theorem codes_split (vs : List Nat) (j : Nat) (v : Nat) (h : vs[j]? = some v) : ∃ D, codes vs = codes (vs.take j) ++ (Gol.codeB v ++ D) := by
  refine ⟨codes (vs.drop (j + 1)), ?_⟩
  rw [← List.append_assoc, ← codes_take vs j v h]
  unfold codes
  rw [← List.flatMap_append, List.take_append_drop]
theorem row_pack_pre (C : List Bool) : ∃ E, Bit.row (Bit.pack C) = C ++ E := by
  have h : C <+: Bit.row (Bit.pack C) := by
    rw [List.prefix_iff_eq_take]
    apply List.ext_getElem?
    intro i
    by_cases hi : i < C.length
    · rw [List.getElem?_take_of_lt hi, Bit.row_at _ (by rw [Bit.length_pack]; omega), Bit.rbit_pack, List.getD, List.getElem?_eq_getElem hi]; rfl
    · rw [List.getElem?_eq_none (by omega), List.getElem?_eq_none (by rw [List.length_take]; omega)]
  obtain ⟨E, e⟩ := h
  exact ⟨E, e.symm⟩
theorem bits_code (vs : List Nat) (j v : Nat) (h : vs[j]? = some v) : ∃ D, bitsOf (Bit.pack (codes vs)) (codes (vs.take j)).length = Gol.codeB v ++ D := by
  obtain ⟨E, e⟩ := row_pack_pre (codes vs)
  obtain ⟨D, d⟩ := codes_split vs j v h
  refine ⟨D ++ E, ?_⟩
  show (Bit.row (Bit.pack (codes vs))).drop _ = _
  rw [e, d, List.append_assoc, List.drop_left, List.append_assoc]
theorem gl_mono {a b : Nat} (h : a ≤ b) (hb : b ≤ 4294967294) : Gol.gl a ≤ Gol.gl b := by
  rw [Gol.gl_of (by omega), Gol.gl_of hb]
  have := Gol.bl_mono (x := a + 1) (y := b + 1) (by omega) (by omega)
  omega

def rowsOf (vs : List Nat) : List (List Value) := vs.map fun v : Nat => [.int .u64 (v : Int)]
theorem rowsOf_snoc (vs : List Nat) (v : Nat) : rowsOf vs ++ [[.int .u64 (v : Int)]] = rowsOf (vs ++ [v]) := by simp [rowsOf]
/-- behind i numbers: those that were put, and the writer of their codes -/
def GBack (w wr : World) (gw i : Nat) (A1 : Option Addr) (n1 c1 : Nat) (vs : List Nat) : Prop :=
  ∃ Rw, OwnR wr 27 1 A1 n1 c1 (rowsOf vs) ∧ (∀ v ∈ vs, v ≤ 4294967294) ∧ n1 ≤ i ∧ WriterIs wr gw Rw (codes vs) ∧ (codes vs).length ≤ 64 * i ∧ (∀ g, blkOf A1 = some g → w.heap.size ≤ g) ∧
    (∀ r, Rw = some r → w.heap.size ≤ r) ∧ w.heap.size ≤ gw ∧ Below w.heap.size w wr
theorem ownN_far {wr : World} {gw : Nat} {Rw : Option Nat} {B : List Bool} {A1 : Option Addr} {n1 c1 : Nat} {rows : List (List Value)} (h : OwnR wr 27 1 A1 n1 c1 rows) (hw : WriterIs wr gw Rw B) : ∀ g, blkOf A1 = some g → ¬ Foot gw Rw g := by
  obtain ⟨A, n, c, h1, h2, h3⟩ := hw
  rintro g hg (rfl | e)
  · exact h.ne_blk h1 (by decide) hg
  · rw [← h3] at e
    exact h.ne_own h2 (by decide) g hg e
theorem GBack.more {w w3 w4 : World} {gw i : Nat} {A1 A4 : Option Addr} {n1 c1 c4 v : Nat} {vs : List Nat} {R3 : Option Nat} (hown : OwnR w3 27 1 A1 n1 c1 (rowsOf vs))
    (hR : ∀ v ∈ vs, v ≤ 4294967294) (hn : n1 ≤ i) (hw3 : WriterIs w3 gw R3 (codes (vs ++ [v]))) (hl : (codes (vs ++ [v])).length ≤ 64 * (i + 1)) (hA : ∀ g, blkOf A1 = some g → w.heap.size ≤ g) (hg3 : ∀ r, R3 = some r → w.heap.size ≤ r) (hgw : w.heap.size ≤ gw) (bel : Below w.heap.size w w3)
    (hd : v ≤ 4294967294) (own4 : OwnR w4 27 1 A4 (n1 + 1) c4 (rowsOf vs ++ [[.int .u64 (v : Int)]])) (grow4 : w3.grownBy w4 (blkOf A1)) (at4 : blkOf A4 = blkOf A1 ∨ blkOf A4 = some w3.heap.size) :
    GBack w w4 gw (i + 1) A4 (n1 + 1) c4 (vs ++ [v]) := by
  rw [rowsOf_snoc] at own4
  refine ⟨R3, own4, ?_, by omega, ?_, hl, ?_, hg3, hgw, bel.grown grow4 bel.size hA⟩
  · intro r hr
    rcases List.mem_append.1 hr with h | h
    · exact hR r h
    · rw [List.mem_singleton.1 h]; exact hd
  · have hc : Chg (fun k => blkOf A1 = some k) w3 w4 := (Chg.refl _ _).grown grow4 (fun g hg => .inl hg)
    exact hw3.keep hc (fun k hk e => ownN_far hown hw3 k e hk)
  · intro g hg
    rcases at4 with e | e
    · exact hA g (by rw [← e]; exact hg)
    · rw [hg] at e; injection e with e; have := bel.size; omega

theorem GBack.below {w wr wr' : World} {gw i : Nat} {A1 : Option Addr} {n1 c1 : Nat} {vs : List Nat} (h : GBack w wr gw i A1 n1 c1 vs) (hb : Below wr.heap.size wr wr') : GBack w wr' gw i A1 n1 c1 vs := by
  obtain ⟨Rw, h1, h2, h3, h4, h5, h6, h7, h8, h9⟩ := h
  exact ⟨Rw, h1.next hb, h2, h3, h4.below hb, h5, h6, h7, h8, h9.trans (hb.mono h9.size)⟩
theorem rowsOf_at {vs : List Nat} {j : Nat} {r : List Value} (h : (rowsOf vs)[j]? = some r) : ∃ v : Nat, vs[j]? = some v ∧ r = [.int .u64 (v : Int)] := by
  unfold rowsOf at h
  rw [List.getElem?_map] at h
  rcases hv : vs[j]? with _ | v
  · rw [hv] at h; cases h
  · rw [hv] at h; injection h with h; exact ⟨v, rfl, h.symm⟩
theorem ownN_at {wr : World} {A1 : Option Addr} {n1 c1 : Nat} {vs : List Nat} (h : OwnR wr 27 1 A1 n1 c1 (rowsOf vs)) {j : Nat} (hj : j < n1) : ∃ g v, A1 = some ⟨g, 0, none⟩ ∧ vs[j]? = some v ∧ wr.cell? ⟨g, j, none⟩ = some (.int .u64 (v : Int)) := by
  obtain ⟨g, r, hA, hr, _, hc⟩ := h.at_ hj
  obtain ⟨v, hv, rfl⟩ := rowsOf_at hr
  exact ⟨g, v, hA, hv, by simpa using hc 0 _ rfl⟩

set_option maxRecDepth 100000 in
set_option maxHeartbeats 8000000 in
theorem golombBack_walk (A : Option Addr) (n c : Nat) (xs : List Value) (x : Int) (w : World) (hn : n = xs.length) (hm : n ≤ maxLen) (hA : Vals w w.heap.size A xs) (hR : ∀ v ∈ xs, U64 v) (wx : (Lit.int .i64 x).wf = true) :
    Calls Try.prog 14 #[.slice A n c, .int .i64 x] w fun e w' => e = .returned (.bool true) ∧ Below w.heap.size w w' := by
  have ⟨x1, x2⟩ := bounds_i64 wx
  have HN := hide hn
  have HR := hide hR
  clear hn hR wx
  unfold maxLen at hm
  go_enter Try.func14, Try.ntmps14
  go_wp2_with fail
  refine (new_calls _).mono ?_
  rintro e w1 ⟨rfl, hw1, b1⟩
  have T0 : GBack w w1 w.heap.size 0 none 0 0 [] := ⟨none, OwnR.nil _ _ _, by simp, Nat.le_refl _, hw1, by simp [codes], by simp [blkOf], by simp, Nat.le_refl _, b1⟩
  obtain ⟨gw, hgw⟩ : ∃ g, g = w.heap.size := ⟨_, rfl⟩
  have T0 : GBack w w1 gw 0 none 0 0 [] := by rw [hgw]; exact T0
  rw [← hgw]
  clear hgw hw1 b1
  go_wp2
  go_loopw [6, 7] (fun dv iv wr => ∃ (i : Nat) (A1 : Option Addr) (n1 c1 : Nat) (vs : List Nat), i ≤ n ∧ i ≤ 100 ∧ iv = .int .i64 (i : Int) ∧ dv = .slice A1 n1 c1 ∧ GBack w wr gw i A1 n1 c1 vs) (fun _ iv _ => n - (intOf iv).toNat)
  case atStart => exact ⟨0, none, 0, 0, [], by omega, by omega, rfl, rfl, T0⟩
  case round =>
    obtain ⟨i, A1, n1, c1, vs, hi, hi2, rfl, rfl, T⟩ := hrel
    clear T0
    by_cases hlt : i < n ∧ i < 100
    · obtain ⟨hlt, hlt2⟩ := hlt
      have hix : i < xs.length := by rw [← HN.out]; exact hlt
      obtain ⟨Rw, own, hD, hn1, hw, hB, gA1, gRw, ggw, bel⟩ := T
      have HD := hide hD
      obtain ⟨b, off, rfl, hb, hcell⟩ := hA.at_ hix
      obtain ⟨v, hv, hv1⟩ := HR.out xs[i] (List.getElem_mem hix)
      rw [hv] at hcell
      have HC : Hid (∀ w', Below w.heap.size w w' → w'.cell? ⟨b, off + i, none⟩ = some (.int .u64 (v : Int))) := fun w' h => (h.cell (p := ⟨b, off + i, none⟩) hb).trans hcell
      have d200 : decide ((i : Int) < 100) = true := by simp; omega
      have k0 := HC.out _ bel
      clear hv hcell hD
      go_wp2_with fail
      refine (len_calls gw Rw _ _ hw).mono ?_
      rintro e v1 ⟨rfl, rfl⟩
      go_wp2_with fail
      refine (gput_any gw Rw _ v _ hw (by omega) hv1).mono ?_
      rintro e t3 ⟨rfl, R3, hw3, ch3, r3⟩
      have own3 := ch3.ownR own (ownN_far own hw)
      have bel3 := bel.trans (ch3.below (Foot.ge ggw gRw) bel.size)
      have gR3 := r3.ge gRw bel.size
      have k3 := HC.out _ bel3
      clear hw own bel ch3 r3 gRw k0
      by_cases hvm : v ≤ 4294967294
      · rw [gputB_ok hvm] at hw3
        rw [gputE_ok hvm]
        have hlc := Gol.length_codeB hvm
        have hgl := Gol.gl_le v
        have hl3 : (codes vs ++ Gol.codeB v).length = (codes vs).length + Gol.gl v := by rw [List.length_append, hlc]
        rw [← codes_snoc] at hw3 hl3
        have HGL := hide (glen_calls v)
        have HL3 := hide hl3
        have hl4 : (codes (vs ++ [v])).length ≤ 64 * (i + 1) := by omega
        clear hlc hl3
        go_wp2_with (at_builtin; refine wpList_appendR (by rfl) (.tmp 35) (.tmp 40) 60 27 1 8 (by rfl) numsT _ _ _ _ (by rfl) (own3.alloc _) _ _ _ _ [[.int .u64 (v : Int)]] (by rfl) (Recs.new _ _ _ _ _ _ rfl rfl) (by rfl) (by simp) (by simp [Value.oneCell']) (by omega) (by unfold maxLen; omega) ?_; intro A4 c4 w4 own4 grow4 at4)
        have T4 := GBack.more (own3.alloc _) HD.out hn1 (hw3.below ((Below.refl _ _).alloc (Nat.le_refl _) _)) hl4 gA1 gR3 ggw (bel3.alloc bel3.size _) hvm own4 grow4 at4
        have T4' := T4
        obtain ⟨R4, o4, _, _, hw4, _, _, _, _, bel4⟩ := T4'
        have k4 := HC.out _ bel4
        have i0 : (0 : Int) ≤ (i : Int) := by omega
        have i1 : (i : Int) < (n : Int) := by omega
        have e1 : IntKind.i64.wrap (((codes (vs ++ [v])).length : Int) - ((codes vs).length : Int)) = (Gol.gl v : Int) := by rw [IntKind.wrap_i64]; have := HL3.out; omega
        have e2 : (((Gol.gl v : Nat) : Int) != ((Gol.gl v : Nat) : Int)) = false := by simp
        clear hw3 own3 bel3 gR3 own4 grow4 at4 k3 o4
        go_quiet ((first | (go_at_call 21; exact quiet_left (len_calls gw R4 _ _ (hw4.below (dN _ _)))) | (go_at_call 38; exact quiet_left (HGL.out _ hv1))))
        have T5 := T4.below (dN _ nq)
        clear T4 hw4 bel4 k4 e1 e2
        go_wp2
        go_roundw
        case rel => exact ⟨i + 1, A4, n1 + 1, c4, _, by omega, by omega, by go_num, rfl, T5⟩
        case measure => simp [intOf]; omega
      · rw [gputB_no (by omega)] at hw3
        rw [gputE_no (by omega)]
        have T4 : GBack w t3 gw (i + 1) A1 n1 c1 vs := ⟨R3, own3, HD.out, by omega, hw3, by omega, gA1, gR3, ggw, bel3⟩
        have e2 : (((codes vs).length : Int) != ((codes vs).length : Int)) = false := by simp
        go_wp2_with fail
        refine (len_calls gw R3 _ _ hw3).mono ?_
        rintro e v1 ⟨rfl, rfl⟩
        go_wp2
        go_roundw
        case rel => exact ⟨i + 1, A1, n1, c1, vs, by omega, by omega, by go_num, rfl, T4⟩
        case measure => simp [intOf]; omega
    · obtain ⟨Rw, own, hD, hn1, hw, hB, gA1, gRw, ggw, bel⟩ := T
      have HD := hide hD
      have hcase : n ≤ i ∨ (i < n ∧ (100 : Int) ≤ (i : Int)) := by omega
      have hBB : (codes vs).length ≤ 6400 := by omega
      have hn200 : n1 ≤ 100 := by omega
      clear hlt hD hB hn1
      rcases hcase with hge | ⟨hlt, hge⟩
      all_goals
        go_wp2_with fail
        refine (wbytes_calls gw Rw _ _ hw (by omega)).mono ?_
        rintro e w5 ⟨A5, n5, c5, rfl, o5, gg5, b5⟩
        have hw5 := hw.below b5
        have own5 := own.next b5
        have bel5 := bel.trans (b5.mono bel.size)
        have hl5 : (Bit.pack (codes vs)).length ≤ 1600 := by rw [Bit.length_pack]; omega
        go_wp2_with fail
        refine (open_calls _ _ _ (Bit.pack (codes vs)) _ o5.1 (by have := o5.1; omega) o5.byt).mono ?_
        rintro e w6 ⟨rfl, hr6, b6⟩
        have hw6 := hw5.below b6
        have own6 := own5.next b6
        have bel6 := bel5.trans (b6.mono bel5.size)
        obtain ⟨gr, hgr⟩ : ∃ g, g = w5.heap.size + 1 := ⟨_, rfl⟩
        obtain ⟨rr, hrr⟩ : ∃ g, g = w5.heap.size := ⟨_, rfl⟩
        have HFW : Hid (∀ k, Foot gw Rw k → ¬ One gr k) := by
          intro k hk h
          have h : k = gr := h
          rcases hk with e | e
          · have := hw5.lt; omega
          · have := hw5.rlt k e; omega
        have HFA : Hid (∀ k, blkOf A1 = some k → ¬ One gr k) := by
          intro k hk h
          have h : k = gr := h
          have := own5.lt k hk
          omega
        have ggr : w.heap.size ≤ gr := by have := bel5.size; omega
        rw [← hgr, ← hrr] at hr6
        rw [← hgr]
        clear hgr hrr o5 gg5 b5 b6 hw own bel hw5 own5 bel5
        go_wp2
        go_loopw [10] (fun jv wr' => ∃ j : Nat, j ≤ n1 ∧ jv = .int .i64 (j : Int) ∧ ReaderIs wr' gr rr (Bit.pack (codes vs)) (codes (vs.take j)).length ∧ OwnR wr' 27 1 A1 n1 c1 (rowsOf vs) ∧ WriterIs wr' gw Rw (codes vs) ∧ Below w.heap.size w wr') (fun jv _ => n1 - (intOf jv).toNat)
        case atStart => exact ⟨0, by omega, rfl, hr6, own6, hw6, bel6⟩
        case round =>
          obtain ⟨j, hj, rfl, hr, own, hw, bel⟩ := hrel
          obtain ⟨wo, rfl⟩ : ∃ wo, wo = wr := ⟨_, rfl⟩
          clear hr6 own6 hw6 bel6
          by_cases hlt2 : j < n1
          · obtain ⟨v, hv⟩ : ∃ v, vs[j]? = some v := by
              obtain ⟨g0, v, h1, hv, h2⟩ := ownN_at own hlt2
              exact ⟨v, hv⟩
            have hvm := HD.out v (List.mem_of_getElem? hv)
            obtain ⟨D, hbc⟩ := bits_code vs j v hv
            have HGE := hide (Gol.gE_code hvm D)
            have HGV := hide (Gol.gV_code hvm D)
            have HGK := hide (Gol.gK_code hvm D)
            rw [← hbc] at HGE HGV HGK
            have HL2 : Hid ((codes (vs.take (j + 1))).length = (codes (vs.take j)).length + Gol.gl v) := by rw [codes_take vs j v hv, List.length_append, Gol.length_codeB hvm]; exact rfl
            have HV := hide hv
            clear hbc hv
            go_wp2_with fail
            refine (gget_any gr rr _ _ _ hr).mono ?_
            rintro e t7 ⟨rfl, hr7, ch7⟩
            rw [HGE.out, HGV.out]
            rw [HGK.out, ← HL2.out] at hr7
            have own7 := ch7.ownR own HFA.out
            have hw7 := hw.keep ch7 HFW.out
            have bel7 := bel.trans (ch7.below (fun k h => by have h : k = gr := h; omega) bel.size)
            clear hr own hw bel ch7 HGE HGV HGK HL2
            obtain ⟨g, v', hA1, hv', c7⟩ := ownN_at own7 hlt2
            rw [HV.out] at hv'
            injection hv' with hv'
            subst hv'
            have i0 : (0 : Int) ≤ (j : Int) := by omega
            have i1 : (j : Int) < (n1 : Int) := by omega
            have q1 : ((v : Int) != (v : Int)) = false := by simp
            by_cases hj0 : j = 0
            case' pos =>
              have qj : decide ((0 : Int) < 0) = false := by decide
              subst hj0 hA1
              rw [show (((0 : Nat)) : Int) = 0 from rfl]
              go_wp2
              go_quiet (fail)
            case' neg =>
              have qj : decide ((0 : Int) < (j : Int)) = true := by simp; omega
              have hjp : 0 < j := by omega
              have qj2 : decide (0 < j) = true := by simpa using hjp
              obtain ⟨g', u, hA1', hu, c8⟩ := ownN_at own7 (j := j - 1) (by omega)
              rw [hA1] at hA1'
              injection hA1' with hA1'
              injection hA1' with hA1'
              subst hA1' hA1
              have hum := HD.out u (List.mem_of_getElem? hu)
              have e1 : IntKind.i64.wrap ((j : Int) - 1) = (j : Int) - 1 := by rw [IntKind.wrap_i64]; omega
              have j0 : (0 : Int) ≤ (j : Int) - 1 := by omega
              have j00 : (1 : Int) ≤ (j : Int) := by omega
              have j1 : (j : Int) - 1 < (n1 : Int) := by omega
              have j2 : ((j : Int) - 1).toNat = j - 1 := by omega
              clear hu hj0
              have hcase : (u ≤ v) ∨ v < u := by omega
              rcases hcase with h | h
              case' inl =>
                have q2 : decide (u ≤ v) = true := by simp; exact h
                have q3 : decide ((u : Int) ≤ (v : Int)) = true := by simp; exact h
                have hmono := gl_mono h hvm
                have q4 : decide ((Gol.gl v : Int) < (Gol.gl u : Int)) = false := by simp; omega
                have q5 : decide (Gol.gl v < Gol.gl u) = false := by simp; omega
                go_wp2
                go_quiet ((go_at_call 38; exact quiet_left (glen_calls _ _ (by omega))))
              case' inr =>
                have q2 : decide (u ≤ v) = false := by simp; omega
                have q3 : decide ((u : Int) ≤ (v : Int)) = false := by simp; omega
                go_wp2
                go_quiet (fail)
            all_goals
              have hr9 := hr7.below (dN _ nq)
              have own9 := own7.next (dN _ nq)
              have hw9 := hw7.below (dN _ nq)
              have bel9 := bel7.trans ((dN _ nq).mono bel7.size)
              go_wp2
              go_roundw
              case rel => first | exact ⟨j + 1, by omega, by go_num, hr9, own9, hw9, bel9⟩ | exact ⟨0 + 1, by omega, by simp, hr9, own9, hw9, bel9⟩
              case measure => simp [intOf]; omega
          · obtain rfl : j = n1 := by omega
            have hlen : vs.length = j := by rw [own.1]; simp [rowsOf]
            have ht : vs.take j = vs := List.take_of_length_le (by omega)
            rw [ht] at hr
            clear ht hlt2 own hlen
            have q1 : (((codes vs).length : Int) == ((codes vs).length : Int)) = true := by simp
            generalize codes vs = C at *
            have hfr := Gol.foldV_range x
            have HFO := hide (fold_calls x)
            have HUF : Hid (Gol.foldOk x = true → Gol.unf (Gol.foldV x) = x) := fun h => Gol.unf_fold h
            generalize Gol.foldV x = FV at *
            obtain ⟨FV, rfl⟩ : ∃ k : Nat, FV = k := ⟨FV.toNat, by omega⟩
            cases hok : Gol.foldOk x
            · rw [hok] at HFO
              clear hok HUF
              go_wp2_with fail
              refine (HFO.out _ (by omega) (by omega)).mono ?_
              rintro e t8 ⟨rfl, rfl⟩
              go_wp2_with fail
              refine (alive2_calls _).mono ?_
              rintro e t9 ⟨rfl, b9⟩
              have hr9 := hr.below b9
              have hw9 := hw.below b9
              have bel9 := bel.trans (b9.mono bel.size)
              clear hr hw bel b9
              go_wp2_with fail
              refine (at_calls gr rr _ _ _ hr9).mono ?_
              rintro e v1 ⟨rfl, rfl⟩
              go_wp2_with fail
              refine (len_calls gw Rw _ _ hw9).mono ?_
              rintro e v1 ⟨rfl, rfl⟩
              go_wp2
              go_ret
              exact ⟨rfl, bel9⟩
            · rw [hok] at HFO
              have HUF2 : Hid (Gol.unf FV = x) := HUF.out hok
              have q2 : (x == x) = true := by simp
              have q3 : decide ((FV : Int) ≤ 4294967294) = true := by simp; omega
              clear hok HUF
              go_wp2_with fail
              refine (HFO.out _ (by omega) (by omega)).mono ?_
              rintro e t8 ⟨rfl, rfl⟩
              go_wp2_with fail
              refine (alive2_calls _).mono ?_
              rintro e t9 ⟨rfl, b9⟩
              have hr9 := hr.below b9
              have hw9 := hw.below b9
              have bel9 := bel.trans (b9.mono bel.size)
              clear hr hw bel b9
              go_wp2_with fail
              refine (at_calls gr rr _ _ _ hr9).mono ?_
              rintro e v1 ⟨rfl, rfl⟩
              go_wp2_with fail
              refine (len_calls gw Rw _ _ hw9).mono ?_
              rintro e v1 ⟨rfl, rfl⟩
              go_wp2_with fail
              refine (unfold_calls FV _ (by omega)).mono ?_
              rintro e v1 ⟨rfl, rfl⟩
              rw [HUF2.out]
              go_wp2
              go_ret
              exact ⟨rfl, bel9⟩
end Go.Proofs.Ytdelaobffbaocaa
