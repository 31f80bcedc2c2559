/- The statement BitsBack, walked: it returns true and changes nothing that was there. Conditions: the slice reads as acts. -/
import Derived.Test.YtdelaobffbaocaaLaw01Alive
import Derived.Test.YtdelaobffbaocaaPlay
import Derived.Test.YtdelaobffbaocaaOwnR
import Derived.Test.YtdelaobffbaocaaBitsAny
import Derived.Test.YtdelaobffbaocaaActs
namespace Go.Proofs.Ytdelaobffbaocaa
open Go.RowKit Kin

theorem actsT : IsRows Try.prog 38 43 3 24 := isRows_of (z := .agg #[.int .i64 0, .int .i64 0, .int .u64 0]) Try.underlying38 (by decide) (by kernel_rfl) rfl

/-- behind i acts: those that were done, and the writer of their bits -/
def Back1 (w wr : World) (gw i : Nat) (A1 : Option Addr) (n1 c1 : Nat) (rows : List (List Value)) : Prop :=
  ∃ Rw, OwnR wr 43 3 A1 n1 c1 rows ∧ (∀ r ∈ rows, DoneRow r) ∧ n1 ≤ i ∧ WriterIs wr gw Rw (play rows) ∧ (play rows).length ≤ 64 * i ∧ (∀ g, blkOf A1 = some g → w.heap.size ≤ g) ∧
    (∀ r, Rw = some r → w.heap.size ≤ r) ∧ w.heap.size ≤ gw ∧ Below w.heap.size w wr

theorem ownR_far {wr : World} {gw : Nat} {Rw : Option Nat} {B : List Bool} {A1 : Option Addr} {n1 c1 : Nat} {rows : List (List Value)} (h : OwnR wr 43 3 A1 n1 c1 rows) (hw : WriterIs wr gw Rw B) : ∀ g, blkOf A1 = some g → ¬ Foot gw Rw g := by
  obtain ⟨A, n, c, h1, h2, h3⟩ := hw
  rintro g hg (rfl | e)
  · exact h.ne_blk h1 (by decide) hg
  · rw [← h3] at e
    exact h.ne_own h2 (by decide) g hg e

/-- an act more that was done -/
theorem Back1.more {w w3 w4 : World} {gw i : Nat} {A1 A4 : Option Addr} {n1 c1 c4 : Nat} {rows : List (List Value)} {row : List Value} {R3 : Option Nat} (hown : OwnR w3 43 3 A1 n1 c1 rows)
    (hR : ∀ r ∈ rows, DoneRow r) (hn : n1 ≤ i) (hw3 : WriterIs w3 gw R3 (play (rows ++ [row]))) (hl : (play (rows ++ [row])).length ≤ 64 * (i + 1)) (hA : ∀ g, blkOf A1 = some g → w.heap.size ≤ g) (hg3 : ∀ r, R3 = some r → w.heap.size ≤ r) (hgw : w.heap.size ≤ gw) (bel : Below w.heap.size w w3)
    (hd : DoneRow row) (own4 : OwnR w4 43 3 A4 (n1 + 1) c4 (rows ++ [row])) (grow4 : w3.grownBy w4 (blkOf A1)) (at4 : blkOf A4 = blkOf A1 ∨ blkOf A4 = some w3.heap.size) :
    Back1 w w4 gw (i + 1) A4 (n1 + 1) c4 (rows ++ [row]) := by
  refine ⟨R3, own4, ?_, by omega, ?_, hl, ?_, hg3, hgw, bel.grown grow4 bel.size hA⟩
  · intro r hr
    rcases List.mem_append.1 hr with h | h
    · exact hR r h
    · rw [List.mem_singleton.1 h]; exact hd
  · have hc : Chg (fun k => blkOf A1 = some k) w3 w4 := (Chg.refl _ _).grown grow4 (fun g hg => .inl hg)
    exact hw3.keep hc (fun k hk e => ownR_far hown hw3 k e hk)
  · intro g hg
    rcases at4 with e | e
    · exact hA g (by rw [← e]; exact hg)
    · rw [hg] at e; injection e with e; have := bel.size; omega

set_option maxRecDepth 100000 in
set_option maxHeartbeats 4000000 in
theorem bitsBack_walk (A : Option Addr) (n c : Nat) (xs : List (List Value)) (w : World) (hn : n = xs.length) (hm : n ≤ maxLen) (hA : Recs w w.heap.size 3 A xs) (hR : ∀ row ∈ xs, ActRow row) :
    Calls Try.prog 7 #[.slice A n c] w fun e w' => e = .returned (.bool true) ∧ Below w.heap.size w w' := by
  have HN := hide hn
  have HR := hide hR
  clear hn hR
  unfold maxLen at hm
  go_enter Try.func7, Try.ntmps7
  go_wp2_with fail
  refine (new_calls _).mono ?_
  rintro e w1 ⟨rfl, hw1, b1⟩
  have T0 : Back1 w w1 w.heap.size 0 none 0 0 [] := ⟨none, OwnR.nil _ _ _, by simp, Nat.le_refl _, hw1, by simp [play_nil], by simp [blkOf], by simp, Nat.le_refl _, b1⟩
  obtain ⟨gw, hgw⟩ : ∃ g, g = w.heap.size := ⟨_, rfl⟩
  have T0 : Back1 w w1 gw 0 none 0 0 [] := by rw [hgw]; exact T0
  rw [← hgw]
  clear hgw hw1 b1
  go_wp2
  go_loopw [4, 5] (fun dv iv wr => ∃ (i : Nat) (A1 : Option Addr) (n1 c1 : Nat) (rows : List (List Value)), i ≤ n ∧ i ≤ 200 ∧ iv = .int .i64 (i : Int) ∧ dv = .slice A1 n1 c1 ∧ Back1 w wr gw i A1 n1 c1 rows) (fun _ iv _ => n - (intOf iv).toNat)
  case atStart => exact ⟨0, none, 0, 0, [], by omega, by omega, rfl, rfl, T0⟩
  case round =>
    obtain ⟨i, A1, n1, c1, rows, hi, hi2, rfl, rfl, T⟩ := hrel
    clear T0
    by_cases hlt : i < n ∧ i < 200
    · obtain ⟨hlt, hlt2⟩ := hlt
      have hix : i < xs.length := by rw [← HN.out]; exact hlt
      obtain ⟨Rw, own, hD, hn1, hw, hB, gA1, gRw, ggw, bel⟩ := T
      have HD := hide hD
      obtain ⟨b, off, rfl, hb, hl3, hcell⟩ := (hA.below bel).at_ hix
      obtain ⟨kd, nn, v, hrow, hv0, hv1⟩ := HR.out xs[i] (List.getElem_mem hix)
      rw [hrow] at hcell
      have a0 : wr.cell? ⟨b, off + i * 3, none⟩ = some (.int .i64 kd) := hcell 0 _ rfl
      have a1 := hcell 1 _ rfl
      have a2 := hcell 2 _ rfl
      have d200 : decide ((i : Int) < 200) = true := by simp; omega
      clear hrow hl3 hcell hD
      have bA := Blk.new wr 43 #[.int .i64 kd, .int .i64 nn, .int .u64 v]
      have hb1 : Below wr.heap.size wr (wr.alloc (.cells #[.int .i64 kd, .int .i64 nn, .int .u64 v] 43)) := (Below.refl _ _).alloc (Nat.le_refl _) _
      have hw1 := hw.below hb1
      have own1 := own.next hb1
      have bel1 := bel.trans (hb1.mono bel.size)
      have nF : ¬ Foot gw Rw wr.heap.size := fun h => by
        rcases h with h | h
        · have := hw.lt; omega
        · have := hw.rlt _ h; omega
      have cK : (wr.alloc (.cells #[.int .i64 kd, .int .i64 nn, .int .u64 v] 43)).cell? ⟨wr.heap.size, 0, none⟩ = some (.int .i64 kd) := bA.cell 0
      have cN : (wr.alloc (.cells #[.int .i64 kd, .int .i64 nn, .int .u64 v] 43)).cell? ⟨wr.heap.size, 1, none⟩ = some (.int .i64 nn) := bA.cell 1
      have cV : (wr.alloc (.cells #[.int .i64 kd, .int .i64 nn, .int .u64 v] 43)).cell? ⟨wr.heap.size, 2, none⟩ = some (.int .u64 v) := bA.cell 2
      have NF := hide nF
      clear hw own bel hb1 nF
      have hcase : kd = 1 ∨ kd = 2 ∨ (¬ kd = 1 ∧ ¬ kd = 2) := by omega
      rcases hcase with rfl | rfl | ⟨hk1, hk2⟩
      · go_wp2_with fail
        generalize wr.alloc (.cells #[.int .i64 1, .int .i64 nn, .int .u64 v] 43) = W at *
        refine (put_any gw Rw _ v nn _ hw1 (by omega) hv0 hv1).mono ?_
        rintro e t3 ⟨rfl, R3, hw3, ch3, r3⟩
        have own3 := ch3.ownR own1 (ownR_far own1 hw1)
        have bA3 := ch3.blk bA NF.out
        have bel3 := bel1.trans (ch3.below (Foot.ge ggw gRw) bel1.size)
        have gR3 := r3.ge gRw bel1.size
        have cK3 : t3.cell? ⟨wr.heap.size, 0, none⟩ = some (.int .i64 1) := bA3.cell 0
        have cN3 : t3.cell? ⟨wr.heap.size, 1, none⟩ = some (.int .i64 nn) := bA3.cell 1
        have cV3 : t3.cell? ⟨wr.heap.size, 2, none⟩ = some (.int .u64 v) := bA3.cell 2
        clear hw1 own1 bel1 ch3 r3 bA bA3 cK cN cV a0 a1 a2 NF gRw
        cases hok : putOk v nn
        · have hE : (putE v nn == 0) = false := by unfold putE; rw [hok]; rfl
          have hPB : putB (play rows) v nn = play rows := by unfold putB; rw [hok]; rfl
          rw [hPB] at hw3
          clear hPB hok
          generalize putE v nn = E at *
          have T3 : Back1 w t3 gw (i + 1) A1 n1 c1 rows := ⟨R3, own3, HD.out, by omega, hw3, by omega, gA1, gR3, ggw, bel3⟩
          clear own3 hw3 bel3 gR3
          go_wp2
          go_roundw
          case rel => exact ⟨i + 1, A1, n1, c1, rows, by omega, by omega, by go_num, rfl, T3⟩
          case measure => simp [intOf]; omega
        · have hE : putE v nn = 0 := by unfold putE; rw [hok]; rfl
          have hb3 := of_decide_eq_true hok
          obtain ⟨nn, rfl⟩ : ∃ k : Nat, nn = k := ⟨nn.toNat, by omega⟩
          obtain ⟨v, rfl⟩ : ∃ k : Nat, v = k := ⟨v.toNat, by omega⟩
          have hPB : putB (play rows) v nn = play (rows ++ [[.int .i64 1, .int .i64 (nn : Int), .int .u64 (v : Int)]]) := by unfold putB; rw [hok, play_snoc, actB_put]; rfl
          have hl3 := length_putB (play rows) v nn
          rw [hPB] at hw3 hl3
          have hDR : DoneRow [.int .i64 1, .int .i64 (nn : Int), .int .u64 (v : Int)] := .inl ⟨nn, v, rfl, by omega, by
            have := hb3.2.2
            rw [Int.toNat_natCast] at this
            have hp : ((2 ^ nn : Nat) : Int) = 2 ^ nn := by simp
            omega⟩
          have HDR := hide hDR
          rw [hE]
          clear hPB hok hE hb3 hDR
          go_wp2_with (at_builtin; refine wpList_appendR (by rfl) (.tmp 50) (.tmp 52) 38 43 3 24 (by rfl) actsT _ _ _ _ (by rfl) (own3.alloc _) _ _ _ _ [[.int .i64 1, .int .i64 (nn : Int), .int .u64 (v : Int)]] (by rfl) (Recs.new _ _ _ _ _ _ rfl rfl) (by rfl) (by simp) (by simp [Value.oneCell']) (by omega) (by unfold maxLen; omega) ?_; intro A4 c4 w4 own4 grow4 at4)
          have T4 := Back1.more (own3.alloc _) HD.out hn1 (hw3.below ((Below.refl _ _).alloc (Nat.le_refl _) _)) (by omega) gA1 gR3 ggw (bel3.alloc bel3.size _) HDR.out own4 grow4 at4
          go_roundw
          case rel => exact ⟨i + 1, A4, n1 + 1, c4, _, by omega, by omega, by go_num, rfl, T4⟩
          case measure => simp [intOf]; omega
      · go_wp2_with fail
        generalize wr.alloc (.cells #[.int .i64 2, .int .i64 nn, .int .u64 v] 43) = W at *
        refine (walign_calls gw Rw _ _ hw1 (by omega)).mono ?_
        rintro e t3 ⟨rfl, hw3, ch3⟩
        have own3 := ch3.ownR own1 (ownR_far own1 hw1)
        have bA3 := ch3.blk bA NF.out
        have bel3 := bel1.trans (ch3.below (Foot.ge ggw gRw) bel1.size)
        have cK3 : t3.cell? ⟨wr.heap.size, 0, none⟩ = some (.int .i64 2) := bA3.cell 0
        have cN3 : t3.cell? ⟨wr.heap.size, 1, none⟩ = some (.int .i64 nn) := bA3.cell 1
        have cV3 : t3.cell? ⟨wr.heap.size, 2, none⟩ = some (.int .u64 v) := bA3.cell 2
        have hl3 := length_fill_le (play rows)
        rw [← actB_fill (play rows) nn v, ← play_snoc] at hw3 hl3
        clear hw1 own1 bel1 ch3 bA bA3 cK cN cV a0 a1 a2 NF
        have HDR : Hid (DoneRow [.int .i64 2, .int .i64 nn, .int .u64 v]) := .inr ⟨nn, v, rfl⟩
        go_wp2_with (at_builtin; refine wpList_appendR (by rfl) (.tmp 50) (.tmp 52) 38 43 3 24 (by rfl) actsT _ _ _ _ (by rfl) (own3.alloc _) _ _ _ _ [[.int .i64 2, .int .i64 nn, .int .u64 v]] (by rfl) (Recs.new _ _ _ _ _ _ rfl rfl) (by rfl) (by simp) (by simp [Value.oneCell']) (by omega) (by unfold maxLen; omega) ?_; intro A4 c4 w4 own4 grow4 at4)
        have T4 := Back1.more (own3.alloc _) HD.out hn1 (hw3.below ((Below.refl _ _).alloc (Nat.le_refl _) _)) (by omega) gA1 gRw ggw (bel3.alloc bel3.size _) HDR.out own4 grow4 at4
        go_roundw
        case rel => exact ⟨i + 1, A4, n1 + 1, c4, _, by omega, by omega, by go_num, rfl, T4⟩
        case measure => simp [intOf]; omega
      · have e1 : (kd == 1) = false := by simpa using hk1
        have e2 : (kd == 2) = false := by simpa using hk2
        have T3 : Back1 w (wr.alloc (.cells #[.int .i64 kd, .int .i64 nn, .int .u64 v] 43)) gw (i + 1) A1 n1 c1 rows := ⟨Rw, own1, HD.out, by omega, hw1, by omega, gA1, gRw, ggw, bel1⟩
        clear hk1 hk2 hw1 own1 bel1 gRw
        go_wp2
        go_roundw
        case rel => exact ⟨i + 1, A1, n1, c1, rows, by omega, by omega, by go_num, rfl, T3⟩
        case measure => simp [intOf]; omega
    · obtain ⟨Rw, own, hD, hn1, hw, hB, gA1, gRw, ggw, bel⟩ := T
      have HD := hide hD
      have hcase : n ≤ i ∨ (i < n ∧ (200 : Int) ≤ (i : Int)) := by omega
      have hBB : (play rows).length ≤ 12800 := by omega
      have hn200 : n1 ≤ 200 := by omega
      clear hlt hD hB hn1
      rcases hcase with hge | ⟨hlt, hge⟩
      all_goals
        go_wp2_with fail
        refine (wbytes_calls gw Rw _ _ hw (by omega)).mono ?_
        rintro e w5 ⟨A5, n5, c5, rfl, o5, gg5, b5⟩
        have hw5 := hw.below b5
        have own5 := own.next b5
        have bel5 := bel.trans (b5.mono bel.size)
        have hl5 : (Bit.pack (play rows)).length ≤ 1600 := by rw [Bit.length_pack]; omega
        go_wp2_with fail
        refine (open_calls _ _ _ (Bit.pack (play rows)) _ o5.1 (by have := o5.1; omega) o5.byt).mono ?_
        rintro e w6 ⟨rfl, hr6, b6⟩
        have hw6 := hw5.below b6
        have own6 := own5.next b6
        have bel6 := bel5.trans (b6.mono bel5.size)
        obtain ⟨gr, hgr⟩ : ∃ g, g = w5.heap.size + 1 := ⟨_, rfl⟩
        obtain ⟨rr, hrr⟩ : ∃ g, g = w5.heap.size := ⟨_, rfl⟩
        have HFW : Hid (∀ k, Foot gw Rw k → ¬ One gr k) := by
          intro k hk h
          have h : k = gr := h
          rcases hk with e | e
          · have := hw5.lt; omega
          · have := hw5.rlt k e; omega
        have HFA : Hid (∀ k, blkOf A1 = some k → ¬ One gr k) := by
          intro k hk h
          have h : k = gr := h
          have := own5.lt k hk
          omega
        have ggr : w.heap.size ≤ gr := by have := bel5.size; omega
        have hlen8 : (play rows).length ≤ 8 * (Bit.pack (play rows)).length := by rw [Bit.length_pack]; omega
        have hlen9 : 8 * (Bit.pack (play rows)).length < (play rows).length + 8 := by rw [Bit.length_pack]; omega
        rw [← hgr, ← hrr] at hr6
        rw [← hgr]
        clear hgr hrr o5 gg5 b5 b6 hw own bel hw5 own5 bel5
        have HLN := hide own6.1
        go_wp2
        go_loopw [8] (fun jv wr' => ∃ j : Nat, j ≤ n1 ∧ jv = .int .i64 (j : Int) ∧ ReaderIs wr' gr rr (Bit.pack (play rows)) (play (rows.take j)).length ∧ OwnR wr' 43 3 A1 n1 c1 rows ∧ WriterIs wr' gw Rw (play rows) ∧ Below w.heap.size w wr') (fun jv _ => n1 - (intOf jv).toNat)
        case atStart => exact ⟨0, by omega, rfl, hr6, own6, hw6, bel6⟩
        case round =>
          obtain ⟨j, hj, rfl, hr, own, hw, bel⟩ := hrel
          obtain ⟨wo, rfl⟩ : ∃ wo, wo = wr := ⟨_, rfl⟩
          clear hr6 own6 hw6 bel6
          by_cases hlt : j < n1
          · obtain ⟨g, r, rfl, hr0, hr3, hcell⟩ := own.at_ hlt
            have HST := hide (play_step rows j r hr0)
            have HPT := hide (play_take rows (j + 1))
            have hdone := HD.out r (List.mem_of_getElem? hr0)
            clear hr0 hr3
            rcases hdone with ⟨nn, v, rfl, hn64, hv⟩ | ⟨nn, v, rfl⟩
            · rw [actB_put] at HST
              have a0 := hcell 0 _ rfl
              have a1 := hcell 1 _ rfl
              have a2 := hcell 2 _ rfl
              rw [Nat.add_zero] at a0
              have hG : Bit.get (Bit.pack (play rows)) (play (rows.take j)).length nn = v := by
                have h1 := HPT.out
                rw [HST.out] at h1
                exact get_of_pre h1 hv
              have hL : (play (rows.take j)).length + nn ≤ 8 * (Bit.pack (play rows)).length := by
                have h1 := HPT.out.length_le
                rw [HST.out, List.length_append, Bit.length_digits] at h1
                omega
              have HL2 : Hid ((play (rows.take (j + 1))).length = (play (rows.take j)).length + nn) := by rw [HST.out, List.length_append, Bit.length_digits]; exact rfl
              have HG := hide hG
              have hvv : ((v : Int) != (v : Int)) = false := by simp
              clear hcell hG HST HPT hv
              go_wp2_with fail
              refine (get_calls gr rr _ _ nn _ hr hn64 hL).mono ?_
              rintro e t7 ⟨rfl, hr7, ch7⟩
              rw [HG.out]
              have own7 := ch7.ownR own HFA.out
              have hw7 := hw.keep ch7 HFW.out
              have bel7 := bel.trans (ch7.below (fun k h => by have h : k = gr := h; omega) bel.size)
              have a27 : t7.cell? ⟨g, j * 3 + 2, none⟩ = some (.int .u64 (v : Int)) := (World.cell?_of_block (a := ⟨g, j * 3 + 2, none⟩) (ch7.block g (own.lt g rfl) (HFA.out g rfl))).trans a2
              rw [← HL2.out] at hr7
              clear hr own hw bel a0 a1 a2 ch7 HL2 hL
              go_wp2
              go_roundw
              case rel => exact ⟨j + 1, by omega, by go_num, hr7, own7, hw7, bel7⟩
              case measure => simp [intOf]; omega
            · rw [actB_fill] at HST
              have a0 := hcell 0 _ rfl
              rw [Nat.add_zero] at a0
              have hG : Bit.restB (Bit.row (Bit.pack (play rows))) (play (rows.take j)).length = true := by
                have h1 := HPT.out
                rw [HST.out] at h1
                exact restB_fill h1
              have HG := hide hG
              have HL2 : Hid ((play (rows.take (j + 1))).length = alK true (play (rows.take j)).length) := by rw [HST.out, Bit.length_fill]; exact rfl
              have hq8 : (((play (rows.take (j + 1))).length : Int) % 8 != 0) = false := by rw [HST.out, Bit.length_fill]; simp
              clear hcell hG HST HPT
              go_wp2_with fail
              refine (ralign_any gr rr _ _ _ hr).mono ?_
              rintro e t7 ⟨rfl, hr7, ch7⟩
              rw [HG.out, ← HL2.out] at hr7
              rw [HG.out, show alE true = 0 from rfl]
              have own7 := ch7.ownR own HFA.out
              have hw7 := hw.keep ch7 HFW.out
              have bel7 := bel.trans (ch7.below (fun k h => by have h : k = gr := h; omega) bel.size)
              clear hr own hw bel a0 ch7 HL2 HG
              go_wp2_with fail
              refine (at_calls gr rr _ _ _ hr7).mono ?_
              rintro e v1 ⟨rfl, rfl⟩
              go_wp2
              go_roundw
              case rel => exact ⟨j + 1, by omega, by go_num, hr7, own7, hw7, bel7⟩
              case measure => simp [intOf]; omega
          · obtain rfl : j = n1 := by omega
            have ht : rows.take j = rows := List.take_of_length_le (by rw [← own.1]; exact Nat.le_refl _)
            rw [ht] at hr
            have HRB := hide (restB_end (play rows))
            have hge0 : (j : Int) ≤ (j : Int) := by omega
            clear ht hlt own
            generalize play rows = P at *
            have h8 : 8 * ((P.length + 7) / 8) = 8 * (Bit.pack P).length := by rw [Bit.length_pack]
            generalize hll : Bit.pack P = l at *
            have q1 : ((P.length : Int) != (P.length : Int)) = false := by simp
            have q2 : decide ((8 : Int) ≤ 8 * (l.length : Int) - (P.length : Int)) = false := by simp; omega
            have q3 : ((8 * (l.length : Int) - ((8 * l.length : Nat) : Int)) != 0) = false := by simp
            have H8 := hide h8
            have HLL := hide hll
            clear h8 hll
            go_wp2_with fail
            refine (at_calls gr rr _ _ _ hr).mono ?_
            rintro e v1 ⟨rfl, rfl⟩
            go_wp2_with fail
            refine (len_calls gw Rw _ _ hw).mono ?_
            rintro e v1 ⟨rfl, rfl⟩
            go_wp2_with fail
            refine (left_calls gr rr _ _ _ hr).mono ?_
            rintro e v1 ⟨rfl, rfl⟩
            have hr8 := hr.below (Below.refl _ _).drew
            have bel8 := bel.drew
            clear hr bel hw
            go_wp2_with fail
            refine (ralign_any gr rr _ _ _ hr8).mono ?_
            rintro e t9 ⟨rfl, hr9, ch9⟩
            rw [HRB.out] at hr9
            rw [HRB.out, show alE true = 0 from rfl]
            rw [show alK true P.length = 8 * l.length from H8.out] at hr9
            have bel9 := bel8.trans (ch9.below (fun k h => by have h : k = gr := h; omega) bel8.size)
            clear hr8 bel8 ch9
            go_wp2_with fail
            refine (left_calls gr rr _ _ _ hr9).mono ?_
            rintro e v1 ⟨rfl, rfl⟩
            have hr10 := hr9.below (Below.refl _ _).drew
            have bel10 := bel9.drew
            clear hr9 bel9
            go_wp2_with fail
            refine (get_short gr rr l _ 1 _ hr10 (by omega) (by omega)).mono ?_
            rintro e t11 ⟨rfl, b11⟩
            have hr11 := hr10.below b11
            have bel11 := bel10.trans (b11.mono bel10.size)
            clear hr10 bel10 b11
            go_wp2_with fail
            refine (alive_calls _).mono ?_
            rintro e t12 ⟨rfl, b12⟩
            have hr12 := hr11.below b12
            have bel12 := bel11.trans (b12.mono bel11.size)
            go_wp2_with fail
            refine (rest_calls gr rr l _ _ hr12).mono ?_
            rintro e t13 ⟨A13, n13, c13, rfl, o13, g13, b13⟩
            have hn13 : n13 = 0 := by rw [o13.1, List.length_drop]; omega
            subst hn13
            go_wp2
            go_ret
            exact ⟨rfl, bel12.trans (b13.mono bel12.size)⟩
end Go.Proofs.Ytdelaobffbaocaa
