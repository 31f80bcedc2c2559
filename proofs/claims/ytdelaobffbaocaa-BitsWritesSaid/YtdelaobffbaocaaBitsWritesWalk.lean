/- The statement BitsWrites, walked: it returns true and changes nothing that was there. Conditions: the slice reads as acts. -/
import Derived.Test.YtdelaobffbaocaaLaw01Alive
import Derived.Test.YtdelaobffbaocaaBitsAny
import Derived.Test.YtdelaobffbaocaaActs
import Derived.Test.YtdelaobffbaocaaConv
import Derived.Test.YtdelaobffbaocaaHeld
import Derived.BigQuiet
import Derived.Deep.QuietTactic
namespace Go.Proofs.Ytdelaobffbaocaa
open Go.RowKit Kin


theorem refWriter_zero : (Try.prog.info? 41).map (fun i => (i.zero, i.size)) = some (some (.agg #[.slice none 0 0]), 1) := by kernel_rfl

/-- two writers of the same bits, apart -/
def Two (w wr : World) (gw gm : Nat) (B : List Bool) : Prop :=
  ∃ Rw Rm, WriterIs wr gw Rw B ∧ RefWIs wr gm Rm B ∧ Disj gw Rw gm Rm ∧ (∀ r, Rw = some r → w.heap.size ≤ r) ∧ (∀ r, Rm = some r → w.heap.size ≤ r) ∧ w.heap.size ≤ gw ∧ w.heap.size ≤ gm ∧ Below w.heap.size w wr

set_option maxRecDepth 100000 in
set_option maxHeartbeats 4000000 in
theorem bitsWrites_walk (A : Option Addr) (n c : Nat) (xs : List (List Value)) (w : World) (hn : n = xs.length) (hm : n ≤ maxLen) (hA : Recs w w.heap.size 3 A xs) (hR : ∀ row ∈ xs, ActRow row) :
    Calls Try.prog 4 #[.slice A n c] w fun e w' => e = .returned (.bool true) ∧ Below w.heap.size w w' := by
  have HN := hide hn
  have HR := hide hR
  clear hn hR
  unfold maxLen at hm
  have hz := (zero_of_info refWriter_zero).1
  go_enter Try.func4, Try.ntmps4
  go_wp2_with fail
  refine (new_calls _).mono ?_
  rintro e w1 ⟨rfl, hw1, b1⟩
  have hz1 := hw1.lt
  have hm1 : RefWIs (w1.alloc (Obj.cells #[.slice none 0 0] 41)) w1.heap.size none [] := ⟨none, 0, 0, Blk.new _ _ _, Own8.nil _ _, rfl⟩
  have b2 := b1.alloc b1.size (Obj.cells #[.slice none 0 0] 41)
  have hw2 := hw1.below ((Below.refl _ _).alloc (Nat.le_refl _) (Obj.cells #[.slice none 0 0] 41))
  have T0 : Two w (w1.alloc (Obj.cells #[.slice none 0 0] 41)) w.heap.size w1.heap.size [] :=
    ⟨none, none, hw2, hm1, ⟨by omega, by simp, by simp, by simp⟩, by simp, by simp, Nat.le_refl _, b1.size, b2⟩
  clear hm1 b2 hw2 hw1 b1
  go_wp2
  obtain ⟨gw, hgw⟩ : ∃ g, g = w.heap.size := ⟨_, rfl⟩
  obtain ⟨gm, hgm⟩ : ∃ g, g = w1.heap.size := ⟨_, rfl⟩
  rw [← hgm, ← hgw] at T0
  rw [← hgm, ← hgw]
  generalize (w1.alloc (Obj.cells #[.slice none 0 0] 41)) = w2 at *
  clear hgw hgm hz hz1
  go_loopw [5] (fun iv wr => ∃ (i : Nat) (B : List Bool), i ≤ n ∧ i ≤ 200 ∧ iv = .int .i64 (i : Int) ∧ B.length ≤ 64 * i ∧ Two w wr gw gm B) (fun iv _ => n - (intOf iv).toNat)
  case atStart => exact ⟨0, [], by omega, by omega, rfl, by simp, T0⟩
  case round =>
    obtain ⟨i, B, hi, hi2, rfl, hB, T⟩ := hrel
    clear T0
    by_cases hlt : i < n ∧ i < 200
    · obtain ⟨hlt, hlt2⟩ := hlt
      have hix : i < xs.length := by rw [← HN.out]; exact hlt
      obtain ⟨Rw, Rm, hw, hm', dj, gRw, gRm, ggw, ggm, bel⟩ := T
      obtain ⟨b, off, rfl, hb, hl3, hcell⟩ := (hA.below bel).at_ hix
      obtain ⟨kd, nn, v, hrow, hv0, hv1⟩ := HR.out xs[i] (List.getElem_mem hix)
      rw [hrow] at hcell
      have a0 : wr.cell? ⟨b, off + i * 3, none⟩ = some (.int .i64 kd) := hcell 0 _ rfl
      have a1 := hcell 1 _ rfl
      have a2 := hcell 2 _ rfl
      have d200 : decide ((i : Int) < 200) = true := by simp; omega
      clear hrow hl3 hcell
      go_wp2
      have bA := Blk.new wr 43 #[.int .i64 kd, .int .i64 nn, .int .u64 v]
      have hb1 : Below wr.heap.size wr (wr.alloc (.cells #[.int .i64 kd, .int .i64 nn, .int .u64 v] 43)) := (Below.refl _ _).alloc (Nat.le_refl _) _
      have hw1 := hw.below hb1
      have hm1 := hm'.below hb1
      have bel1 := bel.trans (hb1.mono bel.size)
      have nF : ¬ Foot gw Rw wr.heap.size := fun h => by
        rcases h with h | h
        · have := hw.lt; omega
        · have := hw.rlt _ h; omega
      have nM : ¬ Foot gm Rm wr.heap.size := fun h => by
        rcases h with h | h
        · have := hm'.lt; omega
        · have := hm'.rlt _ h; omega
      have gA : w.heap.size ≤ wr.heap.size := bel.size
      have ltA := bA.lt
      clear hw hm' bel hb1 a0 a1 a2
      generalize wr.alloc (.cells #[.int .i64 kd, .int .i64 nn, .int .u64 v] 43) = W at *
      obtain ⟨ga, hga⟩ : ∃ g, g = wr.heap.size := ⟨_, rfl⟩
      rw [← hga] at bA nF nM gA ltA
      rw [← hga]
      clear hga
      have hcase : kd = 1 ∨ kd = 2 ∨ (¬ kd = 1 ∧ ¬ kd = 2) := by omega
      rcases hcase with rfl | rfl | ⟨hk1, hk2⟩
      case' inl =>
        have hw1d := hw1.below (Below.refl _ _).drew
        have hm1d := hm1.below (Below.refl _ _).drew
        have bAd := bA.drew
        have beld := bel1.drew
        have hq : ((putE v nn) != (putE v nn)) = false := by simp
        go_region_held3 (fun w' => w'.cell? ⟨ga, 0, none⟩ = some (.int .i64 1) ∧ w'.cell? ⟨ga, 1, none⟩ = some (.int .i64 nn) ∧ w'.cell? ⟨ga, 2, none⟩ = some (.int .u64 v))
          (first | exact ⟨bAd.cell 0, bAd.cell 1, bAd.cell 2⟩ | exact ⟨bA3.cell 0, bA3.cell 1, bA3.cell 2⟩ | exact ⟨bA4.cell 0, bA4.cell 1, bA4.cell 2⟩)
          (first
            | (go_at_call 19; refine (put_any gw Rw B v nn _ hw1d (by omega) hv0 hv1).mono ?_; rintro e t3 ⟨rfl, R3, hw3, ch3, r3⟩; have hm3 := hm1d.keep ch3 dj.foot; have D3 := dj.left r3 hm1d.lt hm1d.rlt; have bA3 := ch3.blk bAd nF; have bel3 := beld.trans (ch3.below (Foot.ge ggw gRw) beld.size); have gR3 := r3.ge gRw beld.size; have z3 := ch3.size)
            | (go_at_call 23; refine (refput_any gm Rm B v nn _ hm3 (by omega) hv0 hv1).mono ?_; rintro e t4 ⟨rfl, R4, hm4, ch4, r4⟩; have hw4 := hw3.keep ch4 D3.symm.foot; have D4 := (D3.symm.left r4 hw3.lt hw3.rlt).symm; have bA4 := ch4.blk bA3 nM; have bel4 := bel3.trans (ch4.below (Foot.ge ggm gRm) bel3.size); have gR4 := r4.ge gRm bel3.size))
        have T2 : Two w t4 gw gm (putB B v nn) := ⟨R3, R4, hw4, hm4, D4, gR3, gR4, ggw, ggm, bel4⟩
        have hB2 : (putB B v nn).length ≤ 64 * (i + 1) := by have := length_putB B v nn; omega
        have cK : t4.cell? ⟨ga, 0, none⟩ = some (.int .i64 1) := bA4.cell 0
        clear hm3 D3 bA3 bel3 gR3 hw3 ch3 r3 ch4 r4 hw4 hm4 D4 bA4 bel4 gR4 hw1d hm1d bAd beld bA hw1 hm1 bel1 dj gRw gRm nF nM hq hB
        generalize putB B v nn = B2 at *
        generalize putE v nn = E2 at *
        go_wp2
        obtain ⟨WT, rfl⟩ : ∃ x, x = t4 := ⟨_, rfl⟩
      case' inr.inl =>
        have cA : W.cell? ⟨ga, 0, none⟩ = some (.int .i64 2) := bA.cell 0
        have hq : ((2 : Int) == 1) = false := by decide
        go_quiet (fail)
        have hw2 := hw1.below (dN _ nq)
        have hm2 := hm1.below (dN _ nq)
        have bel2 := bel1.trans ((dN _ nq).mono bel1.size)
        have cA2 : (W.drewN nq).cell? ⟨ga, 0, none⟩ = some (.int .i64 2) := cA
        clear hw1 hm1 bel1 cA hq bA ltA
        generalize W.drewN nq = V at *
        go_wp2_with fail
        refine (refwalign_calls gm Rm B _ hm2 (by omega)).mono ?_
        rintro e t3 ⟨rfl, R3, hm3, ch3, r3⟩
        have hw3 := hw2.keep ch3 dj.symm.foot
        have D3 := (dj.symm.left r3 hw2.lt hw2.rlt).symm
        have bel3 := bel2.trans (ch3.below (Foot.ge ggm gRm) bel2.size)
        have gR3 := r3.ge gRm bel2.size
        go_wp2_with fail
        refine (walign_calls gw Rw B _ hw3 (by omega)).mono ?_
        rintro e t4 ⟨rfl, hw4, ch4⟩
        have hm4 := hm3.keep ch4 D3.foot
        have bel4 := bel3.trans (ch4.below (Foot.ge ggw gRw) bel3.size)
        have T2 : Two w t4 gw gm (Bit.fill B) := ⟨Rw, R3, hw4, hm4, D3, gRw, gR3, ggw, ggm, bel4⟩
        have hB2 : (Bit.fill B).length ≤ 64 * (i + 1) := by have := length_fill_le B; omega
        clear hw2 hm2 bel2 cA2 hm3 ch3 r3 hw3 D3 bel3 gR3 hw4 ch4 hm4 bel4 dj gRw gRm nF nM hB
        generalize Bit.fill B = B2 at *
        go_wp2
        obtain ⟨WT, rfl⟩ : ∃ x, x = t4 := ⟨_, rfl⟩
      case' inr.inr =>
        have cA : W.cell? ⟨ga, 0, none⟩ = some (.int .i64 kd) := bA.cell 0
        have hq : (kd == 1) = false := by simpa using hk1
        have hq2 : (kd == 2) = false := by simpa using hk2
        clear hk1 hk2
        go_quiet (fail)
        have bel2 := bel1.trans ((dN _ nq).mono bel1.size)
        have T2 : Two w (W.drewN nq) gw gm B := ⟨Rw, Rm, hw1.below (dN _ nq), hm1.below (dN _ nq), dj, gRw, gRm, ggw, ggm, bel2⟩
        have hB2 : B.length ≤ 64 * (i + 1) := by omega
        have cA2 : (W.drewN nq).cell? ⟨ga, 0, none⟩ = some (.int .i64 kd) := cA
        clear hw1 hm1 bel1 cA bA ltA bel2 dj gRw gRm nF nM hB
        generalize W.drewN nq = V at *
        go_wp2
        obtain ⟨WT, rfl⟩ : ∃ x, x = V := ⟨_, rfl⟩
        obtain ⟨B2, rfl⟩ : ∃ x, x = B := ⟨_, rfl⟩
      all_goals
        obtain ⟨Rw2, Rm2, hwT, hmT, djT, gRwT, gRmT, ggwT, ggmT, belT⟩ := T2
        have hwTd := hwT.below (Below.refl _ _).drew
        have hmTd := hmT.below (Below.refl _ _).drew
        have belTd := belT.drew
        obtain ⟨A5, n5, c5, bk5, ow5, r5⟩ := hmTd
        have hn5 : n5 = B2.length := by rw [ow5.1, Bit.length_zo]
        have hq5 : ((B2.length : Int) != (n5 : Int)) = false := by rw [hn5]; simp
        have H5 := hide hn5
        have hlen5 : B2.length ≤ 1099511627776 := by omega
        clear hn5
        go_region_held3 (fun w' => w'.cell? ⟨gm, 0, none⟩ = some (.slice A5 n5 c5))
          (first | exact bk5.cell 0 | exact ⟨bk6.cell 0, Below.refl _ _⟩ | exact ⟨⟨bk7.cell 0, b7⟩, Below.refl _ _⟩)
          (first
            | (go_at_call 21; ((with_reducible refine (len_calls gw Rw2 B2 _ hwTd).mono ?_)); rintro e v1 ⟨rfl, rfl⟩)
            | (go_at_call 22; ((with_reducible refine (wbytes_calls gw Rw2 B2 _ hwTd hlen5).mono ?_)); rintro e t6 ⟨A6, n6, c6, rfl, o6, gg6, b6⟩; have bk6 := bk5.below b6 bk5.lt; have ow6 := ow5.below b6 ow5.lt; have cv6 : ∀ w', Below t6.heap.size t6 w' → Sem.run Try.prog (convert 22 9 (.slice A6 n6 c6)) w' = .ok (.string (str (Bit.pack B2))) w' := (fun w' b => run_conv8 bytesT Try.underlying9 A6 n6 c6 _ (o6.byt.below b) o6.1); simp only [shut_strong (fun w' => Below t6.heap.size t6 w')] at *)
            | (go_at_call 26; ((with_reducible refine (pack_calls A5 n5 c5 B2 _ H5.out (by rw [H5.out]; exact hlen5) ow6.byt).mono ?_)); rintro e t7 ⟨A7, n7, c7, rfl, o7, gg7, b7⟩; have bk7 := bk6.below b7 bk6.lt; have cv7 : ∀ w', Below t7.heap.size t7 w' → Sem.run Try.prog (convert 22 9 (.slice A7 n7 c7)) w' = .ok (.string (str (Bit.pack B2))) w' := (fun w' b => run_conv8 bytesT Try.underlying9 A7 n7 c7 _ (o7.byt.below b) o7.1); simp only [shut_strong (fun w' => Below t7.heap.size t7 w')] at *))
        have b67 := b6.trans (b7.mono b6.size)
        have T8 : Two w t7 gw gm B2 := ⟨Rw2, Rm2, hwTd.below b67, RefWIs.below ⟨A5, n5, c5, bk5, ow5, r5⟩ b67, djT, gRwT, gRmT, ggwT, ggmT, belTd.trans (b67.mono belTd.size)⟩
        go_wp2
        go_roundw
        case rel => exact ⟨i + 1, B2, by omega, by omega, by go_num, hB2, T8⟩
        case measure => simp [intOf]; omega
    · obtain ⟨_, _, _, _, _, _, _, _, _, bel⟩ := T
      have hcase : n ≤ i ∨ (i < n ∧ i = 200) := by omega
      clear hlt
      rcases hcase with hge | ⟨hlt, rfl⟩
      · go_wp2_with (go_at_call 15; refine (alive_calls _).mono ?_; rintro e w3 ⟨rfl, hb⟩)
        go_ret
        exact ⟨rfl, bel.trans (hb.mono bel.size)⟩
      · rw [show ((200 : Nat) : Int) = 200 from rfl]
        have hlt2 : (200 : Int) < (n : Int) := by omega
        go_wp2_with (go_at_call 15; refine (alive_calls _).mono ?_; rintro e w3 ⟨rfl, hb⟩)
        go_ret
        exact ⟨rfl, bel.trans (hb.mono bel.size)⟩
end Go.Proofs.Ytdelaobffbaocaa
