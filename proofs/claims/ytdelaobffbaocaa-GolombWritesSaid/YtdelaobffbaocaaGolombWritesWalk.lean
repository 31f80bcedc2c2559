/- The statement GolombWrites, walked: it returns true and changes nothing that was there. Conditions: the slices read as numbers. -/
import Derived.Test.YtdelaobffbaocaaLaw02Alive
import Derived.Test.YtdelaobffbaocaaTwoW
import Derived.Test.YtdelaobffbaocaaVals
import Derived.Test.YtdelaobffbaocaaConv
import Derived.Test.YtdelaobffbaocaaHeld
namespace Go.Proofs.Ytdelaobffbaocaa
open Go.RowKit Kin

/-- what is put into both -/
theorem Two.step {w wr t3 t4 : World} {gw gm : Nat} {B B2 : List Bool} {Rw Rm R3 R4 : Option Nat} (_hw : WriterIs wr gw Rw B) (hm : RefWIs wr gm Rm B) (dj : Disj gw Rw gm Rm) (gRw : ∀ r, Rw = some r → w.heap.size ≤ r) (gRm : ∀ r, Rm = some r → w.heap.size ≤ r)
    (ggw : w.heap.size ≤ gw) (ggm : w.heap.size ≤ gm) (bel : Below w.heap.size w wr) (hw3 : WriterIs t3 gw R3 B2) (ch3 : Chg (Foot gw Rw) wr t3) (r3 : RowNew wr.heap.size Rw R3) (hm4 : RefWIs t4 gm R4 B2) (ch4 : Chg (Foot gm Rm) t3 t4) (r4 : RowNew t3.heap.size Rm R4) : Two w t4 gw gm B2 := by
  have hm3 := hm.keep ch3 dj.foot
  have D3 := dj.left r3 hm.lt hm.rlt
  have bel3 := bel.trans (ch3.below (Foot.ge ggw gRw) bel.size)
  have gR3 := r3.ge gRw bel.size
  have hw4 := hw3.keep ch4 D3.symm.foot
  have D4 := (D3.symm.left r4 hw3.lt hw3.rlt).symm
  have bel4 := bel3.trans (ch4.below (Foot.ge ggm gRm) bel3.size)
  have gR4 := r4.ge gRm bel3.size
  exact ⟨R3, R4, hw4, hm4, D4, gR3, gR4, ggw, ggm, bel4⟩
theorem Two.mid {w wr t3 : World} {gw gm : Nat} {B : List Bool} {Rw Rm : Option Nat} (hm : RefWIs wr gm Rm B) (dj : Disj gw Rw gm Rm) (gRw : ∀ r, Rw = some r → w.heap.size ≤ r)
    (ggw : w.heap.size ≤ gw) (bel : Below w.heap.size w wr) (ch3 : Chg (Foot gw Rw) wr t3) : RefWIs t3 gm Rm B ∧ Below w.heap.size w t3 :=
  ⟨hm.keep ch3 dj.foot, bel.trans (ch3.below (Foot.ge ggw gRw) bel.size)⟩

theorem gsB_no {B : List Bool} {x : Int} (h : Gol.foldOk x = false) : gsB B x = B := by unfold gsB; rw [h]; rfl
theorem gsB_yes {B : List Bool} {x : Int} (h : Gol.foldOk x = true) : gsB B x = gputB B (Gol.foldV x).toNat := by
  unfold gsB
  rw [h, gputB_ok (by have := Gol.foldV_range x; omega)]; rfl

set_option maxRecDepth 100000 in
set_option maxHeartbeats 4000000 in
theorem golombWrites_walk (A : Option Addr) (n c : Nat) (xs : List Value) (A2 : Option Addr) (n2 c2 : Nat) (ys : List Value) (w : World) (hn : n = xs.length) (hm : n ≤ maxLen) (hA : Vals w w.heap.size A xs) (hR : ∀ v ∈ xs, U64 v)
    (hn2 : n2 = ys.length) (hm2 : n2 ≤ maxLen) (hA2 : Vals w w.heap.size A2 ys) (hR2 : ∀ v ∈ ys, I64 v) :
    Calls Try.prog 10 #[.slice A n c, .slice A2 n2 c2] w fun e w' => e = .returned (.bool true) ∧ Below w.heap.size w w' := by
  have HN := hide hn
  have HR := hide hR
  have HN2 := hide hn2
  have HR2 := hide hR2
  clear hn hR hn2 hR2
  unfold maxLen at hm hm2
  have hz := (zero_of_info refWriter_zero).1
  go_enter Try.func10, Try.ntmps10
  go_wp2_with fail
  refine (new_calls _).mono ?_
  rintro e w1 ⟨rfl, hw1, b1⟩
  have hz1 := hw1.lt
  have hm1 : RefWIs (w1.alloc (Obj.cells #[.slice none 0 0] 41)) w1.heap.size none [] := ⟨none, 0, 0, Blk.new _ _ _, Own8.nil _ _, rfl⟩
  have b2 := b1.alloc b1.size (Obj.cells #[.slice none 0 0] 41)
  have hw2 := hw1.below ((Below.refl _ _).alloc (Nat.le_refl _) (Obj.cells #[.slice none 0 0] 41))
  have T0 : Two w (w1.alloc (Obj.cells #[.slice none 0 0] 41)) w.heap.size w1.heap.size [] :=
    ⟨none, none, hw2, hm1, ⟨by omega, by simp, by simp, by simp⟩, by simp, by simp, Nat.le_refl _, b1.size, b2⟩
  clear hm1 b2 hw2 hw1 b1
  go_wp2
  obtain ⟨gw, hgw⟩ : ∃ g, g = w.heap.size := ⟨_, rfl⟩
  obtain ⟨gm, hgm⟩ : ∃ g, g = w1.heap.size := ⟨_, rfl⟩
  rw [← hgm, ← hgw] at T0
  rw [← hgm, ← hgw]
  generalize (w1.alloc (Obj.cells #[.slice none 0 0] 41)) = w2 at *
  clear hgw hgm hz hz1
  go_loopw [7] (fun iv wr => ∃ (i : Nat) (B : List Bool), i ≤ n ∧ i ≤ 100 ∧ iv = .int .i64 (i : Int) ∧ B.length ≤ 64 * i ∧ Two w wr gw gm B) (fun iv _ => n - (intOf iv).toNat)
  case atStart => exact ⟨0, [], by omega, by omega, rfl, by simp, T0⟩
  case round =>
    obtain ⟨i, B, hi, hi2, rfl, hB, T⟩ := hrel
    clear T0
    by_cases hlt : i < n ∧ i < 100
    · obtain ⟨hlt, hlt2⟩ := hlt
      have hix : i < xs.length := by rw [← HN.out]; exact hlt
      obtain ⟨Rw, Rm, hw, hm', dj, gRw, gRm, ggw, ggm, bel⟩ := T
      obtain ⟨b, off, rfl, hb, hcell⟩ := hA.at_ hix
      obtain ⟨v, hv, hv1⟩ := HR.out xs[i] (List.getElem_mem hix)
      rw [hv] at hcell
      have HC : Hid (∀ w', Below w.heap.size w w' → w'.cell? ⟨b, off + i, none⟩ = some (.int .u64 (v : Int))) := fun w' h => (h.cell (p := ⟨b, off + i, none⟩) hb).trans hcell
      have d200 : decide ((i : Int) < 100) = true := by simp; omega
      have i0 : (0 : Int) ≤ (i : Int) := by omega
      have i1 : (i : Int) < (n : Int) := by omega
      have hq : ((gputE v) != (gputE v)) = false := by simp
      have hwd := hw.below (Below.refl _ _).drew
      have hmd := hm'.below (Below.refl _ _).drew
      have beld := bel.drew
      clear hv hcell hw hm' bel
      go_wp2
      go_region_held3 (fun w' => w'.cell? ⟨b, off + i, none⟩ = some (.int .u64 (v : Int)))
        (first | exact HC.out _ beld | exact HC.out _ m3.2 | exact HC.out _ bel4)
        (first
          | (go_at_call 41; refine (gput_any gw Rw B v _ hwd (by omega) hv1).mono ?_; rintro e t3 ⟨rfl, R3, hw3, ch3, r3⟩; have m3 := Two.mid hmd dj gRw ggw beld ch3)
          | (go_at_call 42; refine (refgput_any gm Rm B v _ m3.1 (by omega) hv1).mono ?_; rintro e t4 ⟨rfl, R4, hm4, ch4, r4⟩; have bel4 := m3.2.trans (ch4.below (Foot.ge ggm gRm) m3.2.size)))
      have T2 := Two.step hwd hmd dj gRw gRm ggw ggm beld hw3 ch3 r3 hm4 ch4 r4
      have hB2 : (gputB B v).length ≤ 64 * (i + 1) := by have := length_gputB B v; omega
      clear hwd hmd dj gRw gRm beld hw3 ch3 r3 hm4 ch4 r4 m3 bel4 hq hB
      generalize gputB B v = B2 at *
      generalize gputE v = E2 at *
      go_wp2
      go_roundw
      case rel => exact ⟨i + 1, B2, by omega, by omega, by go_num, hB2, T2⟩
      case measure => simp [intOf]; omega
    · have hcase : n ≤ i ∨ (i < n ∧ (100 : Int) ≤ (i : Int)) := by omega
      have hB0 : B.length ≤ 6400 := by omega
      clear hlt hB
      rcases hcase with hge | ⟨hlt, hge⟩
      all_goals
        go_wp2
        go_loopw [8] (fun iv wr' => ∃ (j : Nat) (B : List Bool), j ≤ n2 ∧ j ≤ 100 ∧ iv = .int .i64 (j : Int) ∧ B.length ≤ 6400 + 64 * j ∧ Two w wr' gw gm B) (fun iv _ => n2 - (intOf iv).toNat)
        case atStart => exact ⟨0, B, by omega, by omega, rfl, by omega, T⟩
        case round =>
          obtain ⟨j, B, hj, hj2, rfl, hB, T⟩ := hrel
          clear hB0
          by_cases hlt2 : j < n2 ∧ j < 100
          · obtain ⟨hlt2, hlt3⟩ := hlt2
            have hix : j < ys.length := by rw [← HN2.out]; exact hlt2
            obtain ⟨Rw, Rm, hw, hm', dj, gRw, gRm, ggw, ggm, bel⟩ := T
            obtain ⟨b, off, rfl, hb, hcell⟩ := hA2.at_ hix
            obtain ⟨x, hv, x1, x2⟩ := HR2.out ys[j] (List.getElem_mem hix)
            rw [hv] at hcell
            have HC : Hid (∀ w', Below w.heap.size w w' → w'.cell? ⟨b, off + j, none⟩ = some (.int .i64 x)) := fun w' h => (h.cell (p := ⟨b, off + j, none⟩) hb).trans hcell
            have d200 : decide ((j : Int) < 100) = true := by simp; omega
            have k0 := HC.out _ bel
            have hfr := Gol.foldV_range x
            clear hv hcell
            go_wp2_with fail
            refine (gputs_any gw Rw B x _ hw (by omega) x1 x2).mono ?_
            rintro e t3 ⟨rfl, R3, hw3, ch3, r3⟩
            have m3 := Two.mid hm' dj gRw ggw bel ch3
            have k3 := HC.out _ m3.2
            clear k0
            go_wp2_with fail
            refine (reffold_calls x _ x1 x2).mono ?_
            rintro e t3' ⟨rfl, rfl⟩
            cases hok : Gol.foldOk x
            · have e1 : gsE x = 1 := by unfold gsE; rw [hok]; rfl
              rw [e1]
              have T2 := Two.step hw hm' dj gRw gRm ggw ggm bel hw3 ch3 r3 (by rw [gsB_no hok]; exact m3.1) (Chg.refl _ _) (RowNew.refl _ _)
              have hB2 : (gsB B x).length ≤ 6400 + 64 * (j + 1) := by have := length_gsB B x; omega
              clear hw hm' dj gRw gRm bel hw3 ch3 r3 m3 hok e1 k3
              generalize gsB B x = B2 at *
              go_wp2
              go_roundw
              case rel => exact ⟨j + 1, B2, by omega, by omega, by go_num, hB2, T2⟩
              case measure => simp [intOf]; omega
            · have e1 : gsE x = 0 := by unfold gsE; rw [hok]; rfl
              rw [e1]
              have HGB : Hid (gsB B x = gputB B (Gol.foldV x).toNat) := gsB_yes hok
              have hB2 : (gsB B x).length ≤ 6400 + 64 * (j + 1) := by have := length_gsB B x; omega
              generalize hFV : Gol.foldV x = FV at *
              obtain ⟨FV, rfl⟩ : ∃ k : Nat, FV = k := ⟨FV.toNat, by omega⟩
              rw [Int.toNat_natCast] at HGB
              clear hFV hok e1
              go_wp2_with fail
              refine (refgput_any gm Rm B FV _ m3.1 (by omega) (by omega)).mono ?_
              rintro e t4 ⟨rfl, R4, hm4, ch4, r4⟩
              have T2 := Two.step hw hm' dj gRw gRm ggw ggm bel hw3 ch3 r3 (by rw [HGB.out]; exact hm4) ch4 r4
              clear hw hm' dj gRw gRm bel hw3 ch3 r3 m3 k3 hm4 ch4 r4
              generalize gsB B x = B2 at *
              go_wp2
              go_roundw
              case rel => exact ⟨j + 1, B2, by omega, by omega, by go_num, hB2, T2⟩
              case measure => simp [intOf]; omega
          · have hcase : n2 ≤ j ∨ (j < n2 ∧ (100 : Int) ≤ (j : Int)) := by omega
            obtain ⟨Rw2, Rm2, hwT, hmT, djT, gRwT, gRmT, ggwT, ggmT, belT⟩ := T
            have hwTd := hwT.below (Below.refl _ _).drew
            have hmTd := hmT.below (Below.refl _ _).drew
            have belTd := belT.drew
            obtain ⟨A5, n5, c5, bk5, ow5, r5⟩ := hmTd
            have hn5 : n5 = B.length := by rw [ow5.1, Bit.length_zo]
            have hq5 : ((B.length : Int) == (n5 : Int)) = true := by rw [hn5]; simp
            have H5 := hide hn5
            have hlen5 : B.length ≤ 1099511627776 := by omega
            clear hn5 hlt2 hwT hmT belT
            rcases hcase with hge2 | ⟨hlt2, hge2⟩
            all_goals
              go_wp2
              go_region_held3 (fun w' => w'.cell? ⟨gm, 0, none⟩ = some (.slice A5 n5 c5))
                (first | exact bk5.cell 0 | exact bk55.cell 0 | exact ⟨bk6.cell 0, Below.refl _ _⟩ | exact ⟨⟨bk7.cell 0, b7⟩, Below.refl _ _⟩)
                (first
                  | (go_at_call 37; ((with_reducible refine (alive2_calls _).mono ?_)); rintro e t55 ⟨rfl, b55⟩; have bk55 := bk5.below b55 bk5.lt; have ow55 := ow5.below b55 ow5.lt; have hw55 := hwTd.below b55; have bel55 := belTd.trans (b55.mono belTd.size))
                  | (go_at_call 21; ((with_reducible refine (len_calls gw Rw2 B _ hw55).mono ?_)); rintro e v1 ⟨rfl, rfl⟩)
                  | (go_at_call 22; ((with_reducible refine (wbytes_calls gw Rw2 B _ hw55 hlen5).mono ?_)); rintro e t6 ⟨A6, n6, c6, rfl, o6, gg6, b6⟩; have bk6 := bk55.below b6 bk55.lt; have ow6 := ow55.below b6 ow55.lt; have cv6 : ∀ w', Below t6.heap.size t6 w' → Sem.run Try.prog (convert 22 9 (.slice A6 n6 c6)) w' = .ok (.string (str (Bit.pack B))) w' := (fun w' b => run_conv8 bytesT Try.underlying9 A6 n6 c6 _ (o6.byt.below b) o6.1); simp only [shut_strong (fun w' => Below t6.heap.size t6 w')] at *)
                  | (go_at_call 26; ((with_reducible refine (pack_calls A5 n5 c5 B _ H5.out (by rw [H5.out]; exact hlen5) ow6.byt).mono ?_)); rintro e t7 ⟨A7, n7, c7, rfl, o7, gg7, b7⟩; have bk7 := bk6.below b7 bk6.lt; have cv7 : ∀ w', Below t7.heap.size t7 w' → Sem.run Try.prog (convert 22 9 (.slice A7 n7 c7)) w' = .ok (.string (str (Bit.pack B))) w' := (fun w' b => run_conv8 bytesT Try.underlying9 A7 n7 c7 _ (o7.byt.below b) o7.1); simp only [shut_strong (fun w' => Below t7.heap.size t7 w')] at *))
              go_wp2
              go_ret
              exact ⟨rfl, bel55.trans ((bnext b6 b7).mono bel55.size)⟩
end Go.Proofs.Ytdelaobffbaocaa
