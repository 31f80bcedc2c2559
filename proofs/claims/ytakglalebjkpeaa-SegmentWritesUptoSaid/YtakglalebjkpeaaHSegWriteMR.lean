/- A media's file, by the contract of the document's function. Conditions: all lengths together are at most 2^40. -/
import Derived.Test.YtakglalebjkpeaaHSegWriteM
import Derived.Test.YtakglalebjkpeaaHSegWriteIR
namespace Go.Proofs.Ytakglalebjkpeaa.C17
open Go.RowKit Kin Go.Proofs.Ytakglalebjkpeaa Go.Proofs.Ytakglalebjkpeaa.C16

/-- two slices lie in two blocks -/
def Apart (A B : Option Addr) : Prop := ∀ g, blkOf A = some g → blkOf B ≠ some g
theorem Apart.symm {A B : Option Addr} (h : Apart A B) : Apart B A := fun g hg e => h g e hg
theorem Apart.or {A B : Option Addr} (h : Apart A B) : blkOf A = none ∨ blkOf A ≠ blkOf B := by
  rcases e : blkOf A with _ | g
  · exact .inl rfl
  · exact .inr fun e2 => h g e e2.symm
theorem Apart.moved {A A' B : Option Addr} {n : Nat} (h : Apart A B) (at1 : blkOf A' = blkOf A ∨ blkOf A' = some n) (hB : ∀ g, blkOf B = some g → g < n) : Apart A' B := by
  intro g hg e
  rcases at1 with h1 | h1
  · exact h g (by rw [← h1]; exact hg) e
  · rw [hg] at h1
    injection h1 with h1
    have := hB g e
    omega
theorem table_snoc {xs : List Sg.Smp} {k : Nat} (h : k < xs.length) : Sg.table ((Sg.dats xs).take (k + 1)) = Sg.table ((Sg.dats xs).take k) ++ Bx.four (xs[k]).d.length := by
  rw [Sg.take_dats xs h]
  simp [Sg.table]
theorem data_snoc {xs : List Sg.Smp} {k : Nat} (h : k < xs.length) : ((Sg.dats xs).take (k + 1)).flatten = ((Sg.dats xs).take k).flatten ++ (xs[k]).d := by
  rw [Sg.take_dats xs h]
  simp

set_option maxRecDepth 100000 in
set_option maxHeartbeats 20000000 in
theorem refwriteM_calls (N F : Int) (A : Option Addr) (n c : Nat) (xs : List Sg.Smp) (w : World) (hn : n = xs.length) (hm : n ≤ 9223372036854775807) (hA : Sg.Samps w w.heap.size A xs) (hT : (Sg.dats xs).flatten.length ≤ 1099511627776) :
    Calls Try.prog 13 #[medV N F A n c] w (C16.RetBE w (Sg.wmL ⟨N, F, Sg.dats xs⟩) (Sg.wmE ⟨N, F, Sg.dats xs⟩)) := by
  have b0 : Below w.heap.size w (w.alloc (.cells #[.int .i64 N, .int .i64 F, .slice A n c] 28)) := (Below.refl _ _).alloc (Nat.le_refl _) _
  have bk := Blk.new w 28 #[.int .i64 N, .int .i64 F, .slice A n c]
  obtain ⟨c0, c1, c2⟩ := med_cells bk
  have HRC := hide (refrightM_calls N F A n c xs (w.alloc (.cells #[.int .i64 N, .int .i64 F, .slice A n c] 28)) hn hm (hA.of_below b0) hT)
  cases hr : Sg.rightM ⟨N, F, Sg.dats xs⟩
  · rw [hr] at HRC
    have HE := hide (Sg.wm_no hr)
    clear hr hn hA hT
    go_enter Try.func13, Try.ntmps13
    go_wp2_with fail
    refine HRC.out.mono ?_
    rintro e w1 ⟨rfl, b1⟩
    go_wp2
    go_ret2
    rw [HE.out.1, HE.out.2]
    exact ⟨_, _, _, rfl, Own8.nil _ _, by simp [blkOf], b0.trans (b1.mono b0.size)⟩
  · rw [hr] at HRC
    have HE := hide (Sg.wm_yes hr)
    have HRB := hide (Sg.boxM_right hr)
    obtain ⟨⟨a, rfl, ha⟩, ⟨f, rfl, hf⟩, l1, l2, hp, h19, hz9⟩ := med_facts hr
    have HZ2 := hide hz9
    have H19 := hide h19
    have HN := hide hn
    have hn64 : n ≤ 64 := by rw [hn]; exact l2
    have HX : Hid (Sg.boxM ⟨(a : Int), (f : Int), Sg.dats xs⟩ = [(Sg.kHead, Bx.four a ++ Bx.four f ++ Bx.four n), (Sg.kTabl, Sg.table (Sg.dats xs)), (Sg.kData, (Sg.dats xs).flatten)]) := by
      show [(Sg.kHead, Bx.four (a : Int).toNat ++ Bx.four (f : Int).toNat ++ Bx.four (Sg.dats xs).length), (Sg.kTabl, Sg.table (Sg.dats xs)), (Sg.kData, (Sg.dats xs).flatten)] = _
      rw [Int.toNat_natCast, Int.toNat_natCast, Sg.length_dats, ← hn]
    have HFI : Hid (Sg.fileM ⟨(a : Int), (f : Int), Sg.dats xs⟩ = Sg.sealB (Sg.boxM ⟨(a : Int), (f : Int), Sg.dats xs⟩)) := rfl
    rw [HX.out] at HRB HFI HZ2
    have HA := hide hA
    have H4a := hide (fun w => four4_calls a w (by omega))
    have H4f := hide (fun w => four4_calls f w (by omega))
    have H4n := hide (fun w => four4_calls n w (by omega))
    clear hr HX hn hz9 hp h19 hT hA l1 l2
    go_enter Try.func13, Try.ntmps13
    go_wp2_with fail
    refine HRC.out.mono ?_
    rintro e w1 ⟨rfl, b1⟩
    have bk1 := bk.below b1 bk.lt
    have bel1 : Below w.heap.size w w1 := b0.trans (b1.mono b0.size)
    clear c0 c1 c2 b0 b1 bk
    have bkd := bk1.drew
    have beld := bel1.drew
    have sd : w1.drew.cell? ⟨w.heap.size, 0, none⟩ = some (.int .i64 (a : Int)) ∧ w1.drew.cell? ⟨w.heap.size, 1, none⟩ = some (.int .i64 (f : Int)) := ⟨bkd.cell 0, bkd.cell 1⟩
    go_wp2_with fail
    go_region_held3 (fun w' => w'.cell? ⟨w.heap.size, 0, none⟩ = some (.int .i64 (a : Int)) ∧ w'.cell? ⟨w.heap.size, 1, none⟩ = some (.int .i64 (f : Int)))
      (first | with_reducible exact sd | with_reducible exact s2 | with_reducible exact s3 | with_reducible exact s4 | (trace "KEEP"; trace_state; fail))
      (first
        | (go_at_call 28; ((with_reducible refine (H4a.out w1.drew).mono ?_)); rintro e w2 ⟨A2, n2, c2, rfl, o2, g2, b2⟩; obtain rfl : n2 = 4 := o2.1; have bk2 := bkd.below b2 bkd.lt; have bel2 := bnext beld b2; have s2 : w2.cell? ⟨w.heap.size, 0, none⟩ = some (.int .i64 (a : Int)) ∧ w2.cell? ⟨w.heap.size, 1, none⟩ = some (.int .i64 (f : Int)) := ⟨bk2.cell 0, bk2.cell 1⟩; have gg2 : ∀ g, blkOf A2 = some g → w.heap.size < g := fun g hg => Nat.lt_of_lt_of_le bkd.lt (g2 g hg))
        | (go_at_call 28; ((with_reducible refine (H4f.out w2).mono ?_)); rintro e w3 ⟨A3, n3, c3, rfl, o3, g3, b3⟩; obtain rfl : n3 = 4 := o3.1; have bk3 := bk2.below b3 bk2.lt; have bel3 := bnext bel2 b3; have o23 := o2.below b3 o2.lt; have s3 : w3.cell? ⟨w.heap.size, 0, none⟩ = some (.int .i64 (a : Int)) ∧ w3.cell? ⟨w.heap.size, 1, none⟩ = some (.int .i64 (f : Int)) := ⟨bk3.cell 0, bk3.cell 1⟩)
        | (refine step_append8 (by rfl) (.tmp 15) (.tmp 18) 31 5 (by rfl) bytesT A2 4 c2 (Bx.four a) (by rfl) o23 w3.heap.size A3 4 c3 (Bx.four f) (by rfl) o3.byt o3.1 (by decide) ?_; intro A4 c4 w4 own4 grow4 at4; obtain ⟨bk4, bel4, gg4⟩ := af_next bk3 o23.soft bel3 gg2 (Nat.le_refl _) grow4 at4; have s4 : w4.cell? ⟨w.heap.size, 0, none⟩ = some (.int .i64 (a : Int)) ∧ w4.cell? ⟨w.heap.size, 1, none⟩ = some (.int .i64 (f : Int)) := ⟨bk4.cell 0, bk4.cell 1⟩))
    all_goals
      clear sd s2 s3 s4 grow4 at4 o23 o3 g3 b3 bk3 bel3 o2 g2 b2 bk2 bel2 gg2 bkd beld bk1 bel1
      have c2' : w4.cell? ⟨w.heap.size, 2, none⟩ = some (.slice A n c) := bk4.cell 2
      go_wp2_with fail
      refine (H4n.out w4).mono ?_
      rintro e w5 ⟨A5, n5, k5, rfl, o5, g5, b5⟩
      obtain rfl : n5 = 4 := o5.1
      have bk5 := bk4.below b5 bk4.lt
      have own5 := own4.below b5 own4.lt
      have bel5 := bnext bel4 b5
      have c2'' : w5.cell? ⟨w.heap.size, 2, none⟩ = some (.slice A n c) := bk5.cell 2
      go_wp2_with (at_builtin; refine wpList_append8 (by rfl) (.tmp 20) (.tmp 24) 31 5 (by rfl) bytesT A4 (4 + 4) c4 (Bx.four a ++ Bx.four f) (by rfl) own5 w5.heap.size A5 4 k5 (Bx.four n) (by rfl) o5.byt o5.1 (by decide) ?_; intro A6 c6 w6 own6 grow6 at6; obtain ⟨bk6, bel6, gg6⟩ := af_next bk5 own5.soft bel5 gg4 (Nat.le_refl _) grow6 at6; have c26 : w6.cell? ⟨w.heap.size, 2, none⟩ = some (.slice A n c) := bk6.cell 2)
      clear own5 own4 grow6 at6 bel5 bk5 bk4 bel4 b5 g5 o5 c2' c2'' gg4
      go_loopw [6, 7, 8] (fun tv dv iv wr => ∃ (k n1 c1 n2 c2 : Nat) (A1 A2 : Option Addr), k ≤ n ∧ iv = .int .i64 (k : Int) ∧ tv = .slice A1 n1 c1 ∧ dv = .slice A2 n2 c2 ∧ Own8 wr 5 A1 n1 c1 (Sg.table ((Sg.dats xs).take k)) ∧ Own8 wr 5 A2 n2 c2 ((Sg.dats xs).take k).flatten ∧ Own8 wr 5 A6 (4 + 4 + 4) c6 (Bx.four a ++ Bx.four f ++ Bx.four n) ∧ Apart A1 A2 ∧ Apart A6 A1 ∧ Apart A6 A2 ∧ (∀ g, blkOf A1 = some g → w.heap.size < g) ∧ (∀ g, blkOf A2 = some g → w.heap.size < g) ∧ Blk wr w.heap.size 28 #[.int .i64 (a : Int), .int .i64 (f : Int), .slice A n c] ∧ Below w.heap.size w wr) (fun _ _ iv _ => n - (intOf iv).toNat)
      case atStart => exact ⟨0, 0, 0, 0, 0, none, none, by omega, rfl, rfl, rfl, Own8.nil _ _, Own8.nil _ _, own6, by intro g hg; simp [blkOf] at hg, by intro g hg; simp [blkOf], by intro g hg; simp [blkOf], by intro g hg; simp [blkOf] at hg, by intro g hg; simp [blkOf] at hg, bk6, bel6⟩
      case round =>
        clear own6 bk6 bel6 c26
        obtain ⟨k, n1, c1, n2, c2, A1, A2, hk, rfl, rfl, rfl, ow1, ow2, ow6, ap12, ap61, ap62, gA1, gA2, bkr, bel⟩ := hrel
        have cr : wr.cell? ⟨w.heap.size, 2, none⟩ = some (.slice A n c) := bkr.cell 2
        by_cases hlt : k < n
        · have hkx : k < xs.length := by rw [← HN.out]; exact hlt
          obtain ⟨b, off, rfl, hb, q0, hok⟩ := (HA.out.below bel).at_ hkx
          have HTS := hide (table_snoc hkx)
          have HDS := hide (data_snoc hkx)
          have HZ := hide (Sg.flat_take (Sg.dats xs) (k + 1))
          rw [HDS.out, List.length_append, ← ow2.1] at HZ
          have hn1 : n1 ≤ 256 := by have := ow1.1; rw [Sg.length_table, List.length_take, Sg.length_dats] at this; omega
          have hlen := hide hok.1
          have HXb : Hid (∀ w', Below w.heap.size w w' → Byt w' w.heap.size xs[k].A xs[k].d) := fun w' h => ((HA.out.below h).2 _ (List.getElem_mem hkx)).2.2
          obtain ⟨x, hx⟩ : ∃ x, xs[k] = x := ⟨_, rfl⟩
          rw [hx] at q0 HTS HDS HZ hlen HXb
          obtain ⟨xA, xn, xc, xd⟩ := x
          dsimp only at q0 HTS HDS HZ hlen HXb
          clear hx hok
          have hz : n2 + xn ≤ 524288 := by have := HZ.out; have := hlen.out; have := H19.out; omega
          rw [← hlen.out] at HTS
          have i0 : (0 : Int) ≤ (k : Int) := by omega
          have i1 : (k : Int) < (n : Int) := by omega
          go_wp2_with fail
          refine (four4_calls xn wr (by omega)).mono ?_
          rintro e w7 ⟨A7, n7, k7, rfl, o7, g7, b7⟩
          obtain rfl : n7 = 4 := o7.1
          have ow17 := ow1.below b7 ow1.lt
          have ow27 := ow2.below b7 ow2.lt
          have ow67 := ow6.below b7 ow6.lt
          have bk7 := bkr.below b7 bkr.lt
          have bel7 := bnext bel b7
          have q7 : w7.cell? ⟨b, off + k, none⟩ = some (.slice xA xn xc) := (b7.cell (p := ⟨b, off + k, none⟩) (Nat.lt_of_lt_of_le hb bel.size)).trans q0
          have cr7 : w7.cell? ⟨w.heap.size, 2, none⟩ = some (.slice (some ⟨b, off, none⟩) n c) := bk7.cell 2
          go_wp2_with (first
            | (at_builtin; refine wpList_append8 (by rfl) (.tmp 33) (.tmp 40) 31 5 (by rfl) bytesT A1 n1 c1 (Sg.table ((Sg.dats xs).take k)) (by rfl) ow17 w7.heap.size A7 4 k7 (Bx.four xn) (by rfl) o7.byt o7.1 (by omega) ?_; intro A8 c8 w8 own8 grow8 at8; obtain ⟨bk8, bel8, gg8⟩ := af_next bk7 ow17.soft bel7 gA1 (Nat.le_refl _) grow8 at8; have ow28 := ow27.kept grow8 ap12.symm.or; have ow68 := ow67.kept grow8 ap61.or; have ap82 := ap12.moved at8 ow27.lt; have ap68 := (ap61.symm.moved at8 ow67.lt).symm; have cr8 : w8.cell? ⟨w.heap.size, 2, none⟩ = some (.slice (some ⟨b, off, none⟩) n c) := bk8.cell 2; have q8 : w8.cell? ⟨b, off + k, none⟩ = some (.slice xA xn xc) := (World.cell?_of_block (a := ⟨b, off + k, none⟩) (bel8.block b hb)).trans ((World.cell?_of_block (a := ⟨b, off + k, none⟩) (bel7.block b hb)).symm.trans q7))
            | (at_builtin; refine wpList_append8 (by rfl) (.tmp 42) (.tmp 47) 31 5 (by rfl) bytesT A2 n2 c2 ((Sg.dats xs).take k).flatten (by rfl) ow28 w.heap.size xA xn xc xd (by rfl) (HXb.out w8 bel8) hlen.out (by omega) ?_; intro A9 c9 w9 own9 grow9 at9; obtain ⟨bk9, bel9, gg9⟩ := af_next bk8 ow28.soft bel8 gA2 (Nat.le_refl _) grow9 at9; have ow89 := own8.kept grow9 ap82.or; have ow69 := ow68.kept grow9 ap62.or; have ap89 := (ap82.symm.moved at9 own8.lt).symm; have ap69 := (ap62.symm.moved at9 ow68.lt).symm))
          rw [← HTS.out] at ow89
          rw [← HDS.out] at own9
          clear ow17 ow27 ow67 bk7 bel7 q7 cr7 own8 grow8 at8 bk8 bel8 ow28 ow68 cr8 q8 grow9 at9 q0 cr
          go_roundw
          case rel => exact ⟨k + 1, n1 + 4, c8, n2 + xn, c9, A8, A9, by omega, by go_num, rfl, rfl, ow89, own9, ow69, ap89, ap68, ap69, gg8, gg9, bk9, bel9⟩
          case measure => simp [intOf]; omega
        · obtain rfl : n = k := by omega
          have HT := hide (List.take_of_length_le (l := Sg.dats xs) (i := n) (by rw [Sg.length_dats, ← HN.out]; omega))
          rw [HT.out] at ow1 ow2
          clear hlt
          go_wp2_with fail
          have hB := three_boxes ⟨#[104, 101, 97, 100]⟩ ⟨#[116, 97, 98, 108]⟩ ⟨#[100, 97, 116, 97]⟩ A6 A1 A2 (4 + 4 + 4) n1 n2 c6 c1 c2 _ _ _ wr ow6.1 ow1.1 ow2.1 (Bx.own8_max ow6) (Bx.own8_max ow1) (Bx.own8_max ow2) ow6.byt ow1.byt ow2.byt
          have bV : Below wr.heap.size wr (wr.alloc (.cells #[.string ⟨#[104, 101, 97, 100]⟩, .slice A6 (4 + 4 + 4) c6, .string ⟨#[116, 97, 98, 108]⟩, .slice A1 n1 c1, .string ⟨#[100, 97, 116, 97]⟩, .slice A2 n2 c2] 53)) := (Below.refl _ _).alloc (Nat.le_refl _) _
          have HW2 := hide (refseal_calls (some ⟨wr.heap.size, 0, none⟩) 3 3 _ _ rfl (by decide) hB HZ2.out HRB.out)
          have bel8 := bnext bel bV
          clear hB bV
          refine HW2.out.mono ?_
          rintro e w9 ⟨A9, n9, c9, rfl, o9, g9, b9⟩
          go_wp2
          go_ret2
          rw [HE.out.1, HE.out.2, HFI.out]
          exact ⟨_, _, _, rfl, o9, fun g hg => Nat.le_trans bel8.size (g9 g hg), bnext bel8 b9⟩
end Go.Proofs.Ytakglalebjkpeaa.C17
