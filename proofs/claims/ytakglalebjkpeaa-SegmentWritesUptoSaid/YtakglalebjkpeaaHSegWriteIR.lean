/- An init's file, by the contract of the document's function. Conditions: the name's length is a Go length. -/
import Derived.Test.YtakglalebjkpeaaHSegWriteI
import Derived.Test.YtakglalebjkpeaaHLib2
namespace Go.Proofs.Ytakglalebjkpeaa.C17
open Go.RowKit Kin Go.Proofs.Ytakglalebjkpeaa Go.Proofs.Ytakglalebjkpeaa.C16

theorem af_next {w W W' : World} {g : Nat} {t : TypeId} {cs : Array Value} {A A' : Option Addr} {n c : Nat} {l : List UInt8} {e : TypeId} (bk : Blk W g t cs) (_ : OwnF W e A n c l) (bel : Below w.heap.size w W) (gA : ∀ k, blkOf A = some k → g < k) (hg : w.heap.size ≤ g) (grow : W.grownBy W' (blkOf A)) (at1 : blkOf A' = blkOf A ∨ blkOf A' = some W.heap.size) :
    Blk W' g t cs ∧ Below w.heap.size w W' ∧ (∀ k, blkOf A' = some k → g < k) := by
  refine ⟨bk.grown grow (fun e => ?_), bel.grown grow bel.size (fun k hk => ?_), fun k hk => ?_⟩
  · have := gA g e.symm; omega
  · have := gA k hk; omega
  · rcases at1 with e | e
    · exact gA k (by rw [← e]; exact hk)
    · rw [hk] at e; injection e with e; rw [e]; exact bk.lt
theorem some_lt {g a : Nat} (h : g < a) : ∀ k, blkOf (some (⟨a, 0, none⟩ : Addr)) = some k → g < k := by
  intro k hk
  have : a = k := by simpa [blkOf] using hk
  omega

set_option maxRecDepth 100000 in
set_option maxHeartbeats 40000000 in
theorem refwriteI_calls (i : Sg.Ini) (w : World) (ht : i.nm.size ≤ 9223372036854775807) :
    Calls Try.prog 11 #[iniV i] w (C16.RetBE w (Sg.wiL i) (Sg.wiE i)) := by
  have HRC := hide (fun w => refrightI_calls i w ht)
  obtain ⟨t, W, H, G, S, T⟩ := i
  have b0 : Below w.heap.size w (w.alloc (.cells #[.string t, .int .i64 W, .int .i64 H, .int .i64 G, .int .i64 S, .int .i64 T] 25)) := (Below.refl _ _).alloc (Nat.le_refl _) _
  have bk := Blk.new w 25 #[.string t, .int .i64 W, .int .i64 H, .int .i64 G, .int .i64 S, .int .i64 T]
  obtain ⟨c0, c1, c2, c3, c4, c5⟩ := ini_cells bk
  cases hr : Sg.rightI ⟨t, W, H, G, S, T⟩
  · rw [hr] at HRC
    have HE := hide (Sg.wi_no hr)
    clear hr
    go_enter Try.func11, Try.ntmps11
    go_wp2_with fail
    refine (HRC.out _).mono ?_
    rintro e w1 ⟨rfl, b1⟩
    go_wp2
    go_ret2
    rw [HE.out.1, HE.out.2]
    exact ⟨_, _, _, rfl, Own8.nil _ _, by simp [blkOf], b0.trans (b1.mono b0.size)⟩
  · rw [hr] at HRC
    have HE := hide (Sg.wi_yes hr)
    have HRB := hide (Sg.boxI_right hr)
    obtain ⟨⟨_, n8⟩, _, hsq, hS, hT⟩ := Sg.rightI_of hr
    dsimp only at n8 hsq hS hT
    obtain ⟨s, rfl⟩ : ∃ s : Nat, S = (s : Int) := ⟨S.toNat, by omega⟩
    obtain ⟨u, rfl⟩ : ∃ u : Nat, T = (u : Int) := ⟨T.toNat, by omega⟩
    have hs : s ≤ 1048576 := by omega
    have hu : u ≤ 1048576 := by omega
    have HZ := hide (Sg.sizes_boxI ⟨t, W, H, G, (s : Int), (u : Int)⟩)
    have HQL := hide (Sg.seq_len W H G)
    have HQE := hide (Syn.seqE_yes hsq)
    have HX : Hid (Sg.boxI ⟨t, W, H, G, (s : Int), (u : Int)⟩ = [(Sg.kHead, t.data.toList ++ Bx.four s ++ Bx.four u), (Sg.kSequ, Syn.seqL W H G)]) := by
      show [(Sg.kHead, t.data.toList ++ Bx.four (s : Int).toNat ++ Bx.four (u : Int).toNat), (Sg.kSequ, Syn.seqL W H G)] = _
      rw [Int.toNat_natCast, Int.toNat_natCast]
    have HFI : Hid (Sg.fileI ⟨t, W, H, G, (s : Int), (u : Int)⟩ = Sg.sealB (Sg.boxI ⟨t, W, H, G, (s : Int), (u : Int)⟩)) := rfl
    have HZ2 : Hid (Bx.sizes (Sg.boxI ⟨t, W, H, G, (s : Int), (u : Int)⟩) ≤ 900000000) := by have := HQL.out; rw [HZ.out]; dsimp only; exact (by omega : 24 + t.size + (Syn.seqL W H G).length ≤ 900000000)
    clear HZ
    rw [HX.out] at HRB HFI HZ2
    have hcv : ∀ w', Sem.run Try.prog (convert 9 31 (.string t)) w' = .ok (.slice (some ⟨w'.heap.size, 0, none⟩) t.size (convC w' 5 t)) (convW w' 5 t) := fun w' => run_convW bytesT Try.underlying9 t w'
    have H4 := hide (fun w => four4_calls s w (by omega))
    have H5 := hide (fun w => four4_calls u w (by omega))
    clear hr hS hT HX
    go_enter Try.func11, Try.ntmps11
    go_wp2_with fail
    refine (HRC.out _).mono ?_
    rintro e w1 ⟨rfl, b1⟩
    have bk1 := bk.below b1 bk.lt
    have bel1 : Below w.heap.size w w1 := b0.trans (b1.mono b0.size)
    clear c0 c1 c2 c3 c4 c5 b0 b1 bk
    have bkd := bk1.drew
    have beld := bel1.drew
    have bkA := bkd.below (convW_below w1.drew 5 t) bkd.lt
    have ownA := hide (convW_own w1.drew 5 t (by omega))
    have belA := hide (beld.trans ((convW_below w1.drew 5 t).mono beld.size))
    have hzA := hide (convW_size w1.drew 5 t)
    obtain ⟨sa1, sa2⟩ : (convW w1.drew 5 t).cell? ⟨w.heap.size, 0, none⟩ = some (.string t) ∧ (convW w1.drew 5 t).cell? ⟨w.heap.size, 4, none⟩ = some (.int .i64 (s : Int)) := ⟨bkA.cell 0, bkA.cell 4⟩
    obtain ⟨sd1, sd2⟩ : w1.drew.cell? ⟨w.heap.size, 0, none⟩ = some (.string t) ∧ w1.drew.cell? ⟨w.heap.size, 4, none⟩ = some (.int .i64 (s : Int)) := ⟨bkd.cell 0, bkd.cell 4⟩
    go_wp2_with fail
    go_region_law
      (first
        | (go_simp; go_at_call 28; ((with_reducible refine (H4.out (convW w1.drew 5 t)).mono ?_)); rintro e w3 ⟨A3, n3, c3, rfl, o3, g3, b3⟩; obtain rfl : n3 = 4 := o3.1; have bk3 := bkA.below b3 bkA.lt; obtain ⟨s31, s32⟩ : w3.cell? ⟨w.heap.size, 0, none⟩ = some (.string t) ∧ w3.cell? ⟨w.heap.size, 4, none⟩ = some (.int .i64 (s : Int)) := ⟨bk3.cell 0, bk3.cell 4⟩; have own3 := ownA.out.below b3 ownA.out.lt; have bel3 := belA.out.trans (b3.mono belA.out.size); dsimp only)
        | (go_simp; go_at_call 28; ((with_reducible refine (H4.out w1.drew).mono ?_)); rintro e w2 ⟨A3, n3, c3, rfl, o3, g3, b3⟩; obtain rfl : n3 = 4 := o3.1; have bk3 := bkd.below b3 bkd.lt; obtain ⟨s31, s32⟩ : w2.cell? ⟨w.heap.size, 0, none⟩ = some (.string t) ∧ w2.cell? ⟨w.heap.size, 4, none⟩ = some (.int .i64 (s : Int)) := ⟨bk3.cell 0, bk3.cell 4⟩; have own3 := convW_own w2 5 t (by omega); have bel3 := (beld.trans (b3.mono beld.size)).trans ((convW_below w2 5 t).mono (Nat.le_trans beld.size b3.size)); have o3b := o3.below (convW_below w2 5 t) o3.lt; have bk3b := bk3.below (convW_below w2 5 t) bk3.lt; obtain ⟨s33, s34⟩ : (convW w2 5 t).cell? ⟨w.heap.size, 0, none⟩ = some (.string t) ∧ (convW w2 5 t).cell? ⟨w.heap.size, 4, none⟩ = some (.int .i64 (s : Int)) := ⟨bk3b.cell 0, bk3b.cell 4⟩; dsimp only)
        | (refine step_append8f (by rfl) (.tmp 14) (.tmp 17) 31 5 (by rfl) bytesT (some ⟨w1.heap.size, 0, none⟩) t.size (convC w1.drew 5 t) t.data.toList (by rfl) own3 w3.heap.size A3 4 c3 (Bx.four s) (by rfl) o3.byt o3.1 (by decide) (by omega) ?_; intro A4 c4 w4 own4 grow4 at4)
        | (refine step_append8f (by rfl) (.tmp 14) (.tmp 17) 31 5 (by rfl) bytesT (some ⟨w2.heap.size, 0, none⟩) t.size (convC w2 5 t) t.data.toList (by rfl) own3 (convW w2 5 t).heap.size A3 4 c3 (Bx.four s) (by rfl) o3b.byt o3b.1 (by decide) (by omega) ?_; intro A4 c4 w4 own4 grow4 at4))
    all_goals
      obtain ⟨bk4, bel4, g4⟩ := (by first | exact af_next bk3 own3 bel3 (some_lt bk1.lt) (Nat.le_refl _) grow4 at4 | exact af_next bk3b own3 bel3 (some_lt bk3.lt) (Nat.le_refl _) grow4 at4 : Blk w4 w.heap.size 25 #[.string t, .int .i64 W, .int .i64 H, .int .i64 G, .int .i64 (s : Int), .int .i64 (u : Int)] ∧ Below w.heap.size w w4 ∧ (∀ k, blkOf A4 = some k → w.heap.size < k))
      clear own3 grow4 at4 bel3 bk3 o3 g3 b3 ownA belA hzA bkd beld bkA bel1 sa1 sa2 sd1 sd2 s31 s32 hcv
      try clear bk3b
      try clear s33 s34
      try clear o3b
      have c5 : w4.cell? ⟨w.heap.size, 5, none⟩ = some (.int .i64 (u : Int)) := bk4.cell 5
      go_wp2_with fail
      refine (H5.out w4).mono ?_
      rintro e w5 ⟨A5, n5, k5, rfl, o5, g5, b5⟩
      obtain rfl : n5 = 4 := o5.1
      have bk5 := bk4.below b5 bk4.lt
      have own5 := own4.below b5 own4.lt
      have bel5 := bnext bel4 b5
      go_wp2_with (at_builtin; refine wpList_append8f (by rfl) (.tmp 19) (.tmp 22) 31 5 (by rfl) bytesT A4 (t.size + 4) c4 (t.data.toList ++ Bx.four s) (by rfl) own5 w5.heap.size A5 4 k5 (Bx.four u) (by rfl) o5.byt o5.1 (by decide) (by omega) ?_; intro A6 c6 w6 own6 grow6 at6; obtain ⟨bk6, bel6, g6⟩ := af_next bk5 own5 bel5 g4 (Nat.le_refl _) grow6 at6; have d1 : w6.cell? ⟨w.heap.size, 1, none⟩ = some (.int .i64 W) := bk6.cell 1; have d2 : w6.cell? ⟨w.heap.size, 2, none⟩ = some (.int .i64 H) := bk6.cell 2; have d3 : w6.cell? ⟨w.heap.size, 3, none⟩ = some (.int .i64 G) := bk6.cell 3)
      clear own5 own4 grow6 at6 bel5 bk5 bk4 bel4 b5 g5 o5 c5
      refine (C12.refseq_calls W H G w6).mono ?_
      rintro e w7 ⟨A7, n7, c7, rfl, o7, g7, b7⟩
      rw [HQE.out]
      have own7 := own6.below b7 own6.lt
      have bel7 := bnext bel6 b7
      go_wp2_with fail
      have hB := two_boxes ⟨#[104, 101, 97, 100]⟩ ⟨#[115, 101, 113, 117]⟩ A6 A7 (t.size + 4 + 4) n7 c6 c7 _ _ w7 own7.1 o7.1 own7.max (Bx.own8_max o7) own7.byt o7.byt
      have bV : Below w7.heap.size w7 (w7.alloc (.cells #[.string ⟨#[104, 101, 97, 100]⟩, .slice A6 (t.size + 4 + 4) c6, .string ⟨#[115, 101, 113, 117]⟩, .slice A7 n7 c7] 53)) := (Below.refl _ _).alloc (Nat.le_refl _) _
      have HW2 := hide (refseal_calls (some ⟨w7.heap.size, 0, none⟩) 2 2 _ _ rfl (by omega) hB HZ2.out HRB.out)
      have bel8 := bnext bel7 bV
      clear hB bV own6 own7 o7 d1 d2 d3
      generalize w7.alloc (.cells #[.string ⟨#[104, 101, 97, 100]⟩, .slice A6 (t.size + 4 + 4) c6, .string ⟨#[115, 101, 113, 117]⟩, .slice A7 n7 c7] 53) = Y at *
      refine HW2.out.mono ?_
      rintro e w9 ⟨A9, n9, c9, rfl, o9, g9, b9⟩
      go_wp2
      go_ret2
      rw [HE.out.1, HE.out.2, HFI.out]
      exact ⟨_, _, _, rfl, o9, fun g hg => Nat.le_trans bel8.size (g9 g hg), bnext bel8 b9⟩
end Go.Proofs.Ytakglalebjkpeaa.C17
