/- An init's file, by the contracts of the program's and the document's functions. Conditions: the name's length is a Go length. -/
import Derived.Test.YtakglalebjkpeaaHSegSeal
import Derived.Test.YtakglalebjkpeaaHSyn
namespace Go.Proofs.Ytakglalebjkpeaa.C17
open Go.RowKit Kin Go.Proofs.Ytakglalebjkpeaa Go.Proofs.Ytakglalebjkpeaa.C16

theorem two_boxes (k1 k2 : ByteArray) (A1 A2 : Option Addr) (n1 n2 c1 c2 : Nat) (d1 d2 : List UInt8) (w : World) (h1 : n1 = d1.length) (h2 : n2 = d2.length) (m1 : n1 ≤ maxLen) (m2 : n2 ≤ maxLen) (b1 : Byt w w.heap.size A1 d1) (b2 : Byt w w.heap.size A2 d2) :
    Bx.Boxes (w.alloc (.cells #[.string k1, .slice A1 n1 c1, .string k2, .slice A2 n2 c2] 53)) (w.alloc (.cells #[.string k1, .slice A1 n1 c1, .string k2, .slice A2 n2 c2] 53)).heap.size (some ⟨w.heap.size, 0, none⟩) [⟨k1, A1, n1, c1, d1⟩, ⟨k2, A2, n2, c2, d2⟩] := by
  refine Bx.Boxes.newN w _ _ _ (fun x hx => ?_) rfl
  rcases List.mem_cons.1 hx with rfl | hx
  · exact ⟨h1, m1, b1⟩
  · rw [List.mem_singleton.1 hx]; exact ⟨h2, m2, b2⟩

set_option maxRecDepth 100000 in
set_option maxHeartbeats 4000000 in
theorem writeI_calls (i : Sg.Ini) (w : World) (ht : i.nm.size ≤ 9223372036854775807) :
    Calls Try.prog 10 #[iniV i] w (C16.RetBE w (Sg.wiL i) (Sg.wiE i)) := by
  have HRC := hide (fun w => rightI_calls i w ht)
  obtain ⟨t, W, H, G, S, T⟩ := i
  have b0 : Below w.heap.size w (w.alloc (.cells #[.string t, .int .i64 W, .int .i64 H, .int .i64 G, .int .i64 S, .int .i64 T] 25)) := (Below.refl _ _).alloc (Nat.le_refl _) _
  have bk := Blk.new w 25 #[.string t, .int .i64 W, .int .i64 H, .int .i64 G, .int .i64 S, .int .i64 T]
  obtain ⟨c0, c1, c2, c3, c4, c5⟩ := ini_cells bk
  cases hr : Sg.rightI ⟨t, W, H, G, S, T⟩
  · rw [hr] at HRC
    have HE := hide (Sg.wi_no hr)
    clear hr
    go_enter Try.func10, Try.ntmps10
    go_wp2_with fail
    refine (HRC.out _).mono ?_
    rintro e w1 ⟨rfl, b1⟩
    go_wp2
    go_ret2
    rw [HE.out.1, HE.out.2]
    exact ⟨_, _, _, rfl, Own8.nil _ _, by simp [blkOf], b0.trans (b1.mono b0.size)⟩
  · rw [hr] at HRC
    have HE := hide (Sg.wi_yes hr)
    have HRB := hide (Sg.boxI_right hr)
    obtain ⟨⟨_, n8⟩, _, hsq, hS, hT⟩ := Sg.rightI_of hr
    dsimp only at n8 hsq hS hT
    obtain ⟨s, rfl⟩ : ∃ s : Nat, S = (s : Int) := ⟨S.toNat, by omega⟩
    obtain ⟨u, rfl⟩ : ∃ u : Nat, T = (u : Int) := ⟨T.toNat, by omega⟩
    have hs : s ≤ 1048576 := by omega
    have hu : u ≤ 1048576 := by omega
    have HZ := hide (Sg.sizes_boxI ⟨t, W, H, G, (s : Int), (u : Int)⟩)
    have HQL := hide (Sg.seq_len W H G)
    have HQE := hide (Syn.seqE_yes hsq)
    have HX : Hid (Sg.boxI ⟨t, W, H, G, (s : Int), (u : Int)⟩ = [(Sg.kHead, t.data.toList ++ fours [s, u]), (Sg.kSequ, Syn.seqL W H G)]) := by
      show [(Sg.kHead, t.data.toList ++ Bx.four (s : Int).toNat ++ Bx.four (u : Int).toNat), (Sg.kSequ, Syn.seqL W H G)] = _
      rw [Int.toNat_natCast, Int.toNat_natCast, List.append_assoc]
      simp [fours]
    have HFI : Hid (Sg.fileI ⟨t, W, H, G, (s : Int), (u : Int)⟩ = Sg.sealB (Sg.boxI ⟨t, W, H, G, (s : Int), (u : Int)⟩)) := rfl
    have HZ2 : Hid (Bx.sizes (Sg.boxI ⟨t, W, H, G, (s : Int), (u : Int)⟩) ≤ 900000000) := by have := HQL.out; rw [HZ.out]; dsimp only; exact (by omega : 24 + t.size + (Syn.seqL W H G).length ≤ 900000000)
    clear HZ
    rw [HX.out] at HRB HFI HZ2
    clear hr hS hT HX
    go_enter Try.func10, Try.ntmps10
    go_wp2_with fail
    refine (HRC.out _).mono ?_
    rintro e w1 ⟨rfl, b1⟩
    have bk1 := bk.below b1 bk.lt
    clear c0 c1 c2 c3 c4 c5
    obtain ⟨c0, c1, c2, c3, c4, c5⟩ := ini_cells bk1
    go_wp2_with fail
    refine (C12.seq_calls W H G _).mono ?_
    rintro e w2 ⟨A2, n2, k2, rfl, o2, g2, b2⟩
    rw [HQE.out]
    have bk2 := bk1.below b2 bk1.lt
    clear c0 c1 c2 c3 c4 c5
    obtain ⟨c0, c1, c2, c3, c4, c5⟩ := ini_cells bk2
    obtain ⟨cc, hcv, own, bcv, hsz⟩ := run_conv_sb (P := Try.prog) bytesT Try.underlying9 t (by omega) w2
    have HOW := hide own
    have HSZ := hide hsz
    clear hsz
    have q0 := (bcv.cell (p := ⟨w.heap.size, 4, none⟩) bk2.lt).trans c4
    have q1 := (bcv.cell (p := ⟨w.heap.size, 5, none⟩) bk2.lt).trans c5
    have bel2 : Below w.heap.size w w2 := b0.trans ((bnext b1 b2).mono b0.size)
    generalize Lib.bytesWorld w2 5 t = V at *
    go_wp2_with fail
    have vN := Vals.newN V #[.int .i64 (s : Int), .int .i64 (u : Int)] 3 (0, 0) (ints [s, u]) rfl
    have bW : Below V.heap.size V (V.alloc (.cells #[.int .i64 (s : Int), .int .i64 (u : Int)] 3)) := (Below.refl _ _).alloc (Nat.le_refl _) _
    have hz : (V.alloc (.cells #[.int .i64 (s : Int), .int .i64 (u : Int)] 3)).heap.size = V.heap.size + 1 := by simp
    rw [← hz] at vN
    have own3 := HOW.out.below bW HOW.out.lt
    have o3 := (o2.below bcv o2.lt)
    have o4 := o3.below bW o3.lt
    have bel3 := (bel2.trans (bcv.mono bel2.size)).trans (bW.mono (Nat.le_trans bel2.size bcv.size))
    generalize V.alloc (.cells #[.int .i64 (s : Int), .int .i64 (u : Int)] 3) = U at *
    have g2' : ∀ g, blkOf A2 = some g → g < w2.heap.size := o2.lt
    clear o2 o3 own hcv q0 q1 c0 c1 c2 c3 c4 c5
    have p1 : ∀ k ∈ [s, u], k ≤ 4294967295 := by
      intro k hk
      rcases List.mem_cons.1 hk with rfl | hk
      · omega
      · rw [List.mem_singleton.1 hk]; omega
    have p2 : ∀ g, blkOf (some (⟨w2.heap.size, 0, none⟩ : Addr)) = some g → w2.heap.size ≤ g := by
      intro g hg
      have : w2.heap.size = g := by simpa [blkOf] using hg
      omega
    have hsz := HSZ.out
    have p3 : w2.heap.size ≤ U.heap.size := by omega
    have p4 : ∀ b, blkOf (some (⟨V.heap.size, 0, none⟩ : Addr)) = some b → b < U.heap.size ∧ blkOf (some (⟨w2.heap.size, 0, none⟩ : Addr)) ≠ some b := by
      intro b hb
      have hb : V.heap.size = b := by simpa [blkOf] using hb
      refine ⟨by omega, fun e => ?_⟩
      have e : w2.heap.size = b := by simpa [blkOf] using e
      omega
    have p5 : t.size ≤ 1099511627776 := by omega
    have HF := hide (fields_calls (some ⟨w2.heap.size, 0, none⟩) (some ⟨V.heap.size, 0, none⟩) t.size cc 2 2 t.data.toList [s, u] U w2.heap.size rfl (by decide) p5 p1 own3 p2 p3 vN p4)
    clear hsz
    refine HF.out.mono ?_
    rintro e w3 ⟨A3, n3, k3, rfl, o5, g5, b5⟩
    have o6 := o4.below b5 g2'
    go_wp2_with fail
    have hB := two_boxes ⟨#[104, 101, 97, 100]⟩ ⟨#[115, 101, 113, 117]⟩ A3 A2 n3 n2 k3 k2 _ _ w3 o5.1 o6.1 o5.max (Bx.own8_max o6) o5.byt o6.byt
    have bV : Below w3.heap.size w3 (w3.alloc (.cells #[.string ⟨#[104, 101, 97, 100]⟩, .slice A3 n3 k3, .string ⟨#[115, 101, 113, 117]⟩, .slice A2 n2 k2] 53)) := (Below.refl _ _).alloc (Nat.le_refl _) _
    have HW2 := hide (seal_calls (some ⟨w3.heap.size, 0, none⟩) 2 2 _ _ rfl (by omega) hB HZ2.out HRB.out)
    have bel4 := (bel3.trans (b5.mono (by have := bel2.size; omega)))
    have bel5 := bel4.trans (bV.mono bel4.size)
    clear hB bV
    generalize w3.alloc (.cells #[.string ⟨#[104, 101, 97, 100]⟩, .slice A3 n3 k3, .string ⟨#[115, 101, 113, 117]⟩, .slice A2 n2 k2] 53) = Y at *
    refine HW2.out.mono ?_
    rintro e w5 ⟨A5, n5, c5, rfl, o7, g7, b7⟩
    go_wp2
    go_ret2
    rw [HE.out.1, HE.out.2, HFI.out]
    exact ⟨_, _, _, rfl, o7, fun g hg => Nat.le_trans bel5.size (g7 g hg), bel5.trans (b7.mono bel5.size)⟩
end Go.Proofs.Ytakglalebjkpeaa.C17
