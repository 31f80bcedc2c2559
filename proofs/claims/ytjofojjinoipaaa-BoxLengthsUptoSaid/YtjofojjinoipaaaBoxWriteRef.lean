/- The document's file of boxes, by its contract. Conditions: the slice reads as boxes, and the file is of at most 2^40 bytes. -/
import Derived.Test.YtjofojjinoipaaaBoxWrite
namespace Go.Proofs.Ytjofojjinoipaaa
open Go.RowKit Kin

set_option maxRecDepth 100000 in
set_option maxHeartbeats 2000000 in
theorem refwrite_calls (A : Option Addr) (n c : Nat) (xs : List Bx.Cel) (w : World) (hn : n = xs.length) (hm : n ≤ 9223372036854775807) (hA : Bx.Boxes w w.heap.size A xs) (hS : Bx.sizes (Bx.boxs xs) ≤ 1099511627776) (hts : ∀ x ∈ xs, x.t.size ≤ 9223372036854775807) :
    Calls Try.prog 10 #[.slice A n c] w (RetBE w (wrL (Bx.boxs xs)) (wrE (Bx.boxs xs))) := by
  have HN := hide hn
  have HS := hide hS
  have HTS := hide hts
  clear hn hS hts
  go_enter Try.func10, Try.ntmps10
  go_wp2
  go_loopw [4, 5] (fun sv iv wr' => ∃ (k n1 c1 : Nat) (A1 : Option Addr), k ≤ n ∧ iv = .int .i64 (k : Int) ∧ sv = .slice A1 n1 c1 ∧ Hid (((Bx.boxs xs).take k).all Bx.rightB = true) ∧ Own8 wr' 5 A1 n1 c1 (Bx.file ((Bx.boxs xs).take k)) ∧ (∀ g, blkOf A1 = some g → w.heap.size ≤ g) ∧ Below w.heap.size w wr') (fun _ iv _ => n - (intOf iv).toNat)
  case atStart => exact ⟨0, 0, 0, none, by omega, rfl, rfl, rfl, Own8.nil _ _, by simp [blkOf], Below.refl _ _⟩
  case round =>
    obtain ⟨k, n1, c1, A1, hk, rfl, rfl, hr, own, gA, bel⟩ := hrel
    by_cases hlt : k < n
    · have hkx : k < xs.length := by rw [← HN.out]; exact hlt
      obtain ⟨b, off, rfl, hb, c0, c1', hok⟩ := hA.at_ hkx
      have hlen := hide hok.1
      have hmx := hok.2.1
      have htx := HTS.out _ (List.getElem_mem hkx)
      unfold maxLen at hmx
      have HA2 : Hid (∀ w', Below w.heap.size w w' → Byt w' w.heap.size xs[k].A xs[k].d) := fun w' hb => ((hA.below hb).2 _ (List.getElem_mem hkx)).2.2
      have HT := hide (Bx.take_boxs xs hkx)
      have HG := hide (Bx.boxs_at xs hkx)
      have HZ := hide (sizes_take (Bx.boxs xs) (k + 1))
      have HL := hide (Bx.length_file ((Bx.boxs xs).take k) hr.out)
      rw [HT.out, sizes_snoc, ← HL.out, ← own.1] at HZ
      obtain ⟨x, hx⟩ : ∃ x, xs[k] = x := ⟨_, rfl⟩
      rw [hx] at c0 c1' hlen HT HG HZ HA2 hmx htx
      obtain ⟨t, xA, xn, xc, xd⟩ := x
      dsimp only at c0 c1' hlen HT HG HZ HA2 hmx htx
      have hz : n1 + (8 + xn) ≤ 1099511627776 := by have := HZ.out; have := hlen.out; have := HS.out; omega
      have HC : Hid (∀ w', Below w.heap.size w w' → w'.cell? ⟨b, off + k * 2, none⟩ = some (.string t) ∧ w'.cell? ⟨b, off + k * 2 + 1, none⟩ = some (.slice xA xn xc)) := fun w' h => ⟨(h.cell (p := ⟨b, off + k * 2, none⟩) hb).trans c0, (h.cell (p := ⟨b, off + k * 2 + 1, none⟩) hb).trans c1'⟩
      clear hx hok c0 c1'
      have HA := hide hA
      clear hA
      have i0 : (0 : Int) ≤ (k : Int) := by omega
      have i1 : (k : Int) < (n : Int) := by omega
      have ⟨k0, k1⟩ := HC.out _ bel
      go_wp2_with fail
      refine (refright_calls t xA xn xc _ hmx htx).mono ?_
      rintro e w2 ⟨rfl, b2⟩
      have bel2 := bel.trans (b2.mono bel.size)
      have own2 := own.below b2 own.lt
      cases hq : Bx.right t xn
      · have HE := hide (wr_no (all_no HG.out (show Bx.rightB (t, xd) = false by unfold Bx.rightB; rw [← hlen.out]; exact hq)))
        clear hq
        go_wp2
        go_ret2
        rw [HE.out.1, HE.out.2]
        exact ⟨_, _, _, rfl, Own8.nil _ _, by simp [blkOf], bel2⟩
      · have HE := hide (all_snoc hr.out (show Bx.rightB (t, xd) = true by unfold Bx.rightB; rw [← hlen.out]; exact hq))
        rw [← HT.out] at HE
        obtain ⟨hr4, hrm⟩ := Bx.right_of hq
        replace hr4 : t.size ≤ 4 := Nat.le_of_eq hr4
        have ⟨k2, k3⟩ := HC.out _ bel2
        have e8 : ((8 + xn : Nat) : Int) = (xn : Int) + 8 := by omega
        have HF := hide (four_calls (8 + xn))
        rw [e8] at HF
        clear hq own bel k0 k1 e8
        go_wp2_with (first
          | (go_at_call 19; refine (HF.out _ (by omega)).mono ?_; rintro e w3 ⟨A3, n3, c3, rfl, o3, g3, b3⟩; have bel3 := bel2.trans (b3.mono bel2.size); have own3 := own2.below b3 own2.lt; have hn3 : n3 ≤ 4 := Nat.le_of_eq o3.1)
          | (at_builtin; refine wpList_append8 (by rfl) (.tmp 20) (.tmp 28) 23 5 (by rfl) bytesT _ _ _ _ (by rfl) own3 _ _ _ _ (Bx.four (8 + xn)) (by rfl) o3.byt o3.1 (by omega) ?_; intro A4 c4 w4 own4 grow4 at4; have F4 := app_nxt own3 bel3 gA grow4 at4; have ⟨k4, k5⟩ := HC.out _ F4.1)
          | (at_builtin; refine wpList_append8s (by rfl) (.tmp 30) (.tmp 35) 23 5 9 (by rfl) bytesT Try.underlying9 _ _ _ _ (by rfl) own4 w.heap.size F4.2 F4.1.size t (by rfl) (by omega) ?_; intro A5 c5 w5 own5 grow5 g5; have F5 := F4.1.grown grow5 F4.1.size F4.2; have ⟨k6, k7⟩ := HC.out _ F5)
          | (at_builtin; refine wpList_append8 (by rfl) (.tmp 37) (.tmp 42) 23 5 (by rfl) bytesT _ _ _ _ (by rfl) own5 _ _ _ _ xd (by rfl) (HA2.out w5 F5) hlen.out (by omega) ?_; intro A6 c6 w6 own6 grow6 at6; have F6 := app_nxt own5 F5 g5 grow6 at6))
        have own7 := own6
        rw [enc_parts _ _ _ hlen.out, ← file_snoc, ← HT.out] at own7
        go_roundw
        case rel => exact ⟨k + 1, _, c6, A6, by omega, by go_num, rfl, HE, own7, F6.2, F6.1⟩
        case measure => simp [intOf]; omega
    · obtain rfl : n = k := by omega
      have HT := hide (List.take_of_length_le (l := Bx.boxs xs) (i := n) (by rw [Bx.length_boxs, ← HN.out]; omega))
      rw [HT.out] at hr own
      have HE := hide (wr_yes hr.out)
      clear hlt
      go_wp2
      go_ret2
      rw [HE.out.1, HE.out.2]
      exact ⟨_, _, _, rfl, own, gA, bel⟩
end Go.Proofs.Ytjofojjinoipaaa
