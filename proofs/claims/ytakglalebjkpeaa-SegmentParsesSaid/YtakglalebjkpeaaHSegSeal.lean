/- Samples in one (slices.Concat, slices.Grow), a file with its sum, and whether a file has it, by their contracts. Conditions: at most 2^30 bytes in all. -/
import Derived.Test.YtakglalebjkpeaaHSegMem
import Derived.Test.YtakglalebjkpeaaHCrc
import Derived.Test.YtakglalebjkpeaaHBox
import Derived.Test.YtakglalebjkpeaaHLib
namespace Kin
open Go Go.RowKit
theorem Own8.cut0 {w : World} {e : TypeId} {A : Option Addr} {n c : Nat} {l : List UInt8} (h : Own8 w e A n c l) : Own8 w e A 0 c [] := by
  refine ⟨rfl, by simp [B8], ?_⟩
  rcases h.2.2 with ⟨hv, hn⟩ | ⟨g, cap, cur, hv, h1, h2, h3, h4, h5, h6⟩
  · injection hv with hA _ hc
    subst hA hc
    exact .inl ⟨rfl, rfl⟩
  · injection hv with hA _ hc
    subst hA hc
    exact .inr ⟨g, c, cur, rfl, h1, h2, Nat.zero_le _, h4, h5, by simp [B8]⟩
theorem Recs.newN (w : World) (cs : Array Value) (e : TypeId) (fr : Nat × Nat) (k : Nat) (rows : List (List Value)) (hk : ∀ r ∈ rows, r.length = k) (h : cs.toList = rows.flatten) : Recs (w.alloc (.cells cs e fr)) (w.heap.size + 1) k (some ⟨w.heap.size, 0, none⟩) rows := fun _ =>
  ⟨w.heap.size, 0, rfl, by omega, fun i row hi => ⟨hk row (List.mem_of_getElem? hi), fun j v hj => by
    have hjk : j < k := by rw [← hk row (List.mem_of_getElem? hi)]; exact (List.getElem?_eq_some_iff.1 hj).1
    rw [cell_of_row _ _ _ cs e fr (heap_alloc_new w _)]
    have h2 := flatten_at rows hk i j row hi hjk
    rw [← h, hj] at h2
    rw [Nat.zero_add]
    simpa using h2⟩⟩
theorem Vals.newN (w : World) (cs : Array Value) (e : TypeId) (fr : Nat × Nat) (xs : List Value) (h : cs.toList = xs) : Vals (w.alloc (.cells cs e fr)) (w.heap.size + 1) (some ⟨w.heap.size, 0, none⟩) xs := fun _ =>
  ⟨w.heap.size, 0, rfl, by omega, fun j v hj => by
    rw [cell_of_row _ _ _ cs e fr (heap_alloc_new w _)]
    rw [← h] at hj
    rw [Nat.zero_add]
    simpa using hj⟩
end Kin
namespace Bx
open Go Go.RowKit Kin
theorem Boxes.newN (w : World) (cs : Array Value) (t : TypeId) (xs : List Cel) (hx : ∀ x ∈ xs, x.ok w w.heap.size) (h : cs.toList = (xs.map Cel.row).flatten) : Boxes (w.alloc (.cells cs t)) (w.alloc (.cells cs t)).heap.size (some ⟨w.heap.size, 0, none⟩) xs := by
  have hs : (w.alloc (.cells cs t)).heap.size = w.heap.size + 1 := by simp
  rw [hs]
  refine ⟨Recs.newN w cs t (0, 0) 2 _ (fun r hr => by obtain ⟨x, _, rfl⟩ := List.mem_map.1 hr; rfl) h, fun x hm => ?_⟩
  exact ((hx x hm).below ((Below.refl _ _).alloc (Nat.le_refl _) _)).more (by omega)
end Bx

namespace Go.Proofs.Ytakglalebjkpeaa.C17
open Go.RowKit Kin Go.Proofs.Ytakglalebjkpeaa Go.Proofs.Ytakglalebjkpeaa.C16

set_option maxRecDepth 100000 in
set_option maxHeartbeats 2000000 in
theorem grow8_calls (n : Nat) (w : World) (h0 : 0 < n) (hn : n ≤ 1099511627776) : Calls Try.prog 54 #[.slice none 0 0, .int .i64 (n : Int)] w fun e w' => ∃ A c, e = .returned (.slice A 0 c) ∧ Own8 w' 5 A 0 c [] ∧ (∀ g, blkOf A = some g → w.heap.size ≤ g) ∧ Below w.heap.size w w' := by
  have hs1 : ∀ w', Sem.run Try.prog (Instr.sliceAt 31 (.slice none 0 0) none (some (.int .i64 0)) none) w' = .ok (.slice none 0 0) w' := fun w' => run_cut8h bytesT none 0 0 .i64 0 0 rfl (Nat.le_refl _) w'
  have hs2 : ∀ (A : Option Addr) (m c : Nat) w', Sem.run Try.prog (Instr.sliceAt 31 (.slice A m c) none (some (.int .i64 0)) none) w' = .ok (.slice A 0 c) w' := fun A m c w' => run_cut8h bytesT A m c .i64 0 0 rfl (Nat.zero_le _) w'
  have d0 : decide ((n : Int) < 0) = false := by simp
  have i0 : (0 : Int) < (n : Int) := by omega
  go_enter Try.func54, Try.ntmps54
  go_wp2_with (at_builtin; refine wpList_append8z (by rfl) (.tmp 20) (.tmp 21) 31 5 3 (by rfl) bytesT .i64 Try.underlying3 _ _ _ [] (by rfl) (Own8.nil w 5) .i64 _ n (by rfl) rfl (by omega) ?_; intro A1 c1 w1 own1 grow1 at1)
  go_ret
  refine ⟨A1, c1, rfl, own1.cut0, ?_, (Below.refl _ _).grown grow1 (Nat.le_refl _) (by simp [blkOf])⟩
  intro g hg
  rcases at1 with e | e
  · rw [hg] at e; simp [blkOf] at e
  · rw [hg] at e; injection e with e; omega

set_option maxRecDepth 100000 in
set_option maxHeartbeats 2000000 in
theorem concat8_calls (A : Option Addr) (n c : Nat) (xs : List Sg.Smp) (w : World) (hn : n = xs.length) (hm : n ≤ 9223372036854775807) (hA : Sg.Samps w w.heap.size A xs) (hT : (Sg.dats xs).flatten.length ≤ 1099511627776) (h0 : 0 < (Sg.dats xs).flatten.length) :
    Calls Try.prog 31 #[.slice A n c] w (C16.RetBytes w (Sg.dats xs).flatten) := by
  have HN := hide hn
  have HT := hide hT
  have H0 := hide h0
  clear hn hT h0
  go_enter Try.func31, Try.ntmps31
  go_wp2
  go_loop [3, 11] (fun sv iv => ∃ k s : Nat, k ≤ n ∧ iv = .int .i64 (k : Int) ∧ sv = .int .i64 (s : Int) ∧ Hid (s = ((Sg.dats xs).take k).flatten.length) ∧ s ≤ 1099511627776) (fun _ iv => n - (intOf iv).toNat)
  case atStart => exact ⟨0, 0, by omega, rfl, rfl, rfl, by omega⟩
  case round =>
    obtain ⟨k, s, hk, rfl, rfl, hs, hs2⟩ := hrel
    by_cases hlt : k < n
    · have hkx : k < xs.length := by rw [← HN.out]; exact hlt
      obtain ⟨b, off, rfl, hb, c3, hok⟩ := hA.at_ hkx
      have hlen := hide hok.1
      have HK := hide (Sg.take_dats xs hkx)
      have HZ := hide (Sg.flat_take (Sg.dats xs) (k + 1))
      rw [HK.out, Sg.flat_snoc, ← hs.out] at HZ
      generalize hx : xs[k] = x at *
      obtain ⟨xA, xn, xc, xd⟩ := x
      dsimp only at c3 hlen HK HZ
      clear hx hok
      have hz : s + xn ≤ 1099511627776 := by have := HZ.out; have := hlen.out; have := HT.out; omega
      have i0 : (0 : Int) ≤ (k : Int) := by omega
      have i1 : (k : Int) < (n : Int) := by omega
      have i2 : ¬ ((s : Int) + (xn : Int) < 0) := by omega
      have HA := hide hA
      clear hA
      go_wp2
      go_round
      case rel => exact ⟨k + 1, s + xn, by omega, by go_num, by go_num, by rw [HK.out, Sg.flat_snoc, ← hs.out, hlen.out]; exact rfl, by omega⟩
      case measure => simp [intOf]; omega
    · obtain rfl : n = k := by omega
      have HTK := hide (List.take_of_length_le (l := Sg.dats xs) (i := n) (by rw [Sg.length_dats, ← HN.out]; omega))
      rw [HTK.out] at hs
      have hs0 : 0 < s := by rw [hs.out]; exact H0.out
      clear hlt
      go_wp2_with fail
      refine (grow8_calls s _ hs0 hs2).mono ?_
      rintro e w1 ⟨A4, c4, rfl, o4, g4, b4⟩
      go_wp2
      go_loopw [6, 27] (fun sv iv wr => ∃ (k m cc : Nat) (AA : Option Addr), k ≤ n ∧ iv = .int .i64 (k : Int) ∧ sv = .slice AA m cc ∧ Own8 wr 5 AA m cc ((Sg.dats xs).take k).flatten ∧ (∀ q, blkOf AA = some q → w.heap.size ≤ q) ∧ Below w.heap.size w wr) (fun _ iv _ => n - (intOf iv).toNat)
      case atStart => exact ⟨0, 0, c4, A4, by omega, rfl, rfl, o4, g4, b4⟩
      case round =>
        obtain ⟨k, m, cc, AA, hk', rfl, rfl, own, gA, bel⟩ := hrel
        by_cases hlt : k < n
        · have hkx : k < xs.length := by rw [← HN.out]; exact hlt
          obtain ⟨b, off, rfl, hb, c3, hok⟩ := (hA.below bel).at_ hkx
          have hlen := hide hok.1
          have HBy := hide hok.2.2
          have HK := hide (Sg.take_dats xs hkx)
          have HZ := hide (Sg.flat_take (Sg.dats xs) (k + 1))
          rw [HK.out, Sg.flat_snoc, ← own.1] at HZ
          generalize hx : xs[k] = x at *
          obtain ⟨xA, xn, xc, xd⟩ := x
          dsimp only at c3 hlen HK HZ HBy
          clear hx hok
          have hz : m + xn ≤ 1099511627776 := by have := HZ.out; have := hlen.out; have := HT.out; omega
          have i0 : (0 : Int) ≤ (k : Int) := by omega
          have i1 : (k : Int) < (n : Int) := by omega
          have HA := hide hA
          clear hA
          go_wp2_with (at_builtin; refine wpList_append8 (by rfl) (.tmp 31) (.tmp 32) 31 5 (by rfl) bytesT _ _ _ _ (by rfl) own _ _ _ _ xd (by rfl) HBy.out hlen.out (by omega) ?_; intro A5 c5 w5 own5 grow5 at5)
          have F5 := app_nxt own bel gA grow5 at5
          have own6 := own5
          rw [show ((Sg.dats xs).take k).flatten ++ xd = ((Sg.dats xs).take (k + 1)).flatten by rw [HK.out]; simp] at own6
          go_roundw
          case rel => exact ⟨k + 1, _, c5, A5, by omega, by go_num, rfl, own6, F5.2, F5.1⟩
          case measure => simp [intOf]; omega
        · obtain rfl : n = k := by omega
          rw [HTK.out] at own
          clear hlt
          go_wp2
          go_ret
          exact ⟨_, _, _, rfl, own, gA, bel⟩

theorem wr_last (L : List Bx.Box) : C16.wrL [Sg.sumB L] = Bx.file [Sg.sumB L] ∧ C16.wrE [Sg.sumB L] = 0 := C16.wr_yes (by simp [Sg.rSum])

set_option maxRecDepth 100000 in
set_option maxHeartbeats 4000000 in
theorem seal_calls (A : Option Addr) (n c : Nat) (xs : List Bx.Cel) (w : World) (hn : n = xs.length) (hm : n ≤ 9223372036854775807) (hA : Bx.Boxes w w.heap.size A xs) (hS : Bx.sizes (Bx.boxs xs) ≤ 900000000) (hr : (Bx.boxs xs).all Bx.rightB = true) :
    Calls Try.prog 26 #[.slice A n c] w (C16.RetBE w (Sg.sealB (Bx.boxs xs)) 0) := by
  have HW := hide (C16.write_calls A n c xs w hn hm hA (by omega))
  rw [(C16.wr_yes hr).1, (C16.wr_yes hr).2] at HW
  have HLF := hide (Bx.length_file _ hr)
  have HS := hide hS
  have HL := hide (Sg.length_last (Bx.boxs xs))
  have HE : Hid (Sg.sealB (Bx.boxs xs) = Bx.file (Bx.boxs xs) ++ Bx.file [Sg.sumB (Bx.boxs xs)]) := rfl
  have HWL := hide (wr_last (Bx.boxs xs))
  have HSM : Hid (Sg.sumB (Bx.boxs xs) = (Sg.kSumm, Bx.four (Crc.sum (Bx.file (Bx.boxs xs))))) := rfl
  clear hn hS hr hA
  generalize Bx.boxs xs = L at *
  go_enter Try.func26, Try.ntmps26
  go_wp2_with fail
  refine HW.out.mono ?_
  rintro e w1 ⟨A1, n1, c1, rfl, o1, g1, b1⟩
  have hn1 : n1 ≤ 900000000 := by rw [o1.1, HLF.out]; exact HS.out
  go_wp2_with fail
  refine (C3.sum_calls A1 n1 _ c1 w1 o1.1 (by rw [← o1.1]; omega) o1.byt).mono ?_
  rintro e w2 ⟨rfl, b2⟩
  have hs := Crc.sum_lt (Bx.file L)
  generalize hsv : Crc.sum (Bx.file L) = s at *
  have o2 := o1.below b2 o1.lt
  go_wp2_with fail
  have vN := Vals.newN w2 #[.int .i64 (s : Int)] 3 (0, 0) (ints [s]) rfl
  have bW : Below w2.heap.size w2 (w2.alloc (.cells #[.int .i64 (s : Int)] 3)) := (Below.refl _ _).alloc (Nat.le_refl _) _
  have hz : (w2.alloc (.cells #[.int .i64 (s : Int)] 3)).heap.size = w2.heap.size + 1 := by simp
  rw [← hz] at vN
  have o3 := o2.below bW o2.lt
  generalize w2.alloc (.cells #[.int .i64 (s : Int)] 3) = W at *
  refine (fields_calls none (some ⟨w2.heap.size, 0, none⟩) 0 0 1 1 [] [s] W W.heap.size rfl (by omega) (by omega) (by intro k hk; rw [List.mem_singleton.1 hk]; omega) (OwnF.nil _ _) (by simp [blkOf]) (Nat.le_refl _) vN (by intro b hb; simp [blkOf] at hb; refine ⟨by omega, by simp [blkOf]⟩)).mono ?_
  rintro e w3 ⟨A3, n3, c3, rfl, o4, g4, b4⟩
  rw [List.nil_append, show fours [s] = Bx.four s by simp [fours]] at o4
  go_wp2_with fail
  have hx : ∀ x ∈ [(⟨Sg.kSumm, A3, n3, c3, Bx.four s⟩ : Bx.Cel)], x.ok w3 w3.heap.size := by
    intro x hx
    rw [List.mem_singleton.1 hx]
    exact ⟨o4.1, o4.max, o4.byt⟩
  have hB := Bx.Boxes.newN w3 #[.string ⟨#[115, 117, 109, 109]⟩, .slice A3 n3 c3] 53 _ hx rfl
  have bV : Below w3.heap.size w3 (w3.alloc (.cells #[.string ⟨#[115, 117, 109, 109]⟩, .slice A3 n3 c3] 53)) := (Below.refl _ _).alloc (Nat.le_refl _) _
  have HW2 := hide (C16.write_calls (some ⟨w3.heap.size, 0, none⟩) 1 1 _ _ rfl (by omega) hB (by simp [Bx.boxs, Bx.Cel.box, Bx.sizes, Bx.length_four]))
  have eB : Bx.boxs [(⟨Sg.kSumm, A3, n3, c3, Bx.four s⟩ : Bx.Cel)] = [Sg.sumB L] := by rw [HSM.out]; rfl
  rw [eB, HWL.out.1, HWL.out.2] at HW2
  have o5 := (o3.below b4 o3.lt)
  have o6 := o5.below bV o5.lt
  have bel := bnext (bnext (bnext (bnext b1 b2) bW) b4) bV
  clear hx hB eB vN o1 o2 o3 o4 o5
  generalize w3.alloc (.cells #[.string ⟨#[115, 117, 109, 109]⟩, .slice A3 n3 c3] 53) = V at *
  refine HW2.out.mono ?_
  rintro e w5 ⟨A5, n5, c5, rfl, o7, g7, b7⟩
  have o8 := o6.below b7 o6.lt
  have bel2 := bnext bel b7
  have hn5 : n5 ≤ 100 := by rw [o7.1, HL.out]; omega
  go_wp2_with (at_builtin; refine wpList_append8 (by rfl) (.tmp 27) (.tmp 28) 31 5 (by rfl) bytesT _ _ _ _ (by rfl) o8 _ _ _ _ _ (by rfl) o7.byt o7.1 (by omega) ?_; intro A6 c6 w6 own6 grow6 at6)
  have F6 := app_nxt o8 bel2 g1 grow6 at6
  go_ret2
  rw [HE.out]
  exact ⟨_, _, _, rfl, own6, F6.2, F6.1⟩

set_option maxRecDepth 100000 in
set_option maxHeartbeats 4000000 in
theorem refseal_calls (A : Option Addr) (n c : Nat) (xs : List Bx.Cel) (w : World) (hn : n = xs.length) (hm : n ≤ 9223372036854775807) (hA : Bx.Boxes w w.heap.size A xs) (hS : Bx.sizes (Bx.boxs xs) ≤ 900000000) (hr : (Bx.boxs xs).all Bx.rightB = true) :
    Calls Try.prog 30 #[.slice A n c] w (C16.RetBytes w (Sg.sealB (Bx.boxs xs))) := by
  have hts : ∀ x ∈ xs, x.t.size ≤ 9223372036854775807 := fun x hx => by
    have := List.all_eq_true.1 hr x.box (List.mem_map.2 ⟨x, hx, rfl⟩)
    have := (Bx.right_of this).1
    simp only [Bx.Cel.box] at this
    omega
  have HW := hide (C16.refwrite_calls A n c xs w hn hm hA (by omega) hts)
  rw [(C16.wr_yes hr).1, (C16.wr_yes hr).2] at HW
  have HLF := hide (Bx.length_file _ hr)
  have HS := hide hS
  have HL := hide (Sg.length_last (Bx.boxs xs))
  have HE : Hid (Sg.sealB (Bx.boxs xs) = Bx.file (Bx.boxs xs) ++ Bx.file [Sg.sumB (Bx.boxs xs)]) := rfl
  have HWL := hide (wr_last (Bx.boxs xs))
  have HSM : Hid (Sg.sumB (Bx.boxs xs) = (Sg.kSumm, Bx.four (Crc.sum (Bx.file (Bx.boxs xs))))) := rfl
  clear hn hS hr hA hts
  generalize Bx.boxs xs = L at *
  go_enter Try.func30, Try.ntmps30
  go_wp2_with fail
  refine HW.out.mono ?_
  rintro e w1 ⟨A1, n1, c1, rfl, o1, g1, b1⟩
  have hn1 : n1 ≤ 900000000 := by rw [o1.1, HLF.out]; exact HS.out
  go_wp2_with fail
  refine (C3.refSum_calls A1 n1 c1 _ w1 o1.1 (by omega) o1.byt).mono ?_
  rintro e w2 ⟨rfl, b2⟩
  have hs := Crc.sum_lt (Bx.file L)
  generalize hsv : Crc.sum (Bx.file L) = s at *
  have o2 := o1.below b2 o1.lt
  go_wp2_with fail
  refine (four4_calls s w2 (by omega)).mono ?_
  rintro e w3 ⟨A3, n3, c3, rfl, o4, g4, b4⟩
  go_wp2_with fail
  have hx : ∀ x ∈ [(⟨Sg.kSumm, A3, n3, c3, Bx.four s⟩ : Bx.Cel)], x.ok w3 w3.heap.size := by
    intro x hx
    rw [List.mem_singleton.1 hx]
    exact ⟨o4.1, Bx.own8_max o4, o4.byt⟩
  have hB := Bx.Boxes.newN w3 #[.string ⟨#[115, 117, 109, 109]⟩, .slice A3 n3 c3] 53 _ hx rfl
  have bV : Below w3.heap.size w3 (w3.alloc (.cells #[.string ⟨#[115, 117, 109, 109]⟩, .slice A3 n3 c3] 53)) := (Below.refl _ _).alloc (Nat.le_refl _) _
  have HW2 := hide (C16.refwrite_calls (some ⟨w3.heap.size, 0, none⟩) 1 1 _ _ rfl (by omega) hB (by simp [Bx.boxs, Bx.Cel.box, Bx.sizes, Bx.length_four]) (by intro x hx; rw [List.mem_singleton.1 hx]; show Sg.kSumm.size ≤ _; decide))
  have eB : Bx.boxs [(⟨Sg.kSumm, A3, n3, c3, Bx.four s⟩ : Bx.Cel)] = [Sg.sumB L] := by rw [HSM.out]; rfl
  rw [eB, HWL.out.1, HWL.out.2] at HW2
  have o5 := (o2.below b4 o2.lt)
  have o6 := o5.below bV o5.lt
  have bel := bnext (bnext (bnext b1 b2) b4) bV
  clear hx hB eB o1 o2 o4 o5
  generalize w3.alloc (.cells #[.string ⟨#[115, 117, 109, 109]⟩, .slice A3 n3 c3] 53) = V at *
  refine HW2.out.mono ?_
  rintro e w5 ⟨A5, n5, c5, rfl, o7, g7, b7⟩
  have o8 := o6.below b7 o6.lt
  have bel2 := bnext bel b7
  have hn5 : n5 ≤ 100 := by rw [o7.1, HL.out]; omega
  go_wp2_with (at_builtin; refine wpList_append8 (by rfl) (.tmp 24) (.tmp 25) 31 5 (by rfl) bytesT _ _ _ _ (by rfl) o8 _ _ _ _ _ (by rfl) o7.byt o7.1 (by omega) ?_; intro A6 c6 w6 own6 grow6 at6)
  have F6 := app_nxt o8 bel2 g1 grow6 at6
  go_ret
  rw [HE.out]
  exact ⟨_, _, _, rfl, own6, F6.2, F6.1⟩
end Go.Proofs.Ytakglalebjkpeaa.C17
