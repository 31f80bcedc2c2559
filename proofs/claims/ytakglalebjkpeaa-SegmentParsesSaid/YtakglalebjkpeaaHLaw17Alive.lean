/- The live question of the segments' statements: it answers true. No conditions. -/
import Derived.Test.YtakglalebjkpeaaHSegParseMW
import Derived.Test.YtakglalebjkpeaaHSegSealed
import Derived.Lib.SlBytesConst
namespace Go.Proofs.Ytakglalebjkpeaa.C17
open Go.RowKit Kin Go.Proofs.Ytakglalebjkpeaa Go.Proofs.Ytakglalebjkpeaa.C16

abbrev liveI : Sg.Ini := ⟨⟨#[104, 105]⟩, 16, 16, 2, 30, 1⟩
abbrev liveM : Sg.Med := ⟨3, 6, [[97, 98], [99]]⟩
theorem live_i : Sg.rightI liveI = true ∧ (Sg.fileI liveI).length = 41 := by
  have h : Sg.rightI liveI = true := by decide +kernel
  refine ⟨h, ?_⟩
  unfold Sg.fileI
  rw [Sg.length_seal (Sg.boxI_right h), Sg.sizes_boxI]
  have : (Syn.seqL liveI.W liveI.H liveI.G).length = 3 := by decide +kernel
  rw [this]
  rfl
theorem live_m : Sg.rightM liveM = true ∧ (Sg.fileM liveM).length = 59 := by
  have h : Sg.rightM liveM = true := by decide +kernel
  refine ⟨h, ?_⟩
  unfold Sg.fileM
  rw [Sg.length_seal (Sg.boxM_right h), Sg.sizes_boxM]
  rfl
theorem two_of {xs : List Sg.Smp} {a b : List UInt8} (h : Sg.dats xs = [a, b]) : ∃ x y, xs = [x, y] ∧ x.d = a ∧ y.d = b := by
  match xs, h with
  | [x, y], h =>
    simp [Sg.dats] at h
    exact ⟨x, y, rfl, h.1, h.2⟩

set_option maxRecDepth 100000 in
set_option maxHeartbeats 4000000 in
theorem alive17_calls (w : World) : Calls Try.prog 9 #[] w (C16.RetBool w true) := by
  have hQ := writeI_calls liveI w (by decide)
  rw [(Sg.wi_yes live_i.1).1, (Sg.wi_yes live_i.1).2] at hQ
  have HL := hide live_i.2
  have HSL := hide (Sg.pi_back live_i.1).2.2
  generalize Sg.fileI liveI = L at *
  go_enter Try.func9, Try.ntmps9
  go_wp2_with fail
  refine hQ.mono ?_
  rintro e w1 ⟨A1, n1, c1, rfl, o1, g1, b1⟩
  have hn1 : n1 = 41 := by rw [o1.1]; exact HL.out
  subst hn1
  clear hQ
  have kc1 := Lib.run_convert_bytes_const (P := Try.prog) w1 31 5 #[.int .u8 97, .int .u8 98] 2 2 Try.underlying31 Try.underlying5
  have kc2 := Lib.run_convert_bytes_const (P := Try.prog) (w1.alloc (.cells #[.int .u8 97, .int .u8 98] 5 (2, 3))) 31 5 #[.int .u8 99] 1 1 Try.underlying31 Try.underlying5
  rw [World.size_alloc] at kc2
  have y1 := Byt.new w1 #[.int .u8 97, .int .u8 98] 5 (2, 3) [97, 98] rfl
  have e1 : Below w1.heap.size w1 (w1.alloc (.cells #[.int .u8 97, .int .u8 98] 5 (2, 3))) := (Below.refl _ _).alloc (Nat.le_refl _) _
  have z1 : (w1.alloc (.cells #[.int .u8 97, .int .u8 98] 5 (2, 3))).heap.size = w1.heap.size + 1 := World.size_alloc _ _
  have y2 := Byt.new (w1.alloc (.cells #[.int .u8 97, .int .u8 98] 5 (2, 3))) #[.int .u8 99] 5 (1, 2) [99] rfl
  have e2 : Below (w1.alloc (.cells #[.int .u8 97, .int .u8 98] 5 (2, 3))).heap.size (w1.alloc (.cells #[.int .u8 97, .int .u8 98] 5 (2, 3))) ((w1.alloc (.cells #[.int .u8 97, .int .u8 98] 5 (2, 3))).alloc (.cells #[.int .u8 99] 5 (1, 2))) := (Below.refl _ _).alloc (Nat.le_refl _) _
  have z2 : ((w1.alloc (.cells #[.int .u8 97, .int .u8 98] 5 (2, 3))).alloc (.cells #[.int .u8 99] 5 (1, 2))).heap.size = w1.heap.size + 1 + 1 := by rw [World.size_alloc, z1]
  rw [z1] at y2 e2
  have y1' := y1.below e2
  generalize hV : (w1.alloc (.cells #[.int .u8 97, .int .u8 98] 5 (2, 3))).alloc (.cells #[.int .u8 99] 5 (1, 2)) = V at *
  have vS := Vals.newN V #[.slice (some ⟨w1.heap.size, 0, none⟩) 2 2, .slice (some ⟨w1.heap.size + 1, 0, none⟩) 1 1] 31 (0, 0) [.slice (some ⟨w1.heap.size, 0, none⟩) 2 2, .slice (some ⟨w1.heap.size + 1, 0, none⟩) 1 1] rfl
  have e3 : Below V.heap.size V (V.alloc (.cells #[.slice (some ⟨w1.heap.size, 0, none⟩) 2 2, .slice (some ⟨w1.heap.size + 1, 0, none⟩) 1 1] 31)) := (Below.refl _ _).alloc (Nat.le_refl _) _
  have z3 : (V.alloc (.cells #[.slice (some ⟨w1.heap.size, 0, none⟩) 2 2, .slice (some ⟨w1.heap.size + 1, 0, none⟩) 1 1] 31)).heap.size = w1.heap.size + 1 + 1 + 1 := by rw [World.size_alloc, z2]
  have y1'' := y1'.below (e3.mono (by omega))
  have y2'' := y2.below (e3.mono (by omega))
  have bel3 : Below w1.heap.size w1 (V.alloc (.cells #[.slice (some ⟨w1.heap.size, 0, none⟩) 2 2, .slice (some ⟨w1.heap.size + 1, 0, none⟩) 1 1] 31)) := (e1.trans (e2.mono (by omega))).trans (e3.mono (by omega))
  have hB := bnext b1 bel3
  have o3 := o1.below bel3 o1.lt
  subst hV
  have hS : Sg.Samps (((w1.alloc (.cells #[.int .u8 97, .int .u8 98] 5 (2, 3))).alloc (.cells #[.int .u8 99] 5 (1, 2))).alloc (.cells #[.slice (some ⟨w1.heap.size, 0, none⟩) 2 2, .slice (some ⟨w1.heap.size + 1, 0, none⟩) 1 1] 31)) (w1.heap.size + 1 + 1 + 1) (some ⟨w1.heap.size + 1 + 1, 0, none⟩) [⟨some ⟨w1.heap.size, 0, none⟩, 2, 2, [97, 98]⟩, ⟨some ⟨w1.heap.size + 1, 0, none⟩, 1, 1, [99]⟩] := by
    rw [z2] at vS
    refine ⟨vS, fun x hx => ?_⟩
    rcases List.mem_cons.1 hx with rfl | hx
    · exact ⟨rfl, Nat.le_refl _, y1''.more (by omega)⟩
    · rw [List.mem_singleton.1 hx]; exact ⟨rfl, Nat.le_refl _, y2''.more (by omega)⟩
  rw [← z3] at hS
  have hW := writeM_calls 3 6 (some ⟨w1.heap.size + 1 + 1, 0, none⟩) 2 2 _ _ rfl (by decide) hS (by show ([[97, 98], [99]] : List (List UInt8)).flatten.length ≤ _; decide)
  have eD : Sg.dats [(⟨some ⟨w1.heap.size, 0, none⟩, 2, 2, [97, 98]⟩ : Sg.Smp), ⟨some ⟨w1.heap.size + 1, 0, none⟩, 1, 1, [99]⟩] = [[97, 98], [99]] := rfl
  rw [eD, (Sg.wm_yes live_m.1).1, (Sg.wm_yes live_m.1).2] at hW
  have HL2 := hide live_m.2
  have HPB := hide (Sg.pm_back live_m.1)
  generalize Sg.fileM liveM = L2 at *
  clear y1 y2 y1' y1'' y2'' e1 e2 e3 z1 z2 z3 vS eD hS o1 b1 bel3
  go_wp2_with fail
  generalize ((w1.alloc (.cells #[.int .u8 97, .int .u8 98] 5 (2, 3))).alloc (.cells #[.int .u8 99] 5 (1, 2))).alloc (.cells #[.slice (some ⟨w1.heap.size, 0, none⟩) 2 2, .slice (some ⟨w1.heap.size + 1, 0, none⟩) 1 1] 31) = W3 at *
  refine hW.mono ?_
  rintro e w4 ⟨A4, n4, c4, rfl, o4, g4, b4⟩
  have hn4 : n4 = 59 := by rw [o4.1]; exact HL2.out
  subst hn4
  have o14 := o3.below b4 o3.lt
  have bel4 := bnext hB b4
  have hP := parseM_calls A4 59 c4 L2 w4 o4.1 (own8_cap o4) (by decide) o4.byt
  rw [(Sg.pm_yes HPB.out.1).1, (Sg.pm_yes HPB.out.1).2, HPB.out.2.1] at hP
  clear kc1 kc2 hW o3 hB b4
  go_wp2_with fail
  refine hP.mono ?_
  rintro e w5 ⟨A5, n5, c5, ys, rfl, hS5, hD5, hn5, _, b5⟩
  obtain ⟨y0, y1, rfl, hy0, hy1⟩ := two_of hD5
  obtain rfl : n5 = 2 := hn5
  have o15 := o14.below b5 o14.lt
  have bel5 := bnext bel4 b5
  have bkx := Blk.new w5 28 #[.int .i64 3, .int .i64 6, .slice A5 2 c5]
  have e6 : Below w5.heap.size w5 (w5.alloc (.cells #[.int .i64 3, .int .i64 6, .slice A5 2 c5] 28)) := (Below.refl _ _).alloc (Nat.le_refl _) _
  have bel6 := bnext bel5 e6
  have o16 := o15.below e6 o15.lt
  obtain ⟨b, off, rfl, hb, q1, ok1⟩ := (hS5.below e6).at_ (i := 1) (by simp)
  have cv : Sem.run Try.prog (convert 31 9 (.slice y1.A y1.n y1.c)) (w5.alloc (.cells #[.int .i64 3, .int .i64 6, .slice (some ⟨b, off, none⟩) 2 c5] 28)) = .ok (.string ⟨#[99]⟩) (w5.alloc (.cells #[.int .i64 3, .int .i64 6, .slice (some ⟨b, off, none⟩) 2 c5] 28)) := by
    have := run_conv8 (P := Try.prog) bytesT Try.underlying9 y1.A y1.n y1.c y1.d ok1.2.2 ok1.1
    rw [hy1] at this
    exact this
  obtain ⟨k0, k1, k2⟩ := med_cells bkx
  have q1' : (w5.alloc (.cells #[.int .i64 3, .int .i64 6, .slice (some ⟨b, off, none⟩) 2 c5] 28)).cell? ⟨b, off + 1, none⟩ = some (.slice y1.A y1.n y1.c) := q1
  have HSC := hide (sealed_calls A1 41 c1 L _ o16.1 (own8_cap o16) (by decide) o16.byt)
  rw [HSL.out] at HSC
  clear q1 hP
  go_wp2_with fail
  refine HSC.out.mono ?_
  rintro e w7 ⟨rfl, b7⟩
  go_wp2
  go_ret
  exact ⟨rfl, bnext bel6 b7⟩
end Go.Proofs.Ytakglalebjkpeaa.C17
