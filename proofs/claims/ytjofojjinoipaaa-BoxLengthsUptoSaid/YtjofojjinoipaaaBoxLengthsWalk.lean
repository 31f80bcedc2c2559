/- The statement BoxLengths, walked: it returns true and changes nothing that was there. Conditions: the slice reads as boxes, whose file is of at most 2^40 bytes. -/
import Derived.Test.YtjofojjinoipaaaBoxTwo
namespace Go.Proofs.Ytjofojjinoipaaa
open Go.RowKit Kin

theorem file_take (L : List Bx.Box) (k : Nat) (h : L.all Bx.rightB = true) : (Bx.file L).take (Bx.sizes (L.take k)) = Bx.file (L.take k) ∧ (Bx.file L).drop (Bx.sizes (L.take k)) = Bx.file (L.drop k) := by
  have h1 : (L.take k).all Bx.rightB = true := by
    rw [List.all_eq_true] at h ⊢
    intro x hx
    exact h x (List.mem_of_mem_take hx)
  have e := Bx.file_append (L.take k) (L.drop k)
  rw [List.take_append_drop] at e
  have hl := Bx.length_file _ h1
  rw [e, ← hl]
  exact ⟨List.take_left, List.drop_left⟩
theorem all_drop {L : List Bx.Box} (k : Nat) (h : L.all Bx.rightB = true) : (L.drop k).all Bx.rightB = true ∧ (L.take k).all Bx.rightB = true := by
  rw [List.all_eq_true] at h
  refine ⟨?_, ?_⟩ <;> rw [List.all_eq_true] <;> intro x hx
  · exact h x (List.mem_of_mem_drop hx)
  · exact h x (List.mem_of_mem_take hx)
/-- where a cut of boxes from k on lies -/
def cutB (A : Option Addr) (c k : Nat) : Option Addr := if c = k then A else A.map (·.add (k * 2))
theorem run_cutB {P : Program} {t e : TypeId} {by_ : Nat} (ht : IsRows P t e 2 by_) (A : Option Addr) (n c : Nat) (k : Nat) (h1 : k ≤ n) (w : World) :
    (Instr.sliceAt t (.slice A n c) (some (.int .i64 (k : Int))) none none).run P w = .ok (.slice (cutB A c k) (n - k) (c - k)) w := by
  obtain ⟨ht, _, i, z, hi, _, hs, _⟩ := ht
  have he : P.elem t = e := by simp [Program.elem, ht]
  have ht' : P.underlying t = some (.slice (P.elem t)) := by rw [he]; exact ht
  rw [run_sliceAt_slice w t _ _ _ _ ht', run_slice_l w t A n c ht' .i64 k (by omega) (by omega)]
  simp [he, Go.sizeOf, typeInfo, hi, hs, sliced, cutB, Result.andThen]
theorem run_cutBh {P : Program} {t e : TypeId} {by_ : Nat} (ht : IsRows P t e 2 by_) (A : Option Addr) (n c : Nat) (k : Nat) (h2 : k ≤ c) (w : World) :
    (Instr.sliceAt t (.slice A n c) none (some (.int .i64 (k : Int))) none).run P w = .ok (.slice A k c) w := by
  obtain ⟨ht, _, i, z, hi, _, hs, _⟩ := ht
  have he : P.elem t = e := by simp [Program.elem, ht]
  have ht' : P.underlying t = some (.slice (P.elem t)) := by rw [he]; exact ht
  rw [run_sliceAt_slice w t _ _ _ _ ht', run_slice_h w t A n c ht' .i64 k (by omega) (by omega)]
  have : A.map (·.add 0) = A := by cases A <;> simp [Addr.add]
  simp [he, Go.sizeOf, typeInfo, hi, hs, sliced, Result.andThen, this]
theorem boxes_drop {w : World} {B : Nat} {A : Option Addr} {xs : List Bx.Cel} {c : Nat} (h : Bx.Boxes w B A xs) (k : Nat) (hc : xs.length ≤ c) : Bx.Boxes w B (cutB A c k) (xs.drop k) := by
  refine ⟨fun hl => ?_, fun x hx => h.2 x (List.mem_of_mem_drop hx)⟩
  rw [List.length_map, List.length_drop] at hl
  obtain ⟨b, off, e, hb, hcell⟩ := h.1 (by rw [List.length_map]; omega)
  subst e
  unfold cutB
  rw [if_neg (by omega)]
  refine ⟨b, off + k * 2, by simp [Addr.add_lit], hb, fun i row hi => ?_⟩
  rw [List.map_drop, List.getElem?_drop] at hi
  obtain ⟨h1, h2⟩ := hcell (k + i) row hi
  refine ⟨h1, fun j v hj => ?_⟩
  have := h2 j v hj
  rw [Nat.add_mul, ← Nat.add_assoc] at this
  exact this
theorem boxes_take {w : World} {B : Nat} {A : Option Addr} {xs : List Bx.Cel} (h : Bx.Boxes w B A xs) (k : Nat) : Bx.Boxes w B A (xs.take k) := by
  refine ⟨fun hl => ?_, fun x hx => h.2 x (List.mem_of_mem_take hx)⟩
  rw [List.length_map, List.length_take] at hl
  obtain ⟨b, off, e, hb, hcell⟩ := h.1 (by rw [List.length_map]; omega)
  refine ⟨b, off, e, hb, fun i row hi => ?_⟩
  rw [List.map_take, List.getElem?_take] at hi
  split at hi
  · exact hcell i row hi
  · cases hi

set_option maxRecDepth 100000 in
set_option maxHeartbeats 4000000 in
theorem boxLengths_bad (A : Option Addr) (n c : Nat) (xs : List Bx.Cel) (k : Int) (w : World) (hn : n = xs.length) (hm : n ≤ 9223372036854775807) (hA : Bx.Boxes w w.heap.size A xs) (hS : Bx.sizes (Bx.boxs xs) ≤ 1099511627776) (h : Bx.fits xs = false ∨ (Bx.boxs xs).all Bx.rightB = false) :
    Calls Try.prog 6 #[.slice A n c, .int .i64 k] w fun e w' => e = .returned (.bool true) ∧ Below w.heap.size w w' := by
  have hF := fits_calls A n c xs w hn hm hA
  have hW := write_calls A n c xs w hn hm hA hS
  have hE : (Bx.boxs xs).all Bx.rightB = false → wrE (Bx.boxs xs) = 161 := fun h => (wr_no h).2
  clear hn hA hS
  generalize Bx.fits xs = p at *
  generalize (Bx.boxs xs).all Bx.rightB = q at *
  generalize wrE (Bx.boxs xs) = E at *
  cases p
  case' true =>
    have hq : q = false := by
      rcases h with h | h
      · cases h
      · exact h
    obtain rfl : E = 161 := hE hq
  all_goals
    clear h hE
    go_enter Try.func6, Try.ntmps6
    go_wp2_with fail
    refine hF.mono ?_
    rintro e w0 ⟨rfl, rfl⟩
    go_wp2_with fail
    refine hW.mono ?_
    rintro e w1 ⟨A1, n1, c1, rfl, o1, g1, b1⟩
    go_wp2_with fail
    refine (alive16_calls _).mono ?_
    rintro e w2 ⟨rfl, b2⟩
    go_wp2
    go_ret
    exact ⟨rfl, bnext b1 b2⟩

set_option maxRecDepth 100000 in
set_option maxHeartbeats 8000000 in
theorem boxLengths_good (A : Option Addr) (n c : Nat) (xs : List Bx.Cel) (z : Int) (w : World) (hn : n = xs.length) (hc : n ≤ c) (hA : Bx.Boxes w w.heap.size A xs) (hf : Bx.fits xs = true) (hr : (Bx.boxs xs).all Bx.rightB = true) :
    Calls Try.prog 6 #[.slice A n c, .int .i64 z] w fun e w' => e = .returned (.bool true) ∧ Below w.heap.size w w' := by
  obtain ⟨f1, f2, f3⟩ := fits_sizes hf hA
  have HN := hide hn
  have hn20 : n ≤ 20 := by rw [hn]; exact f1
  have hF := fits_calls A n c xs w hn (by omega) hA
  rw [hf] at hF
  have hW := write_calls A n c xs w hn (by omega) hA (by omega)
  rw [(wr_yes hr).1, (wr_yes hr).2] at hW
  have HA := hide hA
  have HS := hide f3
  have HR := hide hr
  have HC := hide hc
  clear hn hA hf f1 f2 f3 hr
  go_enter Try.func6, Try.ntmps6
  go_wp2_with fail
  refine hF.mono ?_
  rintro e w0 ⟨rfl, rfl⟩
  go_wp2_with fail
  refine hW.mono ?_
  rintro e w1 ⟨A1, n1, c1, rfl, o1, g1, b1⟩
  clear hF hW
  go_wp2
  go_loop [8, 9] (fun sv iv => ∃ i s : Nat, i ≤ n ∧ iv = .int .i64 (i : Int) ∧ sv = .int .i64 (s : Int) ∧ Hid (s = Bx.sizes ((Bx.boxs xs).take i)) ∧ s ≤ 20160) (fun _ iv => n - (intOf iv).toNat)
  case atStart => exact ⟨0, 0, by omega, rfl, rfl, rfl, by omega⟩
  case round =>
    obtain ⟨i, s, hi, rfl, rfl, hs, hs2⟩ := hrel
    by_cases hlt : i < n
    · have hix : i < xs.length := by rw [← HN.out]; exact hlt
      obtain ⟨b, off, rfl, hb, _, q1, hok⟩ := (HA.out.below b1).at_ hix
      have HZ := hide (sizes_take (Bx.boxs xs) (i + 1))
      have HT := hide (Bx.take_boxs xs hix)
      rw [HT.out, sizes_snoc] at HZ
      have hl := hide hok.1
      generalize xs[i] = x at *
      obtain ⟨t, xA, xn, xc, xd⟩ := x
      dsimp only at q1 hl HZ HT
      have hz : s + (8 + xn) ≤ 20160 := by have := HZ.out; have := hs.out; have := hl.out; have := HS.out; omega
      have i0 : (0 : Int) ≤ (i : Int) := by omega
      have i1 : (i : Int) < (n : Int) := by omega
      clear hok
      go_wp2
      go_round
      case rel => exact ⟨i + 1, s + (8 + xn), by omega, by go_num, by go_num, by rw [HT.out, sizes_snoc, ← hs.out, hl.out]; exact rfl, by omega⟩
      case measure => simp [intOf]; omega
    · obtain rfl : n = i := by omega
      have HT := hide (List.take_of_length_le (l := Bx.boxs xs) (i := n) (by rw [Bx.length_boxs, ← HN.out]; omega))
      rw [HT.out] at hs
      have hns : n1 = s := by rw [o1.1, Bx.length_file _ HR.out, hs.out]
      subst hns
      have e1 : ((n1 : Int) != (n1 : Int)) = false := by simp
      clear hlt
      by_cases hz : z < 0 ∨ (n : Int) < z
      · by_cases hz0 : z < 0
        case' pos => clear hz
        case' neg =>
          have hz1 : (n : Int) < z := by omega
          have dz : decide (z < 0) = false := by simp; omega
          clear hz
        all_goals
          go_wp2_with fail
          refine (alive16_calls _).mono ?_
          rintro e w2 ⟨rfl, b2⟩
          go_wp2
          go_ret
          exact ⟨rfl, bnext b1 b2⟩
      · obtain ⟨k, rfl⟩ : ∃ k : Nat, z = k := ⟨z.toNat, by omega⟩
        have hk : k ≤ n := by omega
        have dz : decide ((k : Int) < 0) = false := by simp
        have dk : decide ((n : Int) < (k : Int)) = false := by simp; omega
        have dk2 : decide (n < k) = false := by simp; omega
        clear hz hs
        go_wp2
        go_loop [10, 11] (fun sv iv => ∃ i s : Nat, i ≤ k ∧ iv = .int .i64 (i : Int) ∧ sv = .int .i64 (s : Int) ∧ Hid (s = Bx.sizes ((Bx.boxs xs).take i)) ∧ s ≤ 20160) (fun _ iv => k - (intOf iv).toNat)
        case atStart => exact ⟨0, 0, by omega, rfl, rfl, rfl, by omega⟩
        case round =>
          obtain ⟨i, s, hi, rfl, rfl, hs, hs3⟩ := hrel
          by_cases hlt : i < k
          · have hix : i < xs.length := by rw [← HN.out]; omega
            obtain ⟨b, off, rfl, hb, _, q1, hok⟩ := (HA.out.below b1).at_ hix
            have HZ := hide (sizes_take (Bx.boxs xs) (i + 1))
            have HT2 := hide (Bx.take_boxs xs hix)
            rw [HT2.out, sizes_snoc] at HZ
            have hl := hide hok.1
            generalize xs[i] = x at *
            obtain ⟨t, xA, xn, xc, xd⟩ := x
            dsimp only at q1 hl HZ HT2
            have hz : s + (8 + xn) ≤ 20160 := by have := HZ.out; have := hs.out; have := hl.out; have := HS.out; omega
            have i0 : (0 : Int) ≤ (i : Int) := by omega
            have i1 : (i : Int) < (n : Int) := by omega
            clear hok
            go_wp2
            go_round
            case rel => exact ⟨i + 1, s + (8 + xn), by omega, by go_num, by go_num, by rw [HT2.out, sizes_snoc, ← hs.out, hl.out]; exact rfl, by omega⟩
            case measure => simp [intOf]; omega
          · obtain rfl : k = i := by omega
            have hf1 := file_take (Bx.boxs xs) k HR.out
            rw [← hs.out] at hf1
            have hsn : s ≤ n1 := by
              have h1 := sizes_take (Bx.boxs xs) k
              have h2 := hs.out
              have h3 := o1.1
              rw [Bx.length_file _ HR.out] at h3
              omega
            have hc1 := own8_cap o1
            obtain ⟨hr1, hr2⟩ := all_drop k HR.out
            have hd1 : n1 - s = (Bx.file ((Bx.boxs xs).drop k)).length := by rw [← hf1.2, List.length_drop, ← o1.1]
            have hd2 : s = (Bx.file ((Bx.boxs xs).take k)).length := by rw [← hf1.1, List.length_take, ← o1.1]; omega
            have hs1 : ∀ w', Sem.run Try.prog (Instr.sliceAt 23 (.slice A1 n1 c1) (some (.int .i64 (s : Int))) none none) w' = .ok (.slice (cutA A1 c1 s) (n1 - s) (c1 - s)) w' := fun w' => run_cut8l bytesT A1 n1 c1 .i64 s _ rfl hsn w'
            have hs2' : ∀ w', Sem.run Try.prog (Instr.sliceAt 23 (.slice A1 n1 c1) none (some (.int .i64 (s : Int))) none) w' = .ok (.slice A1 s c1) w' := fun w' => run_cut8h bytesT A1 n1 c1 .i64 s _ rfl (by omega) w'
            have y1 : Byt w1 w1.heap.size (cutA A1 c1 s) (Bx.file ((Bx.boxs xs).drop k)) := by rw [← hf1.2]; exact o1.byt.cut s (by rw [← o1.1]; exact hc1)
            have y2 : Byt w1 w1.heap.size A1 (Bx.file ((Bx.boxs xs).take k)) := by rw [← hf1.1]; exact o1.byt.take s
            have HP1 := hide (parse_calls (cutA A1 c1 s) (n1 - s) (c1 - s) _ w1 hd1 (by omega) (by omega) y1)
            have HP2 : Hid (∀ w', Below w1.heap.size w1 w' → Calls Try.prog 11 #[.slice A1 s c1] w' (RetParse w' (Bx.file ((Bx.boxs xs).take k)))) := fun w' h => parse_calls A1 s c1 _ w' hd2 (by omega) (by omega) ((y2.below h).more h.size)
            have HS1 : Hid (∀ w' A3 n3 c3 ys, Below w.heap.size w w' → Bx.OwnB w' 36 5 A3 n3 c3 ys → Bx.boxs ys = (Bx.boxs xs).drop k → Calls Try.prog 16 #[.slice A3 n3 c3, .slice (cutB A c k) (n - k) (c - k)] w' (RetBool w' true)) := fun w' A3 n3 c3 ys h o e => by
              have := same_calls A3 (cutB A c k) n3 c3 (n - k) (c - k) ys (xs.drop k) w' o.len (ownB_max o) (by rw [List.length_drop, ← HN.out]) (by omega) o.boxes (boxes_drop ((HA.out.below h).more h.size) k (by rw [← HN.out]; exact HC.out))
              rw [e, ← Bx.boxs_drop] at this
              simpa using this
            have HS2 : Hid (∀ w' A3 n3 c3 ys, Below w.heap.size w w' → Bx.OwnB w' 36 5 A3 n3 c3 ys → Bx.boxs ys = (Bx.boxs xs).take k → Calls Try.prog 16 #[.slice A3 n3 c3, .slice A k c] w' (RetBool w' true)) := fun w' A3 n3 c3 ys h o e => by
              have := same_calls A3 A n3 c3 k c ys (xs.take k) w' o.len (ownB_max o) (by rw [List.length_take, ← HN.out]; omega) (by omega) o.boxes (boxes_take ((HA.out.below h).more h.size) k)
              rw [e, ← Bx.boxs_take] at this
              simpa using this
            have hb1 : ∀ w', Sem.run Try.prog (Instr.sliceAt 22 (.slice A n c) (some (.int .i64 (k : Int))) none none) w' = .ok (.slice (cutB A c k) (n - k) (c - k)) w' := fun w' => run_cutB boxesT A n c k hk w'
            have hb2 : ∀ w', Sem.run Try.prog (Instr.sliceAt 22 (.slice A n c) none (some (.int .i64 (k : Int))) none) w' = .ok (.slice A k c) w' := fun w' => run_cutBh boxesT A n c k (by have := HC.out; omega) w'
            have HR1 := hide hr1
            have HR2 := hide hr2
            clear hr1 hr2 hf1 hd1 hd2 y1 y2 hlt
            go_wp2_with fail
            refine HP1.out.mono ?_
            rintro e w3 (⟨_, A3, n3, c3, ys, rfl, o3, hy, _, b3⟩ | ⟨hev, _⟩)
            · rw [(Bx.boxes_file HR1.out).1] at hy
              have bel3 := bnext b1 b3
              go_wp2_with fail
              refine (HP2.out _ b3).mono ?_
              rintro e w4 (⟨_, A4, n4, c4, us, rfl, o4, hu, _, b4⟩ | ⟨hev, _⟩)
              · rw [(Bx.boxes_file HR2.out).1] at hu
                have bel4 := bnext bel3 b4
                have o34 := o3.next b4
                clear o3 hs1 hs2'
                go_wp2_with fail
                refine (alive16_calls _).mono ?_
                rintro e w5 ⟨rfl, b5⟩
                have bel5 := bnext bel4 b5
                have o35 := o34.next b5
                have o45 := o4.next b5
                go_wp2_with fail
                refine (HS1.out _ _ _ _ _ bel5 o35 hy).mono ?_
                rintro e w6 ⟨rfl, b6⟩
                have bel6 := bnext bel5 b6
                have o46 := o45.next b6
                go_wp2_with fail
                refine (HS2.out _ _ _ _ _ bel6 o46 hu).mono ?_
                rintro e w7 ⟨rfl, b7⟩
                go_wp2
                go_ret
                exact ⟨rfl, bnext bel6 b7⟩
              · rw [(Bx.boxes_file HR2.out).2] at hev; cases hev
            · rw [(Bx.boxes_file HR1.out).2] at hev; cases hev

theorem boxLengths_walk (A : Option Addr) (n c : Nat) (xs : List Bx.Cel) (z : Int) (w : World) (hn : n = xs.length) (hc : n ≤ c) (hm : c ≤ maxLen) (hA : Bx.Boxes w w.heap.size A xs) (hS : Bx.sizes (Bx.boxs xs) ≤ 1099511627776) :
    Calls Try.prog 6 #[.slice A n c, .int .i64 z] w fun e w' => e = .returned (.bool true) ∧ Below w.heap.size w w' := by
  have hm' : n ≤ 9223372036854775807 := Nat.le_trans hc (Nat.le_trans hm (by decide))
  cases hf : Bx.fits xs
  · exact boxLengths_bad A n c xs z w hn hm' hA hS (.inl hf)
  · cases hr : (Bx.boxs xs).all Bx.rightB
    · exact boxLengths_bad A n c xs z w hn hm' hA hS (.inr hr)
    · exact boxLengths_good A n c xs z w hn hc hA hf hr
end Go.Proofs.Ytjofojjinoipaaa
