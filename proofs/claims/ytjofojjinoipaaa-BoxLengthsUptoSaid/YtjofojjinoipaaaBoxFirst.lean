/- The first box of bytes, by its contract. Conditions: the slice reads as bytes. -/
import Derived.Test.YtjofojjinoipaaaBoxFits
import Derived.Test.YtjofojjinoipaaaHeld
import Derived.Deep.RegionLaw
namespace Go.Proofs.Ytjofojjinoipaaa
open Go.RowKit Kin

abbrev zbox : Value := boxV ⟨#[]⟩ none 0 0
/-- the first box, or none -/
def RetNone (w : World) (e : Ending) (w' : World) : Prop := e = .returned (.tuple #[zbox, .int .i64 0]) ∧ Below w.heap.size w w'
def RetSome (w : World) (t : ByteArray) (d : List UInt8) (k : Nat) (e : Ending) (w' : World) : Prop :=
  ∃ A n c, e = .returned (.tuple #[boxV t A n c, .int .i64 (k : Int)]) ∧ Own8 w' 5 A n c d ∧ (∀ g, blkOf A = some g → w.heap.size ≤ g) ∧ Below w.heap.size w w'
/-- what may come of the first box -/
def RetFirst (w : World) (l : List UInt8) (e : Ending) (w' : World) : Prop := (Bx.firstN l = 0 ∧ RetNone w e w') ∨ (Bx.firstN l ≠ 0 ∧ RetSome w (Bx.firstT l) (Bx.firstD l) (Bx.firstN l) e w')

theorem i64_or_nat (a b : Nat) (ha : a < 9223372036854775808) (hb : b < 9223372036854775808) : bits .or .i64 (a : Int) (b : Int) = ((a ||| b : Nat) : Int) := by
  have hx : a ||| b < 2 ^ 63 := Nat.or_lt_two_pow (by omega) (by omega)
  show IntKind.i64.wrap ((BitVec.ofInt 64 (a : Int) ||| BitVec.ofInt 64 (b : Int)).toNat : Int) = _
  rw [BitVec.toNat_or, ofInt_u64 a (by omega), ofInt_u64 b (by omega), IntKind.wrap_i64]
  omega
theorem far8 {w : World} {A : Option Addr} {n c g : Nat} {l : List UInt8} {e t : TypeId} {cs : Array Value} (o : Own8 w e A n c l) (b : Blk w g t cs) (hne : e ≠ t := by decide) : blkOf A ≠ some g := by
  have := own_blk_ne o.2 b hne
  rwa [ownBlock_slice] at this
theorem or_add (a k b : Nat) (hb : b < 2 ^ k) : (a * 2 ^ k) ||| b = a * 2 ^ k + b := by
  rw [Nat.mul_comm, Nat.two_pow_add_eq_or_of_lt hb]
theorem or4 (a b c d : Nat) (ha : a < 2 ^ 8) (hb : b < 2 ^ 8) (hc : c < 2 ^ 8) (hd : d < 2 ^ 8) :
    bits .or .i64 (bits .or .i64 (bits .or .i64 ((a : Int) * 16777216) ((b : Int) * 65536)) ((c : Int) * 256)) (d : Int) = ((((a * 256 + b) * 256 + c) * 256 + d : Nat) : Int) := by
  have e1 : (a : Int) * 16777216 = ((a * 16777216 : Nat) : Int) := by omega
  have e2 : (b : Int) * 65536 = ((b * 65536 : Nat) : Int) := by omega
  have e3 : (c : Int) * 256 = ((c * 256 : Nat) : Int) := by omega
  have o1 := or_add a 24 (b * 65536) (by omega)
  have o2 := or_add (a * 256 + b) 16 (c * 256) (by omega)
  have o3 := or_add ((a * 256 + b) * 256 + c) 8 d (by omega)
  simp only [Nat.reducePow] at o1 o2 o3
  rw [e1, e2, e3, i64_or_nat _ _ (by omega) (by omega), o1, show a * 16777216 + b * 65536 = (a * 256 + b) * 65536 by omega, i64_or_nat _ _ (by omega) (by omega), o2, show (a * 256 + b) * 65536 + c * 256 = ((a * 256 + b) * 256 + c) * 256 by omega, i64_or_nat _ _ (by omega) (by omega), o3]

set_option maxRecDepth 100000 in
set_option maxHeartbeats 2000000 in
theorem first_calls (A : Option Addr) (n c : Nat) (l : List UInt8) (w : World) (hn : n = l.length) (hc : n ≤ c) (hm : n ≤ 1099511627776) (hA : Byt w w.heap.size A l) :
    Calls Try.prog 24 #[.slice A n c] w (RetFirst w l) := by
  have HN := hide hn
  clear hn
  have b0 : Below w.heap.size w (w.alloc (.cells #[.string ⟨#[]⟩, .slice none 0 0] 36)) := (Below.refl _ _).alloc (Nat.le_refl _) _
  have bk := Blk.new w 36 #[.string ⟨#[]⟩, .slice none 0 0]
  have k0 : (w.alloc (.cells #[.string ⟨#[]⟩, .slice none 0 0] 36)).cell? ⟨w.heap.size, 0, none⟩ = some (.string ⟨#[]⟩) := bk.cell 0
  have k1 : (w.alloc (.cells #[.string ⟨#[]⟩, .slice none 0 0] 36)).cell? ⟨w.heap.size, 1, none⟩ = some (.slice none 0 0) := bk.cell 1
  by_cases h8 : n < 8
  · have HF := hide (Bx.firstN_small (l := l) (by rw [← HN.out]; exact h8))
    go_enter Try.func24, Try.ntmps24
    go_wp2
    refine bodyPost_ret (v := .tuple #[zbox, .int .i64 0]) (by simp [results, Try.results24, go_sem, k0, k1]) rfl ?_
    exact .inl ⟨HF.out, rfl, b0⟩
  · obtain ⟨b, off, rfl, hb, hcell⟩ := hA (by rw [← HN.out]; omega)
    have hl8 : 8 ≤ l.length := by rw [← HN.out]; omega
    obtain ⟨x0, x1, x2, x3, l', rfl⟩ : ∃ x0 x1 x2 x3 l', l = x0 :: x1 :: x2 :: x3 :: l' := by
      rcases l with _ | ⟨x0, _ | ⟨x1, _ | ⟨x2, _ | ⟨x3, l'⟩⟩⟩⟩ <;> simp at hl8
      exact ⟨x0, x1, x2, x3, l', rfl⟩
    have hb0 := b0
    have c0 : (w.alloc (.cells #[.string ⟨#[]⟩, .slice none 0 0] 36)).cell? ⟨b, off, none⟩ = some (.int .u8 (x0.toNat : Int)) := (b0.cell (p := ⟨b, off, none⟩) hb).trans (hcell 0 _ rfl)
    have c1 : (w.alloc (.cells #[.string ⟨#[]⟩, .slice none 0 0] 36)).cell? ⟨b, off + 1, none⟩ = some (.int .u8 (x1.toNat : Int)) := (b0.cell (p := ⟨b, off + 1, none⟩) hb).trans (hcell 1 _ rfl)
    have c2 : (w.alloc (.cells #[.string ⟨#[]⟩, .slice none 0 0] 36)).cell? ⟨b, off + 2, none⟩ = some (.int .u8 (x2.toNat : Int)) := (b0.cell (p := ⟨b, off + 2, none⟩) hb).trans (hcell 2 _ rfl)
    have c3 : (w.alloc (.cells #[.string ⟨#[]⟩, .slice none 0 0] 36)).cell? ⟨b, off + 3, none⟩ = some (.int .u8 (x3.toNat : Int)) := (b0.cell (p := ⟨b, off + 3, none⟩) hb).trans (hcell 3 _ rfl)
    have h0 := x0.toNat_lt
    have h1 := x1.toNat_lt
    have h2 := x2.toNat_lt
    have h3 := x3.toNat_lt
    have j0 : (0 : Int) < (n : Int) := by omega
    have j1 : (1 : Int) < (n : Int) := by omega
    have j2 : (2 : Int) < (n : Int) := by omega
    have j3 : (3 : Int) < (n : Int) := by omega
    generalize hxs : x0 :: x1 :: x2 :: x3 :: l' = l at *
    have HO : Hid (Bx.of4 l = ((x0.toNat * 256 + x1.toNat) * 256 + x2.toNat) * 256 + x3.toNat) := by rw [← hxs]; exact rfl
    clear hxs
    generalize x0.toNat = y0 at *
    generalize x1.toNat = y1 at *
    generalize x2.toNat = y2 at *
    generalize x3.toNat = y3 at *
    clear hcell
    have HO4 := hide (or4 y0 y1 y2 y3 h0 h1 h2 h3)
    go_enter Try.func24, Try.ntmps24
    go_wp2_with fail
    go_quiet (fail)
    rw [HO4.out]
    have HA : Hid (Byt w w.heap.size (some ⟨b, off, none⟩) l) := hA
    have b1 := (dN _ nq).mono (show w.heap.size ≤ (w.alloc (.cells #[.string ⟨#[]⟩, .slice none 0 0] 36)).heap.size by simp)
    have bel := b0.trans b1
    have bk1 := bk.below (dN _ nq) bk.lt
    clear c0 c1 c2 c3 k0 k1 b0 b1 bk hA hb0 h0 h1 h2 h3
    generalize (w.alloc (.cells #[.string ⟨#[]⟩, .slice none 0 0] 36)).drewN nq = W at *
    generalize hv : ((y0 * 256 + y1) * 256 + y2) * 256 + y3 = v at *
    clear hv
    have k0 : W.cell? ⟨w.heap.size, 0, none⟩ = some (.string ⟨#[]⟩) := bk1.cell 0
    have k1 : W.cell? ⟨w.heap.size, 1, none⟩ = some (.slice none 0 0) := bk1.cell 1
    have f0 := bk1.frozen 0
    have f1 := bk1.frozen 1
    by_cases hv : v < 8 ∨ n < v
    · have HF : Hid (Bx.firstN l = 0) := by
        unfold Bx.firstN
        rw [if_neg (by omega), HO.out, if_pos (by rw [← HN.out]; exact hv)]
        exact rfl
      have hvd : ((v : Int) < 8) ∨ (n : Int) < (v : Int) := by omega
      have bkz := ((bk1.set_ 0 (.string ⟨#[]⟩)).set_ 1 (.slice none 0 0))
      have belz := (bel.setCell (p := ⟨w.heap.size, 0, none⟩) (Nat.le_refl _) (.string ⟨#[]⟩)).setCell (p := ⟨w.heap.size, 1, none⟩) (Nat.le_refl _) (.slice none 0 0)
      have z0 : ((W.setCell ⟨w.heap.size, 0, none⟩ (.string ⟨#[]⟩)).setCell ⟨w.heap.size, 1, none⟩ (.slice none 0 0)).cell? ⟨w.heap.size, 0, none⟩ = some (.string ⟨#[]⟩) := bkz.cell 0
      have z1 : ((W.setCell ⟨w.heap.size, 0, none⟩ (.string ⟨#[]⟩)).setCell ⟨w.heap.size, 1, none⟩ (.slice none 0 0)).cell? ⟨w.heap.size, 1, none⟩ = some (.slice none 0 0) := bkz.cell 1
      clear HO4
      go_wp2
      all_goals
        refine bodyPost_ret (v := .tuple #[zbox, .int .i64 0]) (by simp [results, Try.results24, go_sem, z0, z1]) rfl ?_
        exact .inl ⟨HF.out, rfl, belz⟩
    · have hv1 : (8 : Int) ≤ (v : Int) := by omega
      have hv2 : (v : Int) ≤ (n : Int) := by omega
      have hv3 : 8 ≤ v := by omega
      have hv4 : v ≤ n := by omega
      have HL := hide hl8
      clear hl8 h8
      have hs1 : ∀ w', Sem.run Try.prog (Instr.sliceAt 23 (.slice (some ⟨b, off, none⟩) n c) (some (.int .i64 4)) (some (.int .i64 8)) none) w' = .ok (.slice (cutA (some ⟨b, off, none⟩) c 4) 4 (c - 4)) w' := fun w' => run_cut8 bytesT _ n c .i64 .i64 4 8 4 8 rfl rfl (by omega) (by omega) w'
      have hs2 : ∀ w', Sem.run Try.prog (Instr.sliceAt 23 (.slice (some ⟨b, off, none⟩) n c) (some (.int .i64 8)) (some (.int .i64 (v : Int))) none) w' = .ok (.slice (cutA (some ⟨b, off, none⟩) c 8) (v - 8) (c - 8)) w' := fun w' => run_cut8 bytesT _ n c .i64 .i64 8 v 8 (v : Int) rfl rfl (by omega) (by omega) w'
      have hbT : ∀ w', Below w.heap.size w w' → Byt w' w.heap.size (cutA (some ⟨b, off, none⟩) c 4) ((l.drop 4).take 4) := fun w' h => (((HA.out.below h).cut 4 (by rw [← HN.out]; exact hc)).take 4)
      have hbD : ∀ w', Below w.heap.size w w' → Byt w' w.heap.size (cutA (some ⟨b, off, none⟩) c 8) ((l.drop 8).take (v - 8)) := fun w' h => (((HA.out.below h).cut 8 (by rw [← HN.out]; exact hc)).take (v - 8))
      have HcT := hide hbT
      have HcD := hide hbD
      clear hbT hbD
      generalize cutA (some ⟨b, off, none⟩) c 4 = A4 at *
      generalize cutA (some ⟨b, off, none⟩) c 8 = A8 at *
      have HLD : Hid (v - 8 = ((l.drop 8).take (v - 8)).length) := by
        have := HN.out
        show _ = _
        rw [List.length_take, List.length_drop]; omega
      have cv : ∀ w', Below w.heap.size w w' → Sem.run Try.prog (convert 23 9 (.slice A4 4 (c - 4))) w' = .ok (.string (Bx.firstT l)) w' := fun w' h => run_conv8 bytesT Try.underlying9 A4 4 (c - 4) _ (HcT.out w' h) (by have := HL.out; rw [List.length_take, List.length_drop]; omega)
      have HCL : Hid (∀ w', Below w.heap.size w w' → Calls Try.prog 22 #[.slice A8 (v - 8) (c - 8)] w' (RetBytes w' (Bx.firstD l))) := fun w' h => by
        have e : Bx.firstD l = (l.drop 8).take (v - 8) := by unfold Bx.firstD; rw [HO.out]
        rw [e]
        exact clone_calls A8 (v - 8) (c - 8) _ w' HLD.out (by omega) (HcD.out w' h)
      obtain ⟨T, hT⟩ : ∃ T, Bx.firstT l = T := ⟨_, rfl⟩
      have HTT := hide hT
      rw [hT] at cv
      clear hT
      clear HcT HcD HO4
      have d0 := bel.drew
      have da : Below w.heap.size w (W.alloc (.cells #[.string ⟨#[]⟩, .slice none 0 0] 36)).drew := (bel.alloc bel.size (.cells #[.string ⟨#[]⟩, .slice none 0 0] 36)).drew
      have bkY : Blk (W.alloc (.cells #[.string ⟨#[]⟩, .slice none 0 0] 36)).drew W.heap.size 36 #[.string ⟨#[]⟩, .slice none 0 0] := Blk.new W 36 #[.string ⟨#[]⟩, .slice none 0 0]
      have bk0 : Blk W.drew w.heap.size 36 #[.string ⟨#[]⟩, .slice none 0 0] := bk1
      have bka : Blk (W.alloc (.cells #[.string ⟨#[]⟩, .slice none 0 0] 36)).drew w.heap.size 36 #[.string ⟨#[]⟩, .slice none 0 0] := bk1.alloc (.cells #[.string ⟨#[]⟩, .slice none 0 0] 36)
      have gW := bel.size
      go_wp2_with fail
      go_region_held3 (fun w' => Below w.heap.size w w')
        (first | with_reducible exact d0 | with_reducible exact da | with_reducible exact e1 | with_reducible exact e1a | with_reducible exact e1s | (trace "KEEP"; trace_state; fail))
        (first
          | (go_at_call 22; ((with_reducible refine (HCL.out W.drew d0).mono ?_)); rintro e w2 ⟨A2, n2, c2, rfl, o2, g2, b2⟩; have e1 : Below w.heap.size w w2 := bnext d0 b2; have bk2 := bk0.below b2 bk0.lt; have e1a : Below w.heap.size w (w2.alloc (.cells #[.string ⟨#[]⟩, .slice none 0 0] 36)) := e1.alloc e1.size (.cells #[.string ⟨#[]⟩, .slice none 0 0] 36); have e1s : Below w.heap.size w (w2.alloc (.cells #[.string T, .slice A2 n2 c2] 36)) := e1.alloc e1.size _; have bkV := Blk.new w2 36 #[.string T, .slice A2 n2 c2]; have oV := o2.alloc (.cells #[.string T, .slice A2 n2 c2] 36); have bkR := bk2.alloc (.cells #[.string T, .slice A2 n2 c2] 36); have gV : w.heap.size < w2.heap.size := bk2.lt)
          | (go_at_call 22; ((with_reducible refine (HCL.out (W.alloc (.cells #[.string ⟨#[]⟩, .slice none 0 0] 36)).drew da).mono ?_)); rintro e w2 ⟨A2, n2, c2, rfl, o2, g2, b2⟩; have e1 : Below w.heap.size w w2 := bnext da b2; have bk2 := bka.below b2 bka.lt; have bY2 := bkY.below b2 bkY.lt; have y0 : w2.cell? ⟨W.heap.size, 0, none⟩ = some (.string ⟨#[]⟩) := bY2.cell 0; have y1 : w2.cell? ⟨W.heap.size, 1, none⟩ = some (.slice none 0 0) := bY2.cell 1; have yf0 := bY2.frozen 0; have yf1 := bY2.frozen 1; have e1s : Below w.heap.size w ((w2.setCell ⟨W.heap.size, 0, none⟩ (.string T)).setCell ⟨W.heap.size, 1, none⟩ (.slice A2 n2 c2)) := (e1.setCell (p := ⟨W.heap.size, 0, none⟩) gW _).setCell (p := ⟨W.heap.size, 1, none⟩) gW _; have bkV := (bY2.set_ 0 (.string T)).set_ 1 (.slice A2 n2 c2); have oV := (o2.setFar (p := ⟨W.heap.size, 0, none⟩) (far8 o2 bY2) (.string T)).setFar (p := ⟨W.heap.size, 1, none⟩) (far8 o2 bY2) (.slice A2 n2 c2); have gV : w.heap.size < W.heap.size := bk1.lt; have bkR := (bk2.far (p := ⟨W.heap.size, 0, none⟩) (Nat.ne_of_lt gV) (.string T)).far (p := ⟨W.heap.size, 1, none⟩) (Nat.ne_of_lt gV) (.slice A2 n2 c2)))
      all_goals
        first
          | (generalize w2.alloc (.cells #[.string T, .slice A2 n2 c2] 36) = V at *
             obtain ⟨gy, hgy⟩ : ∃ g, g = w2.heap.size := ⟨_, rfl⟩
             rw [← hgy] at bkV gV ⊢
             clear hgy)
          | (generalize (w2.setCell ⟨W.heap.size, 0, none⟩ (.string T)).setCell ⟨W.heap.size, 1, none⟩ (.slice A2 n2 c2) = V at *
             obtain ⟨gy, hgy⟩ : ∃ g, g = W.heap.size := ⟨_, rfl⟩
             rw [← hgy] at bkV gV ⊢
             clear hgy)
        have m0 : V.cell? ⟨gy, 0, none⟩ = some (.string T) := bkV.cell 0
        have m1 : V.cell? ⟨gy, 1, none⟩ = some (.slice A2 n2 c2) := bkV.cell 1
        have hn2 : n2 ≤ 1099511627776 := by
          have h1 := oV.1
          have h2 : (Bx.firstD l).length = v - 8 := by unfold Bx.firstD; rw [HO.out]; exact HLD.out.symm
          omega
        have HN2 : Hid (n2 = v - 8) := by
          have h1 := oV.1
          have h2 : (Bx.firstD l).length = v - 8 := by unfold Bx.firstD; rw [HO.out]; exact HLD.out.symm
          show _ = _
          omega
        have gA2 : ∀ g, blkOf A2 = some g → w.heap.size ≤ g := fun g hg => Nat.le_trans gW (Nat.le_trans (by first | exact Nat.le_refl _ | simp) (g2 g hg))
        go_wp2_with fail
        refine (right_calls T A2 n2 c2 _ (by omega)).mono ?_
        rintro e w3 ⟨rfl, b3⟩
        have bkV3 := bkV.below b3 bkV.lt
        have bkR3 := bkR.below b3 bkR.lt
        have o3 := oV.below b3 oV.lt
        have e3 := bnext e1s b3
        have m2 : w3.cell? ⟨gy, 0, none⟩ = some (.string T) := bkV3.cell 0
        have m3 : w3.cell? ⟨gy, 1, none⟩ = some (.slice A2 n2 c2) := bkV3.cell 1
        have r0 : w3.cell? ⟨w.heap.size, 0, none⟩ = some (.string ⟨#[]⟩) := bkR3.cell 0
        have r1 : w3.cell? ⟨w.heap.size, 1, none⟩ = some (.slice none 0 0) := bkR3.cell 1
        have rf0 := bkR3.frozen 0
        have rf1 := bkR3.frozen 1
        have HFN : Hid (Bx.firstN l = if Bx.right T n2 = true then v else 0) := by
          show _ = _
          unfold Bx.firstN
          have h1 := HL.out
          have h2 := HN.out
          rw [if_neg (by omega), HO.out, if_neg (by omega), HTT.out, HN2.out]
        clear m0 m1 k0 k1 f0 f1
        cases hq : Bx.right T n2
        · have HF : Hid (Bx.firstN l = 0) := by rw [HFN.out, hq]; exact rfl
          have bkz := ((bkR3.set_ 0 (.string ⟨#[]⟩)).set_ 1 (.slice none 0 0))
          have belz := (e3.setCell (p := ⟨w.heap.size, 0, none⟩) (Nat.le_refl _) (.string ⟨#[]⟩)).setCell (p := ⟨w.heap.size, 1, none⟩) (Nat.le_refl _) (.slice none 0 0)
          have z0 : ((w3.setCell ⟨w.heap.size, 0, none⟩ (.string ⟨#[]⟩)).setCell ⟨w.heap.size, 1, none⟩ (.slice none 0 0)).cell? ⟨w.heap.size, 0, none⟩ = some (.string ⟨#[]⟩) := bkz.cell 0
          have z1 : ((w3.setCell ⟨w.heap.size, 0, none⟩ (.string ⟨#[]⟩)).setCell ⟨w.heap.size, 1, none⟩ (.slice none 0 0)).cell? ⟨w.heap.size, 1, none⟩ = some (.slice none 0 0) := bkz.cell 1
          clear hq
          go_wp2
          refine bodyPost_ret (v := .tuple #[zbox, .int .i64 0]) (by simp [results, Try.results24, go_sem, z0, z1]) rfl ?_
          exact .inl ⟨HF.out, rfl, belz⟩
        · have HF : Hid (Bx.firstN l = v) := by rw [HFN.out, hq]; exact rfl
          have bkz := ((bkR3.set_ 0 (.string T)).set_ 1 (.slice A2 n2 c2))
          have belz := (e3.setCell (p := ⟨w.heap.size, 0, none⟩) (Nat.le_refl _) (.string T)).setCell (p := ⟨w.heap.size, 1, none⟩) (Nat.le_refl _) (.slice A2 n2 c2)
          have z0 : ((w3.setCell ⟨w.heap.size, 0, none⟩ (.string T)).setCell ⟨w.heap.size, 1, none⟩ (.slice A2 n2 c2)).cell? ⟨w.heap.size, 0, none⟩ = some (.string T) := bkz.cell 0
          have z1 : ((w3.setCell ⟨w.heap.size, 0, none⟩ (.string T)).setCell ⟨w.heap.size, 1, none⟩ (.slice A2 n2 c2)).cell? ⟨w.heap.size, 1, none⟩ = some (.slice A2 n2 c2) := bkz.cell 1
          have oz := (o3.setFar (p := ⟨w.heap.size, 0, none⟩) (far8 o3 bkR3) (.string T)).setFar (p := ⟨w.heap.size, 1, none⟩) (far8 o3 bkR3) (.slice A2 n2 c2)
          clear hq
          go_wp2
          refine bodyPost_ret (v := .tuple #[boxV T A2 n2 c2, .int .i64 (v : Int)]) (by simp [results, Try.results24, go_sem, z0, z1]) rfl ?_
          refine .inr ⟨by rw [HF.out]; omega, A2, n2, c2, ?_, oz, gA2, belz⟩
          rw [HF.out, HTT.out]
end Go.Proofs.Ytjofojjinoipaaa
