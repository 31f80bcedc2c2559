/- Whether boxes are such as are gone through; the number of four bytes. Conditions: the slices read as boxes, as bytes. -/
import Derived.Test.YtjofojjinoipaaaBoxWalks2
namespace Go.Proofs.Ytjofojjinoipaaa
open Go.RowKit Kin

set_option maxRecDepth 100000 in
set_option maxHeartbeats 1000000 in
theorem fits_calls (A : Option Addr) (n c : Nat) (xs : List Bx.Cel) (w : World) (hn : n = xs.length) (hm : n ≤ 9223372036854775807) {B : Nat} (hA : Bx.Boxes w B A xs) :
    Calls Try.prog 7 #[.slice A n c] w fun e w' => e = .returned (.bool (Bx.fits xs)) ∧ w = w' := by
  have HN := hide hn
  clear hn
  go_enter Try.func7, Try.ntmps7
  go_wp2
  go_loop [3] (fun iv => ∃ k : Nat, k ≤ n ∧ k ≤ 20 ∧ iv = .int .i64 (k : Int) ∧ (xs.take k).all Bx.small = true) (fun iv => n - (intOf iv).toNat)
  case atStart => exact ⟨0, by omega, by omega, rfl, rfl⟩
  case round =>
    obtain ⟨k, hk, hk2, rfl, hu⟩ := hrel
    have HU := hide hu
    clear hu
    by_cases hlt : k < n
    · have hkx : k < xs.length := by rw [← HN.out]; exact hlt
      obtain ⟨b, off, rfl, hb, c0, c1, hok⟩ := hA.at_ hkx
      obtain ⟨_, hnx, _⟩ := hok
      unfold maxLen at hnx
      have HB := hide (fun (h : Bx.small xs[k] = false) => Bx.fits_big hkx h)
      have HT := hide (fun (h : Bx.small xs[k] = true) => Bx.all_take hkx HU.out h)
      have HS1 := hide (fun (h1 : xs[k].n ≤ 1000) (h2 : xs[k].t.size ≤ 1000) => Bx.small_of h1 h2)
      have HS0 := hide (fun (h : 1000 < xs[k].n ∨ 1000 < xs[k].t.size) => Bx.small_no h)
      have HL := hide (fun (h : 20 < xs.length) => Bx.fits_long h)
      obtain ⟨x, hx⟩ : ∃ x, xs[k] = x := ⟨_, rfl⟩
      obtain ⟨t, xA, xn, xc, xd⟩ := x
      rw [hx] at c0 c1 hnx HB HT HS1 HS0
      dsimp only at c0 c1 hnx HS1 HS0
      clear hx hA
      have i0 : (0 : Int) ≤ (k : Int) := by omega
      have i1 : (k : Int) < (n : Int) := by omega
      go_wp2
      all_goals first
        | (go_ret; refine ⟨?_, rfl⟩; rw [HL.out (by have := HN.out; omega)]; rfl)
        | (go_ret; refine ⟨?_, rfl⟩; rw [HB.out (HS0.out (Or.inl (by omega)))]; rfl)
        | (go_ret; refine ⟨?_, rfl⟩; rw [HB.out (HS0.out (Or.inr (by rename_i h _; rcases h with (h | h) | h <;> (try simp at h) <;> omega)))]; rfl)
        | (go_round; (case rel => exact ⟨k + 1, by omega, by omega, by go_num, HT.out (HS1.out (by omega) (by omega))⟩); (case measure => simp [intOf]; omega))
    · obtain rfl : n = k := by omega
      have HT : Hid (Bx.fits xs = true) := by
        unfold Bx.fits
        have h := HU.out
        rw [List.take_of_length_le (by rw [← HN.out]; omega)] at h
        rw [h, ← HN.out, decide_eq_true hk2]
        exact rfl
      clear hlt
      go_wp2
      go_ret
      exact ⟨by rw [HT.out]; rfl, rfl⟩

theorem dN (w : World) (n : Nat) : Below w.heap.size w (w.drewN n) := ⟨rfl, rfl, rfl, Nat.le_refl _, fun _ _ => rfl⟩
theorem of4_take (l : List UInt8) (h : 4 ≤ l.length) : Bx.of4 (l.take 4) = Bx.of4 l := by
  rcases l with _ | ⟨a, _ | ⟨b, _ | ⟨c, _ | ⟨d, l⟩⟩⟩⟩ <;> simp at h
  rfl
set_option maxRecDepth 100000 in
set_option maxHeartbeats 1000000 in
theorem of_calls (A : Option Addr) (c : Nat) (l : List UInt8) (w : World) (hn : 4 ≤ l.length) {B : Nat} (hA : Byt w B A l) :
    Calls Try.prog 21 #[.slice A 4 c] w fun e w' => e = .returned (.int .i64 (Bx.of4 l : Int)) ∧ Below w.heap.size w w' := by
  obtain ⟨b, off, rfl, hb, hc⟩ := hA (by omega)
  rcases l with _ | ⟨x0, _ | ⟨x1, _ | ⟨x2, _ | ⟨x3, l⟩⟩⟩⟩ <;> simp at hn
  have c0 : w.cell? ⟨b, off, none⟩ = some (.int .u8 (x0.toNat : Int)) := hc 0 _ rfl
  have c1 := hc 1 _ rfl
  have c2 := hc 2 _ rfl
  have c3 := hc 3 _ rfl
  have h0 := x0.toNat_lt
  have h1 := x1.toNat_lt
  have h2 := x2.toNat_lt
  have h3 := x3.toNat_lt
  have HO : Hid (Bx.of4 (x0 :: x1 :: x2 :: x3 :: l) = ((x0.toNat * 256 + x1.toNat) * 256 + x2.toNat) * 256 + x3.toNat) := rfl
  generalize x0.toNat = y0 at *
  generalize x1.toNat = y1 at *
  generalize x2.toNat = y2 at *
  generalize x3.toNat = y3 at *
  clear hc hA
  go_enter Try.func21, Try.ntmps21
  go_wp2_with fail
  go_quiet (fail)
  go_wp2
  go_ret
  exact ⟨ret_int (by rw [HO.out]; go_num), dN _ nq⟩
end Go.Proofs.Ytjofojjinoipaaa
