/- The statement GolombReads, walked: it returns true and changes nothing that was there. Conditions: the slices read as bytes, and truths. -/
import Derived.Test.YtdelaobffbaocaaLaw02Alive
import Derived.Test.YtdelaobffbaocaaTwoR
import Derived.Test.YtdelaobffbaocaaVals
import Derived.Test.YtdelaobffbaocaaHeld
namespace Go.Proofs.Ytdelaobffbaocaa
open Go.RowKit Kin

set_option maxRecDepth 100000 in
set_option maxHeartbeats 2000000 in
theorem golombReads_bad (A A2 : Option Addr) (n c n2 c2 : Nat) (w : World) (hm : n ≤ 9223372036854775807) (h : 300 < n) :
    Calls Try.prog 13 #[.slice A n c, .slice A2 n2 c2] w fun e w' => e = .returned (.bool true) ∧ Below w.heap.size w w' := by
  go_enter Try.func13, Try.ntmps13
  go_wp2_with (go_at_call 37; refine (alive2_calls _).mono ?_; rintro e w1 ⟨rfl, hb⟩)
  go_ret
  exact ⟨rfl, hb⟩

set_option maxRecDepth 100000 in
set_option maxHeartbeats 4000000 in
theorem golombReads_good (A : Option Addr) (n c : Nat) (l : List UInt8) (A2 : Option Addr) (n2 c2 : Nat) (xs : List Value) (w : World) (hn : n = l.length) (hm : n ≤ 300) (hA : Byt w w.heap.size A l)
    (hn2 : n2 = xs.length) (hm2 : n2 ≤ maxLen) (hA2 : Vals w w.heap.size A2 xs) (hR : ∀ v ∈ xs, IsBool v) :
    Calls Try.prog 13 #[.slice A n c, .slice A2 n2 c2] w fun e w' => e = .returned (.bool true) ∧ Below w.heap.size w w' := by
  have HN := hide hn
  have HN2 := hide hn2
  have HR := hide hR
  clear hn hn2 hR
  unfold maxLen at hm2
  have d1 : decide ((300 : Int) < (n : Int)) = false := by simp; omega
  go_enter Try.func13, Try.ntmps13
  go_wp2_with fail
  refine (open_calls _ _ _ l _ HN.out (by omega) hA).mono ?_
  rintro e w1 ⟨rfl, hr1, b1⟩
  go_wp2_with fail
  refine (refopen_calls _ _ _ l _ HN.out hm (hA.below b1)).mono ?_
  rintro e w2 ⟨gm, Rm, rfl, hm2', ggm, gRm, b2⟩
  have z1 := hr1.lt
  have z0 := b1.size
  obtain ⟨gr, hgr⟩ : ∃ g, g = w.heap.size + 1 := ⟨_, rfl⟩
  obtain ⟨rr, hrr⟩ : ∃ g, g = w.heap.size := ⟨_, rfl⟩
  have AP : Apart w.heap.size gr rr gm Rm := ⟨by omega, by omega, fun e => by have := gRm _ e; omega, by omega, by omega⟩
  rw [← hgr, ← hrr] at hr1
  have T0 : TwoR w w2 gr rr gm Rm l 0 := ⟨hr1.below b2, hm2', b1.trans (b2.mono b1.size)⟩
  rw [← hgr]
  have HAP := hide AP
  have hL : l.length ≤ 300 := by rw [← HN.out]; exact hm
  clear hgr hrr AP hr1 b1 b2 hm2' ggm gRm z1 z0 d1
  go_wp2
  go_loopw [7] (fun iv wr => ∃ (i k : Nat), i ≤ n2 ∧ i ≤ 100 ∧ iv = .int .i64 (i : Int) ∧ TwoR w wr gr rr gm Rm l k) (fun iv _ => n2 - (intOf iv).toNat)
  case atStart => exact ⟨0, 0, by omega, by omega, rfl, T0⟩
  case round =>
    obtain ⟨i, k, hi, hi2, rfl, T⟩ := hrel
    clear T0
    by_cases hlt : i < n2 ∧ i < 100
    · obtain ⟨hlt, hlt2⟩ := hlt
      have hix : i < xs.length := by rw [← HN2.out]; exact hlt
      obtain ⟨b, off, rfl, hb, hcell⟩ := (hA2.below T.2.2).at_ hix
      obtain ⟨q, hq⟩ := HR.out xs[i] (List.getElem_mem hix)
      rw [hq] at hcell
      have d200 : decide ((i : Int) < 100) = true := by simp; omega
      clear hq
      cases q
      case' false =>
        go_wp2_with fail
        refine (gget_any gr rr l k _ T.1).mono ?_
        rintro e t2 ⟨rfl, hr2, ch2⟩
        obtain ⟨hm2, bel2⟩ := T.getB HAP.out hr2 ch2
        go_wp2_with fail
        refine (refgget_any gm Rm l k _ hm2 (by omega)).mono ?_
        rintro e t3 ⟨rfl, hm3, ch3⟩
        have T2 := TwoR.getM hr2 bel2 HAP.out hm3 ch3
        have q1 : ((Gol.gV (bitsOf l k) : Int) != (Gol.gV (bitsOf l k) : Int)) = false := by simp
        have q2 : (Gol.gE (bitsOf l k) != Gol.gE (bitsOf l k)) = false := by simp
        generalize Gol.gV (bitsOf l k) = V1 at *
        generalize Gol.gE (bitsOf l k) = E1 at *
      case' true =>
        go_wp2_with fail
        refine (ggets_any gr rr l k _ T.1).mono ?_
        rintro e t2 ⟨rfl, hr2, ch2⟩
        obtain ⟨hm2, bel2⟩ := T.getB HAP.out hr2 ch2
        go_wp2_with fail
        refine (refggets_any gm Rm l k _ hm2 (by omega)).mono ?_
        rintro e t3 ⟨rfl, hm3, ch3⟩
        have T2 := TwoR.getM hr2 bel2 HAP.out hm3 ch3
        have q1 : (Gol.unf (Gol.gV (bitsOf l k)) != Gol.unf (Gol.gV (bitsOf l k))) = false := by simp
        have q2 : (Gol.gE (bitsOf l k) != Gol.gE (bitsOf l k)) = false := by simp
        generalize Gol.unf (Gol.gV (bitsOf l k)) = V1 at *
        generalize Gol.gE (bitsOf l k) = E1 at *
      all_goals
        generalize k + Gol.gK (bitsOf l k) = k2 at *
        clear hr2 ch2 hm2 bel2 hm3 ch3 T hcell
        go_wp2
        have hrTd := T2.1.below (Below.refl _ _).drew
        have hmTd := T2.2.1.below (Below.refl _ _).drew
        have belTd := T2.2.2.drew
        have T3 : TwoR w t3.drew gr rr gm Rm l k2 := ⟨hrTd, hmTd, belTd⟩
        obtain ⟨⟨A5, n5, c5, bk5, ow5, r5⟩, hk5, hB5⟩ := hmTd
        have q5 : ((k2 : Int) != (k2 : Int)) = false := by simp
        clear hk5 hB5
        go_region_held3 (fun w' => w'.cell? ⟨gm, 1, none⟩ = some (.int .i64 (k2 : Int)))
          (exact bk5.cell 1)
          (first
            | (go_at_call 20; ((with_reducible refine (at_calls gr rr l _ _ hrTd).mono ?_)); rintro e v1 ⟨rfl, rfl⟩))
        go_wp2
        go_roundw
        case rel => exact ⟨i + 1, k2, by omega, by omega, by go_num, T3⟩
        case measure => simp [intOf]; omega
    · have bel := T.2.2
      have hcase : n2 ≤ i ∨ (i < n2 ∧ i = 100) := by omega
      clear hlt
      rcases hcase with hge | ⟨hlt, rfl⟩
      · go_wp2_with (go_at_call 37; refine (alive2_calls _).mono ?_; rintro e w3 ⟨rfl, hb⟩)
        go_ret
        exact ⟨rfl, bel.trans (hb.mono bel.size)⟩
      · rw [show ((100 : Nat) : Int) = 100 from rfl]
        have hlt2 : (100 : Int) < (n2 : Int) := by omega
        go_wp2_with (go_at_call 37; refine (alive2_calls _).mono ?_; rintro e w3 ⟨rfl, hb⟩)
        go_ret
        exact ⟨rfl, bel.trans (hb.mono bel.size)⟩

theorem golombReads_walk (A : Option Addr) (n c : Nat) (l : List UInt8) (A2 : Option Addr) (n2 c2 : Nat) (xs : List Value) (w : World) (hn : n = l.length) (hm : n ≤ maxLen) (hA : Byt w w.heap.size A l)
    (hn2 : n2 = xs.length) (hm2 : n2 ≤ maxLen) (hA2 : Vals w w.heap.size A2 xs) (hR : ∀ v ∈ xs, IsBool v) :
    Calls Try.prog 13 #[.slice A n c, .slice A2 n2 c2] w fun e w' => e = .returned (.bool true) ∧ Below w.heap.size w w' := by
  by_cases h : 300 < n
  · exact golombReads_bad A A2 n c n2 c2 w (Nat.le_trans hm (by decide)) h
  · exact golombReads_good A n c l A2 n2 c2 xs w hn (by omega) hA hn2 hm2 hA2 hR
end Go.Proofs.Ytdelaobffbaocaa
