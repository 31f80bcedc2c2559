/- The statement BitsOwn, walked: it returns true and changes nothing that was there. Conditions: the slice reads as bytes. -/
import Derived.Test.YtdelaobffbaocaaLaw01Alive
import Derived.Test.YtdelaobffbaocaaBitsPlain2
import Derived.Test.YtdelaobffbaocaaConv
import Derived.Test.YtdelaobffbaocaaHeld
import Derived.OpenShut
namespace Go.Proofs.Ytdelaobffbaocaa
open Go.RowKit Kin

set_option maxRecDepth 100000 in
set_option maxHeartbeats 2000000 in
theorem bitsOwn_bad (A : Option Addr) (n c : Nat) (v : Int) (w : World) (hm : n ≤ 9223372036854775807) (h : 300 < n) :
    Calls Try.prog 5 #[.slice A n c, .int .u64 v] w fun e w' => e = .returned (.bool true) ∧ Below w.heap.size w w' := by
  go_enter Try.func5, Try.ntmps5
  go_wp2_with (go_at_call 15; refine (alive_calls _).mono ?_; rintro e w1 ⟨rfl, hb⟩)
  go_ret
  exact ⟨rfl, hb⟩

theorem u8_turn (b : UInt8) : ∃ x : UInt8, bits BinOp.xor IntKind.u8 (b.toNat : Int) 255 = (x.toNat : Int) :=
  ⟨b ^^^ 255, by rw [UInt8.toNat_xor]; exact u8_xor_nat b.toNat 255 b.toNat_lt (by omega)⟩

set_option maxRecDepth 100000 in
set_option maxHeartbeats 4000000 in
theorem bitsOwn_good (A : Option Addr) (n c : Nat) (l : List UInt8) (v : Nat) (w : World) (hn : n = l.length) (hm : n ≤ 300) (hv : v < 2 ^ 64) (hA : Byt w w.heap.size A l) :
    Calls Try.prog 5 #[.slice A n c, .int .u64 (v : Int)] w fun e w' => e = .returned (.bool true) ∧ Below w.heap.size w w' := by
  have HN := hide hn
  clear hn
  have d1 : decide ((300 : Int) < (n : Int)) = false := by simp; omega
  go_enter Try.func5, Try.ntmps5
  go_wp2_with (at_builtin; refine wpList_append8 (by rfl) (.tmp 17) (.tmp 18) 22 5 (by rfl) bytesT _ _ _ [] (by rfl) (Own8.new w #[] 5 0 [] rfl rfl (by decide)) _ _ _ _ l (by rfl) (hA.below ((Below.refl _ _).alloc (Nat.le_refl _) _)) HN.out (by omega) ?_; intro A1 c1 w1 own1 grow1 at1; simp only [Nat.zero_add, List.nil_append] at own1)
  have bel1 : Below w.heap.size w w1 := Below.grown ((Below.refl _ _).alloc (Nat.le_refl _) _) grow1 (by simp) (by simp [blkOf])
  have ge1 : ∀ g, blkOf A1 = some g → w.heap.size ≤ g := by
    intro g hg
    rcases at1 with h | h <;> (rw [hg] at h; simp [blkOf] at h; omega)
  have lt1 : ∀ g, blkOf A1 = some g → g < w1.heap.size := own1.lt
  clear grow1 at1
  refine (open_calls _ _ _ l _ HN.out (by omega) own1.byt).mono ?_
  rintro e w2 ⟨rfl, hr2, b2⟩
  have own2 := own1.below b2 lt1
  have bel2 := bel1.trans (b2.mono bel1.size)
  have z12 := hr2.lt
  clear own1 b2 bel1
  go_wp2_with fail
  refine (new_calls _).mono ?_
  rintro e w3 ⟨rfl, hw3, b3⟩
  have own3 := own2.below b3 (fun g hg => by have := lt1 g hg; omega)
  have hr3 := hr2.below b3
  have bel3 := bel2.trans (b3.mono bel2.size)
  have z23 := hw3.lt
  have z02 := bel2.size
  clear own2 b3 bel2 hr2
  go_wp2_with fail
  refine (put_calls _ none [] v 64 _ hw3 (by simp) (by omega) hv).mono ?_
  rintro e w4 ⟨rfl, Rw, hw4, ch4, r4⟩
  have hR4 := r4.ge (B := w2.heap.size) (by simp) (by omega)
  have own4 := ch4.own own3 (fun g hg => Foot.not (B := w2.heap.size) (by have := lt1 g hg; omega) (Nat.le_refl _) (by simp))
  have hr4 := hr3.keep ch4 (Foot.not (B := w2.heap.size) (by omega) (Nat.le_refl _) (by simp)) (Foot.not (B := w2.heap.size) (by omega) (Nat.le_refl _) (by simp))
  have bel4 := bel3.trans (ch4.below (Foot.ge (by omega) (by simp)) bel3.size)
  have z34 := hw4.lt
  clear own3 hr3 ch4 r4 bel3 hw3
  rw [List.nil_append] at hw4
  have HG : Hid (Bit.get (Bit.pack (Bit.digits v 64)) 0 64 = v) := by
    have e := Bit.get_pack (Bit.digits v 64) 0 64 (by rw [Bit.length_digits]; omega)
    show Bit.get (Bit.pack (Bit.digits v 64)) 0 64 = v
    rw [e, List.drop_zero, List.take_of_length_le (by rw [Bit.length_digits]; omega), Bit.num_digits, Nat.mod_eq_of_lt hv]
  have hL : (Bit.digits v 64).length = 64 := Bit.length_digits v 64
  have hP : (Bit.pack (Bit.digits v 64)).length = 8 := by rw [Bit.length_pack, hL]
  generalize Bit.digits v 64 = L at *
  go_wp2_with fail
  refine (wbytes_calls _ Rw L _ hw4 (by omega)).mono ?_
  rintro e w5 ⟨A5, n5, c5, rfl, own5, ge5, b5⟩
  have hr5 := hr4.below b5
  have hw5 := hw4.below b5
  have ownb := own4.below b5 own4.lt
  have bel5 := bel4.trans (b5.mono bel4.size)
  have hn5 : n5 = 8 := by rw [own5.1, hP]
  subst hn5
  have lt5 : ∀ g, blkOf A5 = some g → g < w5.heap.size := own5.lt
  have hRlt := hw4.rlt
  have z04 := bel4.size
  clear hr4 hw4 own4 b5 bel4
  obtain ⟨rr, hrr⟩ : ∃ r, r = w1.heap.size := ⟨_, rfl⟩
  obtain ⟨gr, hgr⟩ : ∃ r, r = w1.heap.size + 1 := ⟨_, rfl⟩
  obtain ⟨gw, hgw⟩ : ∃ r, r = w2.heap.size := ⟨_, rfl⟩
  rw [← hgr, ← hrr] at hr5
  rw [← hgw] at hw5
  rw [← hgr, ← hgw]
  have HF1 : Hid (∀ k, blkOf A1 = some k → k ≠ rr ∧ k ≠ gr ∧ ¬ Foot gw Rw k ∧ blkOf A5 ≠ some k ∧ w.heap.size ≤ k) := by
    intro k hk
    have h1 := lt1 k hk
    refine ⟨by omega, by omega, Foot.not (B := w2.heap.size) (by omega) (by omega) hR4, ?_, ge1 k hk⟩
    intro h5
    have := ge5 k h5
    omega
  have HF5 : Hid (∀ k, blkOf A5 = some k → k ≠ rr ∧ k ≠ gr ∧ ¬ Foot gw Rw k ∧ w.heap.size ≤ k) := by
    intro k hk
    have h1 := ge5 k hk
    have h2 := bel5.size
    refine ⟨by omega, by omega, ?_, by omega⟩
    rintro (h | h)
    · omega
    · have := hRlt k h
      omega
  clear hrr hgr hgw lt1 ge1 ge5 hR4 hRlt z12 z23 z34
  go_wp2
  go_loopw [9] (fun iv wr => ∃ (j : Nat) (m : List UInt8), j ≤ n ∧ iv = .int .i64 j ∧ Own8 wr 5 A1 n c1 m ∧ Chg (fun k => blkOf A1 = some k) w5 wr) (fun iv _ => n - (intOf iv).toNat)
  case atStart => exact ⟨0, l, by omega, rfl, ownb, Chg.refl _ _⟩
  case round =>
    obtain ⟨j, m, hj, rfl, q, qc⟩ := hrel
    by_cases hlt : j < n
    · obtain ⟨g, b, rfl, hb, hc, hf⟩ := q.at_ hlt
      obtain ⟨x, hx⟩ := u8_turn b
      clear hb
      go_wp2
      go_roundw
      case rel => exact ⟨j + 1, m.set j x, by omega, by go_num, q.set rfl x, qc.setCell (p := ⟨g, j, none⟩) (.inl rfl) _⟩
      case measure => simp [intOf]; omega
    · obtain rfl : j = n := by omega
      clear hlt
      have own5' := qc.own own5 (fun g hg h => (HF1.out g h).2.2.2.1 hg)
      have hr6 := hr5.keep qc (fun h => (HF1.out _ h).2.1 rfl) (fun h => (HF1.out _ h).1 rfl)
      have hw6 := hw5.keep qc (fun k hk h => (HF1.out _ h).2.2.1 hk)
      have bel6 := bel5.trans (qc.below (fun k h => (HF1.out _ h).2.2.2.2) bel5.size)
      clear q qc own5 hr5 hw5 bel5 ownb
      go_wp2
      go_loopw [10] (fun iv wr' => ∃ (i : Nat) (m : List UInt8), i ≤ 8 ∧ iv = .int .i64 i ∧ Own8 wr' 5 A5 8 c5 m ∧ Chg (fun k => blkOf A5 = some k) wr wr') (fun iv _ => 8 - (intOf iv).toNat)
      case atStart => exact ⟨0, _, by omega, rfl, own5', Chg.refl _ _⟩
      case round =>
        obtain ⟨i, m', hi, rfl, q, qc⟩ := hrel
        by_cases hlt : i < 8
        · obtain ⟨g, b, rfl, hb, hc, hf⟩ := q.at_ hlt
          clear hb
          go_wp2
          go_roundw
          case rel => exact ⟨i + 1, m'.set i 0, by omega, by go_num, q.set rfl 0, qc.setCell (p := ⟨g, i, none⟩) (.inl rfl) _⟩
          case measure => simp [intOf]; omega
        · obtain rfl : i = 8 := by omega
          rw [show (((8 : Nat) : Int)) = 8 from rfl]
          clear hlt
          have hr7 := hr6.keep qc (fun h => (HF5.out _ h).2.1 rfl) (fun h => (HF5.out _ h).1 rfl)
          have hw7 := hw6.keep qc (fun k hk h => (HF5.out _ h).2.2.1 hk)
          have bel7 := bel6.trans (qc.below (fun k h => (HF5.out _ h).2.2.2) bel6.size)
          clear q qc own5' hr6 hw6 bel6
          go_wp2_with fail
          refine (wbytes_calls _ Rw L _ hw7 (by omega)).mono ?_
          rintro e w8 ⟨A8, n8, c8, rfl, own8, ge8, b8⟩
          have hr8 := hr7.below b8
          have bel8 := bel7.trans (b8.mono bel7.size)
          have hn8 : n8 = 8 := by rw [own8.1, hP]
          subst hn8
          clear hr7 hw7 b8 bel7 ge8
          go_wp2_with fail
          refine (open_calls _ _ _ (Bit.pack L) _ hP.symm (by omega) own8.byt).mono ?_
          rintro e w9 ⟨rfl, hs9, b9⟩
          have hr9 := hr8.below b9
          have bel9 := bel8.trans (b9.mono bel8.size)
          have z9 := hr8.lt
          have z9' := hr8.rlt
          go_wp2_with fail
          refine (get_calls _ _ (Bit.pack L) 0 64 _ hs9 (by omega) (by omega)).mono ?_
          rintro e w10 ⟨rfl, hs10, c10⟩
          have hr10 := hr9.keep c10 (fun h => by have h : gr = w8.heap.size + 1 := h; omega) (fun h => by have h : rr = w8.heap.size + 1 := h; omega)
          have bel10 := bel9.trans (c10.below (fun k h => by have h : k = w8.heap.size + 1 := h; have := bel8.size; omega) bel9.size)
          rw [HG.out]
          clear hr8 own8 bel8 hs9 b9 hr9 bel9 hs10 c10 z9 z9'
          go_wp2
          have hr10d := hr10.below (Below.refl _ _).drew
          have bel10d := bel10.drew
          have cvA : ∀ w', Below w.heap.size w w' → Sem.run Try.prog (convert 22 9 (.slice A j c)) w' = .ok (.string (str l)) w' := fun w' b => run_conv8 bytesT Try.underlying9 A j c _ (hA.below b) HN.out
          go_region_held3 (fun w' => Below w.heap.size w w')
            (first | exact bel10d | exact bb1 | exact ⟨bb2, Below.refl _ _⟩)
            (first
              | (go_at_call 15; refine (alive_calls _).mono ?_; rintro e t1 ⟨rfl, b1⟩; have q1 := hr10d.below b1; have bb1 := bel10d.trans (b1.mono bel10d.size))
              | (go_at_call 27; refine (rest_calls gr rr l 0 _ q1).mono ?_; rintro e t2 ⟨A2, n2, c2, rfl, o2, gg2, b2⟩; have bb2 := bb1.trans (b2.mono bb1.size); have cv2 : ∀ w', Below t2.heap.size t2 w' → Sem.run Try.prog (convert 22 9 (.slice A2 n2 c2)) w' = .ok (.string (str l)) w' := (fun w' b => run_conv8 bytesT Try.underlying9 A2 n2 c2 _ (o2.byt.below b) o2.1); simp only [shut_strong (fun w' => Below t2.heap.size t2 w')] at *))
          all_goals
            go_wp2
            go_ret
            exact ⟨rfl, bb2⟩

theorem bitsOwn_walk (A : Option Addr) (n c : Nat) (l : List UInt8) (v : Int) (w : World) (hn : n = l.length) (hm : n ≤ maxLen) (hA : Byt w w.heap.size A l) (wv : (Lit.int .u64 v).wf = true) :
    Calls Try.prog 5 #[.slice A n c, .int .u64 v] w fun e w' => e = .returned (.bool true) ∧ Below w.heap.size w w' := by
  have ⟨a1, a2⟩ := bounds_u64 wv
  by_cases h : 300 < n
  · exact bitsOwn_bad A n c v w (Nat.le_trans hm (by decide)) h
  · obtain ⟨v, rfl⟩ : ∃ k : Nat, v = k := ⟨v.toNat, by omega⟩
    exact bitsOwn_good A n c l v w hn (by omega) (by omega) hA
end Go.Proofs.Ytdelaobffbaocaa
