/- The statement BitsReads, walked: it returns true and changes nothing that was there. Conditions: the slices read as bytes, and acts. -/
import Derived.Test.YtdelaobffbaocaaLaw01Alive
import Derived.Test.YtdelaobffbaocaaBitsRAny
import Derived.Test.YtdelaobffbaocaaBitsAny
import Derived.Test.YtdelaobffbaocaaActs
import Derived.Test.YtdelaobffbaocaaConv
import Derived.Test.YtdelaobffbaocaaHeld
import Derived.BigQuiet
import Derived.Deep.QuietTactic
namespace Go.Proofs.Ytdelaobffbaocaa
open Go.RowKit Kin

/-- two readers of the same bytes, at one bit -/
def TwoR (w wr : World) (gr rr gm : Nat) (Rm : Option Nat) (l : List UInt8) (k : Nat) : Prop :=
  ReaderIs wr gr rr l k ∧ RefRIs wr gm Rm (Bit.row l) k ∧ Below w.heap.size w wr
/-- they are apart, and new -/
def Apart (n gr rr gm : Nat) (Rm : Option Nat) : Prop := gr ≠ gm ∧ rr ≠ gm ∧ Rm ≠ some gr ∧ n ≤ gr ∧ n ≤ gm
theorem TwoR.getB {w wr W' : World} {gr rr gm : Nat} {Rm : Option Nat} {l : List UInt8} {k k1 : Nat} (h : TwoR w wr gr rr gm Rm l k) (a : Apart w.heap.size gr rr gm Rm) (h1 : ReaderIs W' gr rr l k1) (hc : Chg (One gr) wr W') :
    RefRIs W' gm Rm (Bit.row l) k ∧ Below w.heap.size w W' :=
  ⟨h.2.1.keep hc (fun i hi e => by
    have e : i = gr := e
    subst e
    rcases hi with hi | hi
    · exact a.1 hi
    · exact a.2.2.1 hi), h.2.2.trans (hc.below (fun i e => by have e : i = gr := e; subst e; exact a.2.2.2.1) h.2.2.size)⟩
theorem TwoR.getM {w wr W' : World} {gr rr gm : Nat} {Rm : Option Nat} {l : List UInt8} {k1 : Nat} (h1 : ReaderIs wr gr rr l k1) (hb : Below w.heap.size w wr) (a : Apart w.heap.size gr rr gm Rm) (h2 : RefRIs W' gm Rm (Bit.row l) k1) (hc : Chg (One gm) wr W') :
    TwoR w W' gr rr gm Rm l k1 :=
  ⟨h1.keep hc a.1 a.2.1, h2, hb.trans (hc.below (fun i e => by have e : i = gm := e; subst e; exact a.2.2.2.2) hb.size)⟩

theorem left_b (g r : Nat) (l : List UInt8) (k : Nat) (w : World) (h : ReaderIs w g r l k) :
    Calls Try.prog 32 #[.pointer (some ⟨g, 0, none⟩)] w fun e w' => e = .returned (.int .i64 (8 * (l.length : Int) - (k : Int))) ∧ Below w.heap.size w w' :=
  (left_calls g r l k w h).mono fun _ _ ⟨he, hw⟩ => ⟨he, by subst hw; exact (Below.refl _ _).drew⟩

set_option maxRecDepth 100000 in
set_option maxHeartbeats 2000000 in
theorem bitsReads_bad (A A2 : Option Addr) (n c n2 c2 : Nat) (w : World) (hm : n ≤ 9223372036854775807) (h : 300 < n) :
    Calls Try.prog 6 #[.slice A n c, .slice A2 n2 c2] w fun e w' => e = .returned (.bool true) ∧ Below w.heap.size w w' := by
  go_enter Try.func6, Try.ntmps6
  go_wp2_with (go_at_call 15; refine (alive_calls _).mono ?_; rintro e w1 ⟨rfl, hb⟩)
  go_ret
  exact ⟨rfl, hb⟩

set_option maxRecDepth 100000 in
set_option maxHeartbeats 4000000 in
theorem bitsReads_good (A : Option Addr) (n c : Nat) (l : List UInt8) (A2 : Option Addr) (n2 c2 : Nat) (xs : List (List Value)) (w : World) (hn : n = l.length) (hm : n ≤ 300) (hA : Byt w w.heap.size A l)
    (hn2 : n2 = xs.length) (hm2 : n2 ≤ maxLen) (hA2 : Recs w w.heap.size 3 A2 xs) (hR : ∀ row ∈ xs, ActRow row) :
    Calls Try.prog 6 #[.slice A n c, .slice A2 n2 c2] w fun e w' => e = .returned (.bool true) ∧ Below w.heap.size w w' := by
  have HN := hide hn
  have HN2 := hide hn2
  have HR := hide hR
  clear hn hn2 hR
  unfold maxLen at hm2
  have d1 : decide ((300 : Int) < (n : Int)) = false := by simp; omega
  go_enter Try.func6, Try.ntmps6
  go_wp2_with fail
  refine (open_calls _ _ _ l _ HN.out (by omega) hA).mono ?_
  rintro e w1 ⟨rfl, hr1, b1⟩
  go_wp2_with fail
  refine (refopen_calls _ _ _ l _ HN.out hm (hA.below b1)).mono ?_
  rintro e w2 ⟨gm, Rm, rfl, hm2', ggm, gRm, b2⟩
  have z1 := hr1.lt
  have z0 := b1.size
  obtain ⟨gr, hgr⟩ : ∃ g, g = w.heap.size + 1 := ⟨_, rfl⟩
  obtain ⟨rr, hrr⟩ : ∃ g, g = w.heap.size := ⟨_, rfl⟩
  have AP : Apart w.heap.size gr rr gm Rm := ⟨by omega, by omega, fun e => by have := gRm _ e; omega, by omega, by omega⟩
  rw [← hgr, ← hrr] at hr1
  have T0 : TwoR w w2 gr rr gm Rm l 0 := ⟨hr1.below b2, hm2', b1.trans (b2.mono b1.size)⟩
  rw [← hgr]
  have HAP := hide AP
  have hL : l.length ≤ 300 := by rw [← HN.out]; exact hm
  clear hgr hrr AP hr1 b1 b2 hm2' ggm gRm z1 z0 d1
  go_wp2
  go_loopw [7] (fun iv wr => ∃ (i k : Nat), i ≤ n2 ∧ i ≤ 200 ∧ iv = .int .i64 (i : Int) ∧ TwoR w wr gr rr gm Rm l k) (fun iv _ => n2 - (intOf iv).toNat)
  case atStart => exact ⟨0, 0, by omega, by omega, rfl, T0⟩
  case round =>
    obtain ⟨i, k, hi, hi2, rfl, T⟩ := hrel
    clear T0
    by_cases hlt : i < n2 ∧ i < 200
    · obtain ⟨hlt, hlt2⟩ := hlt
      have hix : i < xs.length := by rw [← HN2.out]; exact hlt
      obtain ⟨b, off, rfl, hb, hl3, hcell⟩ := (hA2.below T.2.2).at_ hix
      obtain ⟨kd, nn, v, hrow, hv0, hv1⟩ := HR.out xs[i] (List.getElem_mem hix)
      rw [hrow] at hcell
      have a0 : wr.cell? ⟨b, off + i * 3, none⟩ = some (.int .i64 kd) := hcell 0 _ rfl
      have a1 := hcell 1 _ rfl
      have a2 := hcell 2 _ rfl
      have d200 : decide ((i : Int) < 200) = true := by simp; omega
      clear hrow hl3 hcell
      have bA := Blk.new wr 43 #[.int .i64 kd, .int .i64 nn, .int .u64 v]
      have hb1 : Below wr.heap.size wr (wr.alloc (.cells #[.int .i64 kd, .int .i64 nn, .int .u64 v] 43)) := (Below.refl _ _).alloc (Nat.le_refl _) _
      have T1 : TwoR w (wr.alloc (.cells #[.int .i64 kd, .int .i64 nn, .int .u64 v] 43)) gr rr gm Rm l k := ⟨T.1.below hb1, T.2.1.below hb1, T.2.2.trans (hb1.mono T.2.2.size)⟩
      have nr : wr.heap.size ≠ gr := by have := T.1.lt; omega
      have nm : wr.heap.size ≠ gm := by have := T.2.1.lt; omega
      have NR := hide nr
      have NM := hide nm
      have cK : (wr.alloc (.cells #[.int .i64 kd, .int .i64 nn, .int .u64 v] 43)).cell? ⟨wr.heap.size, 0, none⟩ = some (.int .i64 kd) := bA.cell 0
      have cN : (wr.alloc (.cells #[.int .i64 kd, .int .i64 nn, .int .u64 v] 43)).cell? ⟨wr.heap.size, 1, none⟩ = some (.int .i64 nn) := bA.cell 1
      have hcase : kd = 3 ∨ kd = 4 ∨ (¬ kd = 3 ∧ ¬ kd = 4) := by omega
      clear T hb1 nr nm
      rcases hcase with rfl | rfl | ⟨hk1, hk2⟩
      case' inl =>
        go_wp2_with fail
        generalize wr.alloc (.cells #[.int .i64 3, .int .i64 nn, .int .u64 v] 43) = W at *
        refine (get_any gr rr l k nn _ T1.1).mono ?_
        rintro e t2 ⟨rfl, hr2, ch2⟩
        obtain ⟨hm2, bel2⟩ := T1.getB HAP.out hr2 ch2
        have bA2 := ch2.blk bA NR.out
        have cN2 : t2.cell? ⟨wr.heap.size, 1, none⟩ = some (.int .i64 nn) := bA2.cell 1
        go_wp2_with fail
        refine (refget_any gm Rm l k nn _ hm2).mono ?_
        rintro e t3 ⟨rfl, hm3, ch3⟩
        have T2 := TwoR.getM hr2 bel2 HAP.out hm3 ch3
        have bA3 := ch3.blk bA2 NM.out
        have cK3 : t3.cell? ⟨wr.heap.size, 0, none⟩ = some (.int .i64 3) := bA3.cell 0
        generalize getK (8 * l.length) k nn = k2 at *
        have q1 : ((getV l k nn : Int) != (getV l k nn : Int)) = false := by simp
        have q2 : (getE (8 * l.length) k nn != getE (8 * l.length) k nn) = false := by simp
        generalize getV l k nn = V1 at *
        generalize getE (8 * l.length) k nn = E1 at *
        clear hr2 ch2 hm2 bel2 bA2 cN2 hm3 ch3 bA3 T1 bA cK cN
        go_wp2
        obtain ⟨WT, rfl⟩ : ∃ x, x = t3 := ⟨_, rfl⟩
      case' inr.inl =>
        go_wp2_with fail
        generalize wr.alloc (.cells #[.int .i64 4, .int .i64 nn, .int .u64 v] 43) = W at *
        refine (ralign_any gr rr l k _ T1.1).mono ?_
        rintro e t2 ⟨rfl, hr2, ch2⟩
        obtain ⟨hm2, bel2⟩ := T1.getB HAP.out hr2 ch2
        go_wp2_with fail
        refine (refralign_calls gm Rm _ k _ hm2 (by rw [Bit.length_row]; omega)).mono ?_
        rintro e t3 ⟨rfl, hm3, ch3⟩
        have T2 := TwoR.getM hr2 bel2 HAP.out hm3 ch3
        generalize alK (Bit.restB (Bit.row l) k) k = k2 at *
        have q2 : (alE (Bit.restB (Bit.row l) k) != alE (Bit.restB (Bit.row l) k)) = false := by simp
        generalize alE (Bit.restB (Bit.row l) k) = E1 at *
        clear hr2 ch2 hm2 bel2 hm3 ch3 T1 bA cK cN
        go_wp2
        obtain ⟨WT, rfl⟩ : ∃ x, x = t3 := ⟨_, rfl⟩
      case' inr.inr =>
        have e1 : (kd == 3) = false := by simpa using hk1
        have e2 : (kd == 4) = false := by simpa using hk2
        clear hk1 hk2
        go_wp2
        have T2 := T1
        clear T1 bA cK cN a0 a1 a2
        obtain ⟨k2, rfl⟩ : ∃ x, x = k := ⟨_, rfl⟩
        generalize wr.alloc (.cells #[.int .i64 kd, .int .i64 nn, .int .u64 v] 43) = WT at *
      all_goals
        have hrTd := T2.1.below (Below.refl _ _).drew
        have hmTd := T2.2.1.below (Below.refl _ _).drew
        have belTd := T2.2.2.drew
        have HM := hide hmTd
        obtain ⟨⟨A5, n5, c5, bk5, ow5, r5⟩, hk5, hB5⟩ := hmTd
        have hn5 : n5 = 8 * l.length := by rw [ow5.1, Bit.length_zo, Bit.length_row]
        have hk8 : k2 ≤ 8 * l.length := by rw [Bit.length_row] at hk5; exact hk5
        have e5 : IntKind.i64.wrap ((n5 : Int) - (k2 : Int)) = (n5 : Int) - (k2 : Int) := by rw [IntKind.wrap_i64]; omega
        have q5 : ((k2 : Int) != (k2 : Int)) = false := by simp
        have q6 : ((8 * (l.length : Int) - (k2 : Int)) != ((n5 : Int) - (k2 : Int))) = false := by rw [hn5]; simp
        have HPD := hide (pack_drop l ((k2 + 7) / 8))
        have H8 : Hid ((Bit.row l).length % 8 = 0) := by show _ = _; rw [Bit.length_row]; omega
        clear hn5 hk5 hB5
        go_region_held3 (fun w' => w'.cell? ⟨gm, 0, none⟩ = some (.slice A5 n5 c5) ∧ w'.cell? ⟨gm, 1, none⟩ = some (.int .i64 (k2 : Int)))
          (first | exact ⟨bk5.cell 0, bk5.cell 1⟩ | exact ⟨bk6.cell 0, bk6.cell 1⟩ | exact ⟨⟨bk7.cell 0, bk7.cell 1⟩, Below.refl _ _⟩ | exact ⟨⟨⟨bk8.cell 0, bk8.cell 1⟩, b8⟩, Below.refl _ _⟩)
          (first
            | (go_at_call 20; ((with_reducible refine (at_calls gr rr l _ _ hrTd).mono ?_)); rintro e v1 ⟨rfl, rfl⟩)
            | (go_at_call 32; ((with_reducible refine (left_b gr rr l _ _ hrTd).mono ?_)); rintro e t6 ⟨rfl, b6⟩; have bk6 := bk5.below b6 bk5.lt; have hr6 := hrTd.below b6)
            | (go_at_call 27; ((with_reducible refine (rest_calls gr rr l _ _ hr6).mono ?_)); rintro e t7 ⟨A7, n7, c7, rfl, o7, gg7, b7⟩; have bk7 := bk6.below b7 bk6.lt; have hm7 := (HM.out.below b6).below b7; have cv7 : ∀ w', Below t7.heap.size t7 w' → Sem.run Try.prog (convert 22 9 (.slice A7 n7 c7)) w' = .ok (.string (str (l.drop ((k2 + 7) / 8)))) w' := (fun w' b => run_conv8 bytesT Try.underlying9 A7 n7 c7 _ (o7.byt.below b) o7.1); simp only [shut_strong (fun w' => Below t7.heap.size t7 w')] at *)
            | (go_at_call 33; ((with_reducible refine (refrest_calls gm Rm _ k2 _ hm7 H8.out).mono ?_)); rintro e t8 ⟨A8, n8, c8, rfl, o8, gg8, b8⟩; rw [HPD.out] at o8; have bk8 := bk7.below b8 bk7.lt; have cv8 : ∀ w', Below t8.heap.size t8 w' → Sem.run Try.prog (convert 22 9 (.slice A8 n8 c8)) w' = .ok (.string (str (l.drop ((k2 + 7) / 8)))) w' := (fun w' b => run_conv8 bytesT Try.underlying9 A8 n8 c8 _ (o8.byt.below b) o8.1); simp only [shut_strong (fun w' => Below t8.heap.size t8 w')] at *))
        have b68 := (bnext (bnext b6 b7) b8)
        have T8 : TwoR w t8 gr rr gm Rm l k2 := ⟨hrTd.below b68, HM.out.below b68, belTd.trans (b68.mono belTd.size)⟩
        go_wp2
        go_roundw
        case rel => exact ⟨i + 1, k2, by omega, by omega, by go_num, T8⟩
        case measure => simp [intOf]; omega
    · have bel := T.2.2
      have hcase : n2 ≤ i ∨ (i < n2 ∧ i = 200) := by omega
      clear hlt
      rcases hcase with hge | ⟨hlt, rfl⟩
      · go_wp2_with (go_at_call 15; refine (alive_calls _).mono ?_; rintro e w3 ⟨rfl, hb⟩)
        go_ret
        exact ⟨rfl, bel.trans (hb.mono bel.size)⟩
      · rw [show ((200 : Nat) : Int) = 200 from rfl]
        have hlt2 : (200 : Int) < (n2 : Int) := by omega
        go_wp2_with (go_at_call 15; refine (alive_calls _).mono ?_; rintro e w3 ⟨rfl, hb⟩)
        go_ret
        exact ⟨rfl, bel.trans (hb.mono bel.size)⟩

theorem bitsReads_walk (A : Option Addr) (n c : Nat) (l : List UInt8) (A2 : Option Addr) (n2 c2 : Nat) (xs : List (List Value)) (w : World) (hn : n = l.length) (hm : n ≤ maxLen) (hA : Byt w w.heap.size A l)
    (hn2 : n2 = xs.length) (hm2 : n2 ≤ maxLen) (hA2 : Recs w w.heap.size 3 A2 xs) (hR : ∀ row ∈ xs, ActRow row) :
    Calls Try.prog 6 #[.slice A n c, .slice A2 n2 c2] w fun e w' => e = .returned (.bool true) ∧ Below w.heap.size w w' := by
  by_cases h : 300 < n
  · exact bitsReads_bad A A2 n c n2 c2 w (Nat.le_trans hm (by decide)) h
  · exact bitsReads_good A n c l A2 n2 c2 xs w hn (by omega) hA hn2 hm2 hA2 hR
end Go.Proofs.Ytdelaobffbaocaa
