/- A media in memory: its samples' slice reads as a list of bytes' lists; which media are right, and such as are gone through. Conditions: all lengths together are at most 2^40. -/
import Derived.Test.YtakglalebjkpeaaHSegRight
namespace Sg
open Go Go.RowKit Kin

/-- a sample's cell, and its bytes -/
structure Smp where
  A : Option Addr
  n : Nat
  c : Nat
  d : List UInt8
def Smp.val (x : Smp) : Value := .slice x.A x.n x.c
def Smp.ok (w : World) (B : Nat) (x : Smp) : Prop := x.n = x.d.length ∧ x.n ≤ x.c ∧ Byt w B x.A x.d
/-- the slice at A reads as the samples xs, all below block B -/
def Samps (w : World) (B : Nat) (A : Option Addr) (xs : List Smp) : Prop := Vals w B A (xs.map Smp.val) ∧ ∀ x ∈ xs, x.ok w B
def dats (xs : List Smp) : List (List UInt8) := xs.map Smp.d
section
variable {w w' : World} {B : Nat} {A : Option Addr} {xs : List Smp} {x : Smp}
theorem Smp.ok.below (h : x.ok w B) (hb : Below B w w') : x.ok w' B := ⟨h.1, h.2.1, h.2.2.below hb⟩
theorem Smp.ok.more {B' : Nat} (h : x.ok w B) (hb : B ≤ B') : x.ok w B' := ⟨h.1, h.2.1, h.2.2.more hb⟩
theorem Samps.below (h : Samps w B A xs) (hb : Below B w w') : Samps w' B A xs := ⟨h.1.below hb, fun x hx => (h.2 x hx).below hb⟩
theorem Samps.more {B' : Nat} (h : Samps w B A xs) (hb : B ≤ B') : Samps w B' A xs :=
  ⟨fun hl => by obtain ⟨b, off, e, h1, h2⟩ := h.1 hl; exact ⟨b, off, e, by omega, h2⟩, fun x hx => (h.2 x hx).more hb⟩
theorem Samps.of_below (h : Samps w w.heap.size A xs) (hb : Below w.heap.size w w') : Samps w' w'.heap.size A xs := (h.below hb).more hb.size
theorem Samps.at_ (h : Samps w B A xs) {i : Nat} (hi : i < xs.length) : ∃ b off, A = some ⟨b, off, none⟩ ∧ b < B ∧ w.cell? ⟨b, off + i, none⟩ = some (.slice (xs[i]).A (xs[i]).n (xs[i]).c) ∧ (xs[i]).ok w B := by
  obtain ⟨b, off, e, hb, hc⟩ := h.1.at_ (k := i) (by simpa using hi)
  rw [List.getElem_map] at hc
  exact ⟨b, off, e, hb, hc, h.2 _ (List.getElem_mem hi)⟩
end
theorem length_dats (xs : List Smp) : (dats xs).length = xs.length := by simp [dats]
theorem dats_at (xs : List Smp) {i : Nat} (hi : i < xs.length) : (dats xs)[i]? = some xs[i].d := by simp [dats, hi]
theorem take_dats (xs : List Smp) {i : Nat} (hi : i < xs.length) : (dats xs).take (i + 1) = (dats xs).take i ++ [xs[i].d] := by
  rw [List.take_add_one, dats_at xs hi]; rfl
theorem flat_take (L : List (List UInt8)) (k : Nat) : (L.take k).flatten.length ≤ L.flatten.length := by
  have : L.flatten = (L.take k).flatten ++ (L.drop k).flatten := by rw [← List.flatten_append, List.take_append_drop]
  rw [this, List.length_append]; omega
theorem flat_snoc (L : List (List UInt8)) (x : List UInt8) : (L ++ [x]).flatten.length = L.flatten.length + x.length := by simp

/-- such media as are gone through -/
def fits (L : List (List UInt8)) : Bool := decide (L.length ≤ 80) && decide (L.flatten.length ≤ 2000)
theorem fits_of {L : List (List UInt8)} (h : fits L = true) : L.length ≤ 80 ∧ L.flatten.length ≤ 2000 := by
  unfold fits at h
  simpa using h
theorem fits_true {L : List (List UInt8)} (h1 : L.length ≤ 80) (h2 : L.flatten.length ≤ 2000) : fits L = true := by unfold fits; rw [decide_eq_true h1, decide_eq_true h2]; rfl
theorem fits_false {L : List (List UInt8)} (h : 80 < L.length ∨ 2000 < L.flatten.length) : fits L = false := by
  cases e : fits L
  · rfl
  · have := fits_of e; omega
end Sg

namespace Go.Proofs.Ytakglalebjkpeaa.C17
open Go.RowKit Kin Go.Proofs.Ytakglalebjkpeaa Go.Proofs.Ytakglalebjkpeaa.C16

abbrev medV (N F : Int) (A : Option Addr) (n c : Nat) : Value := .agg #[.int .i64 N, .int .i64 F, .slice A n c]
theorem med_cells {w : World} {g : Nat} {t : TypeId} {x y z : Value} (h : Blk w g t #[x, y, z]) : w.cell? ⟨g, 0, none⟩ = some x ∧ w.cell? ⟨g, 1, none⟩ = some y ∧ w.cell? ⟨g, 2, none⟩ = some z := ⟨h.cell 0, h.cell 1, h.cell 2⟩
/-- the cell of a sample, beside new blocks -/
theorem samp_cell {w w' : World} {B : Nat} {A : Option Addr} {xs : List Sg.Smp} (h : Sg.Samps w B A xs) (hb : Below B w w') {i : Nat} (hi : i < xs.length) : ∃ b off, A = some ⟨b, off, none⟩ ∧ b < B ∧ w'.cell? ⟨b, off + i, none⟩ = some (.slice (xs[i]).A (xs[i]).n (xs[i]).c) ∧ (xs[i]).ok w' B :=
  (h.below hb).at_ hi

set_option maxRecDepth 100000 in
set_option maxHeartbeats 2000000 in
theorem fits_calls (N F : Int) (A : Option Addr) (n c : Nat) (xs : List Sg.Smp) (w : World) (hn : n = xs.length) (hm : n ≤ 9223372036854775807) (hA : Sg.Samps w w.heap.size A xs) (hT : (Sg.dats xs).flatten.length ≤ 1099511627776) :
    Calls Try.prog 8 #[medV N F A n c] w (C16.RetBool w (Sg.fits (Sg.dats xs))) := by
  have HN := hide hn
  have HT := hide hT
  clear hn hT
  have b0 : Below w.heap.size w (w.alloc (.cells #[.int .i64 N, .int .i64 F, .slice A n c] 28)) := (Below.refl _ _).alloc (Nat.le_refl _) _
  have bk := Blk.new w 28 #[.int .i64 N, .int .i64 F, .slice A n c]
  obtain ⟨_, _, c2⟩ := med_cells bk
  go_enter Try.func8, Try.ntmps8
  go_wp2
  go_loopw [3, 4] (fun sv iv wr => ∃ (k s : Nat), k ≤ n ∧ k ≤ 80 ∧ iv = .int .i64 (k : Int) ∧ sv = .int .i64 (s : Int) ∧ Hid (s = ((Sg.dats xs).take k).flatten.length) ∧ s ≤ 2000 ∧ wr = w.alloc (.cells #[.int .i64 N, .int .i64 F, .slice A n c] 28)) (fun _ iv _ => n - (intOf iv).toNat)
  case atStart => exact ⟨0, 0, by omega, by omega, rfl, rfl, rfl, by omega, rfl⟩
  case round =>
    obtain ⟨k, s, hk, hk80, rfl, rfl, hs, hs2, rfl⟩ := hrel
    by_cases hlt : k < n
    · have hkx : k < xs.length := by rw [← HN.out]; exact hlt
      obtain ⟨b, off, rfl, hb, c3, hok⟩ := samp_cell hA b0 hkx
      have hlen := hide hok.1
      have HK := hide (Sg.take_dats xs hkx)
      have HZ := hide (Sg.flat_take (Sg.dats xs) (k + 1))
      rw [HK.out, Sg.flat_snoc, ← hs.out] at HZ
      generalize hx : xs[k] = x at *
      obtain ⟨xA, xn, xc, xd⟩ := x
      dsimp only at c3 hlen HK HZ
      clear hx hok
      have hz : s + xn ≤ 1099511627776 := by have := HZ.out; have := hlen.out; have := HT.out; omega
      have i0 : (0 : Int) ≤ (k : Int) := by omega
      have i1 : (k : Int) < (n : Int) := by omega
      have HE : Hid (80 < n → Sg.fits (Sg.dats xs) = false) := fun h => Sg.fits_false (Or.inl (by rw [Sg.length_dats, ← HN.out]; exact h))
      have HE2 : Hid (2000 < s + xn → Sg.fits (Sg.dats xs) = false) := fun h => Sg.fits_false (Or.inr (by have := HZ.out; have := hlen.out; omega))
      have HA := hide hA
      clear hA
      by_cases h80 : k = 80
      · subst h80
        have h80' : ((80 : Nat) : Int) = 80 := rfl
        rw [h80'] at *
        go_wp2
        go_ret
        exact ⟨by rw [HE.out hlt]; rfl, b0⟩
      · have d1 : ¬ (k : Int) = 80 := by omega
        by_cases hbig : 2000 < s + xn
        · have d2 : (2000 : Int) < (s : Int) + (xn : Int) := by omega
          go_wp2
          go_ret
          exact ⟨by rw [HE2.out hbig]; rfl, b0⟩
        · have d2 : ¬ (2000 : Int) < (s : Int) + (xn : Int) := by omega
          go_wp2
          go_roundw
          case rel => exact ⟨k + 1, s + xn, by omega, by omega, by go_num, by go_num, by rw [HK.out, Sg.flat_snoc, ← hs.out, hlen.out]; exact rfl, by omega, trivial⟩
          case measure => simp [intOf]; omega
    · obtain rfl : n = k := by omega
      have HE : Hid (Sg.fits (Sg.dats xs) = true) := by
        rw [List.take_of_length_le (by rw [Sg.length_dats, ← HN.out]; omega)] at hs
        exact Sg.fits_true (by rw [Sg.length_dats, ← HN.out]; exact hk80) (by rw [← hs.out]; exact hs2)
      clear hlt
      go_wp2
      go_ret
      exact ⟨by rw [HE.out]; rfl, b0⟩

set_option maxRecDepth 100000 in
set_option maxHeartbeats 2000000 in
theorem rightM_calls (N F : Int) (A : Option Addr) (n c : Nat) (xs : List Sg.Smp) (w : World) (hn : n = xs.length) (hm : n ≤ 9223372036854775807) (hA : Sg.Samps w w.heap.size A xs) (hT : (Sg.dats xs).flatten.length ≤ 1099511627776) :
    Calls Try.prog 16 #[medV N F A n c] w (C16.RetBool w (Sg.rightM ⟨N, F, Sg.dats xs⟩)) := by
  have HN := hide hn
  have HT := hide hT
  clear hn hT
  have b0 : Below w.heap.size w (w.alloc (.cells #[.int .i64 N, .int .i64 F, .slice A n c] 28)) := (Below.refl _ _).alloc (Nat.le_refl _) _
  have bk := Blk.new w 28 #[.int .i64 N, .int .i64 F, .slice A n c]
  obtain ⟨c0, c1, c2⟩ := med_cells bk
  have hd : ¬ (0 ≤ N ∧ N < 1024 ∧ 0 ≤ F ∧ F < 1024) ∨ (0 ≤ N ∧ N < 1024 ∧ 0 ≤ F ∧ F < 1024) := by omega
  rcases hd with hd | hd
  · have HR : Hid (Sg.rightM ⟨N, F, Sg.dats xs⟩ = false) := Sg.rightM_false (fun h => hd h.1)
    have hq : N < 0 ∨ (0 ≤ N ∧ 1024 ≤ N) ∨ (0 ≤ N ∧ N < 1024 ∧ F < 0) ∨ (0 ≤ N ∧ N < 1024 ∧ 0 ≤ F ∧ 1024 ≤ F) := by omega
    clear hd
    go_enter Try.func16, Try.ntmps16
    rcases hq with hq | hq | hq | hq
    all_goals
      go_wp2
      go_ret
      exact ⟨by rw [HR.out]; rfl, b0⟩
  · by_cases hl : ¬ (1 ≤ n ∧ n ≤ 64)
    · have HR : Hid (Sg.rightM ⟨N, F, Sg.dats xs⟩ = false) := Sg.rightM_false (fun h => by
        have := h.2.1
        dsimp only at this
        rw [Sg.length_dats, ← HN.out] at this
        exact hl this)
      obtain ⟨q1, q2, q3, q4⟩ := hd
      have hq : (n : Int) < 1 ∨ (1 ≤ (n : Int) ∧ 64 < (n : Int)) := by omega
      clear hl
      go_enter Try.func16, Try.ntmps16
      rcases hq with hq | hq
      all_goals
        go_wp2
        go_ret
        exact ⟨by rw [HR.out]; rfl, b0⟩
    · have hl' : 1 ≤ n ∧ n ≤ 64 := by omega
      have HL : Hid (1 ≤ (Sg.dats xs).length ∧ (Sg.dats xs).length ≤ 64) := by rw [Sg.length_dats, ← HN.out]; exact hl'
      have HD := hide hd
      obtain ⟨q1, q2, q3, q4⟩ := hd
      obtain ⟨l1, l2⟩ := hl'
      have l1' : (1 : Int) ≤ (n : Int) := by omega
      have l2' : (n : Int) ≤ 64 := by omega
      clear hl
      go_enter Try.func16, Try.ntmps16
      go_wp2
      go_loopw [3, 37] (fun sv iv wr => ∃ (k s : Nat), k ≤ n ∧ iv = .int .i64 (k : Int) ∧ sv = .int .i64 (s : Int) ∧ Hid (s = ((Sg.dats xs).take k).flatten.length) ∧ s ≤ 1099511627776 ∧ Hid (∀ y ∈ (Sg.dats xs).take k, 1 ≤ y.length) ∧ wr = w.alloc (.cells #[.int .i64 N, .int .i64 F, .slice A n c] 28)) (fun _ iv _ => n - (intOf iv).toNat)
      case atStart => exact ⟨0, 0, by omega, rfl, rfl, rfl, by omega, (by intro y hy; simp at hy), rfl⟩
      case round =>
        obtain ⟨k, s, hk, rfl, rfl, hs, hs2, ha, rfl⟩ := hrel
        by_cases hlt : k < n
        · have hkx : k < xs.length := by rw [← HN.out]; exact hlt
          obtain ⟨b, off, rfl, hb, c3, hok⟩ := samp_cell hA b0 hkx
          have hlen := hide hok.1
          have HK := hide (Sg.take_dats xs hkx)
          have HG := hide (Sg.dats_at xs hkx)
          have HZ := hide (Sg.flat_take (Sg.dats xs) (k + 1))
          rw [HK.out, Sg.flat_snoc, ← hs.out] at HZ
          generalize hx : xs[k] = x at *
          obtain ⟨xA, xn, xc, xd⟩ := x
          dsimp only at c3 hlen HK HZ HG
          clear hx hok
          have hz : s + xn ≤ 1099511627776 := by have := HZ.out; have := hlen.out; have := HT.out; omega
          have i0 : (0 : Int) ≤ (k : Int) := by omega
          have i1 : (k : Int) < (n : Int) := by omega
          have HA := hide hA
          clear hA
          by_cases h1 : xn < 1
          · have HR : Hid (Sg.rightM ⟨N, F, Sg.dats xs⟩ = false) := Sg.rightM_false (fun h => by
              have := h.2.2.1 xd (List.mem_of_getElem? HG.out)
              have := hlen.out
              omega)
            have h1' : (xn : Int) < 1 := by omega
            go_wp2
            go_ret
            exact ⟨by rw [HR.out]; rfl, b0⟩
          · have h1' : ¬ (xn : Int) < 1 := by omega
            have HY : Hid (∀ y ∈ (Sg.dats xs).take (k + 1), 1 ≤ y.length) := by
              intro y hy
              rw [HK.out] at hy
              rcases List.mem_append.1 hy with hy | hy
              · exact ha.out y hy
              · rw [List.mem_singleton.1 hy, ← hlen.out]; omega
            go_wp2
            go_roundw
            case rel => exact ⟨k + 1, s + xn, by omega, by go_num, by go_num, by rw [HK.out, Sg.flat_snoc, ← hs.out, hlen.out]; exact rfl, by omega, HY, trivial⟩
            case measure => simp [intOf]; omega
        · obtain rfl : n = k := by omega
          rw [List.take_of_length_le (by rw [Sg.length_dats, ← HN.out]; omega)] at hs ha
          have HR : Hid (Sg.rightM ⟨N, F, Sg.dats xs⟩ = decide (s ≤ 524288)) := by
            by_cases h : s ≤ 524288
            · rw [decide_eq_true h]; exact Sg.rightM_true ⟨HD.out, HL.out, ha.out, by rw [← hs.out]; exact h⟩
            · rw [decide_eq_false h]; exact Sg.rightM_false (fun h2 => by have := h2.2.2.2; dsimp only at this; rw [← hs.out] at this; exact h this)
          have hd2 : decide ((s : Int) ≤ 524288) = decide (s ≤ 524288) := by
            apply Bool.eq_iff_iff.2
            rw [decide_eq_true_iff, decide_eq_true_iff]
            omega
          have HD2 := hide hd2
          clear hlt hd2
          go_wp2
          go_ret
          exact ⟨by rw [HR.out, ← HD2.out]; rfl, b0⟩

set_option maxRecDepth 100000 in
set_option maxHeartbeats 2000000 in
theorem refrightM_calls (N F : Int) (A : Option Addr) (n c : Nat) (xs : List Sg.Smp) (w : World) (hn : n = xs.length) (hm : n ≤ 9223372036854775807) (hA : Sg.Samps w w.heap.size A xs) (hT : (Sg.dats xs).flatten.length ≤ 1099511627776) :
    Calls Try.prog 17 #[medV N F A n c] w (C16.RetBool w (Sg.rightM ⟨N, F, Sg.dats xs⟩)) := by
  have HN := hide hn
  have HT := hide hT
  clear hn hT
  have b0 : Below w.heap.size w (w.alloc (.cells #[.int .i64 N, .int .i64 F, .slice A n c] 28)) := (Below.refl _ _).alloc (Nat.le_refl _) _
  have bk := Blk.new w 28 #[.int .i64 N, .int .i64 F, .slice A n c]
  obtain ⟨c0, c1, c2⟩ := med_cells bk
  go_enter Try.func17, Try.ntmps17
  go_wp2
  go_loopw [3, 4] (fun sv iv wr => ∃ (k s : Nat), k ≤ n ∧ iv = .int .i64 (k : Int) ∧ sv = .int .i64 (s : Int) ∧ Hid (s = ((Sg.dats xs).take k).flatten.length) ∧ s ≤ 1099511627776 ∧ Hid (∀ y ∈ (Sg.dats xs).take k, 1 ≤ y.length) ∧ wr = w.alloc (.cells #[.int .i64 N, .int .i64 F, .slice A n c] 28)) (fun _ iv _ => n - (intOf iv).toNat)
  case atStart => exact ⟨0, 0, by omega, rfl, rfl, rfl, by omega, (by intro y hy; simp at hy), rfl⟩
  case round =>
    obtain ⟨k, s, hk, rfl, rfl, hs, hs2, ha, rfl⟩ := hrel
    by_cases hlt : k < n
    · have hkx : k < xs.length := by rw [← HN.out]; exact hlt
      obtain ⟨b, off, rfl, hb, c3, hok⟩ := samp_cell hA b0 hkx
      have hlen := hide hok.1
      have HK := hide (Sg.take_dats xs hkx)
      have HG := hide (Sg.dats_at xs hkx)
      have HZ := hide (Sg.flat_take (Sg.dats xs) (k + 1))
      rw [HK.out, Sg.flat_snoc, ← hs.out] at HZ
      generalize hx : xs[k] = x at *
      obtain ⟨xA, xn, xc, xd⟩ := x
      dsimp only at c3 hlen HK HZ HG
      clear hx hok
      have hz : s + xn ≤ 1099511627776 := by have := HZ.out; have := hlen.out; have := HT.out; omega
      have i0 : (0 : Int) ≤ (k : Int) := by omega
      have i1 : (k : Int) < (n : Int) := by omega
      have HA := hide hA
      clear hA
      by_cases h1 : xn = 0
      · subst h1
        have HR : Hid (Sg.rightM ⟨N, F, Sg.dats xs⟩ = false) := Sg.rightM_false (fun h => by
          have := h.2.2.1 xd (List.mem_of_getElem? HG.out)
          have := hlen.out
          omega)
        go_wp2
        go_ret
        exact ⟨by rw [HR.out]; rfl, b0⟩
      · have h1' : ¬ (xn : Int) = 0 := by omega
        have HY : Hid (∀ y ∈ (Sg.dats xs).take (k + 1), 1 ≤ y.length) := by
          intro y hy
          rw [HK.out] at hy
          rcases List.mem_append.1 hy with hy | hy
          · exact ha.out y hy
          · rw [List.mem_singleton.1 hy, ← hlen.out]; omega
        go_wp2
        go_roundw
        case rel => exact ⟨k + 1, s + xn, by omega, by go_num, by go_num, by rw [HK.out, Sg.flat_snoc, ← hs.out, hlen.out]; exact rfl, by omega, HY, trivial⟩
        case measure => simp [intOf]; omega
    · obtain rfl : n = k := by omega
      rw [List.take_of_length_le (by rw [Sg.length_dats, ← HN.out]; omega)] at hs ha
      have HF : Hid (∀ p : (¬ (0 ≤ N ∧ N < 1024 ∧ 0 ≤ F ∧ F < 1024) ∨ ¬ (1 ≤ n ∧ n ≤ 64) ∨ ¬ s ≤ 524288), Sg.rightM ⟨N, F, Sg.dats xs⟩ = false) := fun p => Sg.rightM_false (fun h => by
        obtain ⟨h1, h2, _, h4⟩ := h
        dsimp only at h1 h2 h4
        rw [Sg.length_dats, ← HN.out] at h2
        rw [← hs.out] at h4
        rcases p with p | p | p
        · exact p h1
        · exact p h2
        · exact p h4)
      have HY : Hid ((0 ≤ N ∧ N < 1024 ∧ 0 ≤ F ∧ F < 1024) → (1 ≤ n ∧ n ≤ 64) → s ≤ 524288 → Sg.rightM ⟨N, F, Sg.dats xs⟩ = true) := fun p q r => Sg.rightM_true ⟨p, by dsimp only; rw [Sg.length_dats, ← HN.out]; exact q, ha.out, by rw [← hs.out]; exact r⟩
      clear hlt
      have hq : N < 0 ∨ (0 ≤ N ∧ 1024 ≤ N) ∨ (0 ≤ N ∧ N < 1024 ∧ F < 0) ∨ (0 ≤ N ∧ N < 1024 ∧ 0 ≤ F ∧ 1024 ≤ F) ∨ (0 ≤ N ∧ N < 1024 ∧ 0 ≤ F ∧ F < 1024) := by omega
      rcases hq with hq | hq | hq | hq | hq
      · go_wp2
        go_ret
        exact ⟨by rw [HF.out (Or.inl (by omega))]; rfl, b0⟩
      · go_wp2
        go_ret
        exact ⟨by rw [HF.out (Or.inl (by omega))]; rfl, b0⟩
      · go_wp2
        go_ret
        exact ⟨by rw [HF.out (Or.inl (by omega))]; rfl, b0⟩
      · go_wp2
        go_ret
        exact ⟨by rw [HF.out (Or.inl (by omega))]; rfl, b0⟩
      · have HQ := hide hq
        obtain ⟨q1, q2, q3, q4⟩ := hq
        have hq : (n : Int) < 1 ∨ (1 ≤ (n : Int) ∧ 64 < (n : Int)) ∨ (1 ≤ (n : Int) ∧ (n : Int) ≤ 64 ∧ 524288 < (s : Int)) ∨ (1 ≤ (n : Int) ∧ (n : Int) ≤ 64 ∧ (s : Int) ≤ 524288) := by omega
        rcases hq with hq | hq | hq | hq
        · go_wp2
          go_ret
          exact ⟨by rw [HF.out (Or.inr (Or.inl (by omega)))]; rfl, b0⟩
        · go_wp2
          go_ret
          exact ⟨by rw [HF.out (Or.inr (Or.inl (by omega)))]; rfl, b0⟩
        · have e3 : decide ((s : Int) ≤ 524288) = false := by simp; omega
          go_wp2
          go_ret
          exact ⟨by rw [HF.out (Or.inr (Or.inr (by omega)))]; rfl, b0⟩
        · have e3 : decide ((s : Int) ≤ 524288) = true := by simp; omega
          go_wp2
          go_ret
          exact ⟨by rw [HY.out HQ.out (by omega) (by omega)]; rfl, b0⟩
end Go.Proofs.Ytakglalebjkpeaa.C17
