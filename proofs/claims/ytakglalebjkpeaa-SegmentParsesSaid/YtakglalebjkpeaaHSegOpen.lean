/- A file's boxes of just these types with their sum, and whether a file is sealed, by the contracts of the program's functions. Conditions: at most 2^30 bytes. -/
import Derived.Test.YtakglalebjkpeaaHSegSummed
import Derived.Test.YtakglalebjkpeaaHSegWriteM
import Derived.Test.YtakglalebjkpeaaHBox
import Derived.Test.YtakglalebjkpeaaHBoxParse
import Derived.Test.YtakglalebjkpeaaHLib
namespace Go.Proofs.Ytakglalebjkpeaa.C17
open Go.RowKit Kin Go.Proofs.Ytakglalebjkpeaa Go.Proofs.Ytakglalebjkpeaa.C16

theorem str_beq (l m : List UInt8) : ((str l).toList == (str m).toList) = decide (l = m) := by
  rw [str_toList, str_toList]
  by_cases h : l = m
  · subst h; simp
  · rw [decide_eq_false h]; simpa using h
set_option maxRecDepth 100000 in
theorem bytesEqual_calls (A A' : Option Addr) (n c n' c' : Nat) (l l' : List UInt8) (w : World) (hn : n = l.length) (hn' : n' = l'.length) {B B' : Nat} (hA : Byt w B A l) (hA' : Byt w B' A' l') :
    Calls Try.prog 38 #[.slice A n c, .slice A' n' c'] w fun e w' => e = .returned (.bool (decide (l = l'))) ∧ w = w' := by
  have cv1 : Sem.run Try.prog (convert 31 9 (.slice A n c)) w = .ok (.string (str l)) w := run_conv8 bytesT Try.underlying9 A n c _ hA hn
  have cv2 : Sem.run Try.prog (convert 31 9 (.slice A' n' c')) w = .ok (.string (str l')) w := run_conv8 bytesT Try.underlying9 A' n' c' _ hA' hn'
  have HE := hide (str_beq l l')
  clear hn hn' hA hA'
  go_enter Try.func38, Try.ntmps38
  go_wp2
  go_ret
  exact ⟨by rw [← HE.out]; rfl, rfl⟩

def texts (ks : List ByteArray) : List Value := ks.map .string
theorem texts_at {ks : List ByteArray} {w : World} {B : Nat} {A : Option Addr} (h : Vals w B A (texts ks)) {i : Nat} (hi : i < ks.length) : ∃ b off, A = some ⟨b, off, none⟩ ∧ b < B ∧ w.cell? ⟨b, off + i, none⟩ = some (.string ks[i]) := by
  obtain ⟨b, off, e, hb, hc⟩ := h.at_ (k := i) (by simpa [texts] using hi)
  refine ⟨b, off, e, hb, ?_⟩
  rw [hc]
  simp [texts]
theorem ks_ne {a b : List ByteArray} {k : Nat} {x y : ByteArray} (h1 : a[k]? = some x) (h2 : b[k]? = some y) (h : ¬ x = y) : decide (a = b) = false := by
  rw [decide_eq_false_iff_not]
  rintro rfl
  rw [h1] at h2
  injection h2 with h2
  exact h h2
theorem tl_inj' {t k : ByteArray} (e : t.toList = k.toList) : t = k := by
  rw [Lib.toList_data, Lib.toList_data] at e
  exact ByteArray.ext (Array.toList_inj.1 e)
theorem tl_ne' {t k : ByteArray} (h : ¬ t = k) : (t.toList == k.toList) = false := by
  rw [beq_eq_false_iff_ne]
  exact fun e => h (tl_inj' e)
theorem tl_beq (t k : ByteArray) : (t.toList == k.toList) = decide (t = k) := by
  by_cases h : t = k
  · subst h; simp
  · rw [decide_eq_false h]; exact tl_ne' h

set_option maxRecDepth 100000 in
set_option maxHeartbeats 2000000 in
theorem textsEqual_calls (A A' : Option Addr) (n c n' c' : Nat) (ks ks' : List ByteArray) (w : World) (hn : n = ks.length) (hn' : n' = ks'.length) (hm : n ≤ 9223372036854775807) (hA : Vals w w.heap.size A (texts ks)) (hA' : Vals w w.heap.size A' (texts ks')) :
    Calls Try.prog 55 #[.slice A n c, .slice A' n' c'] w (C16.RetBool w (decide (ks = ks'))) := by
  by_cases hl : n = n'
  · subst hl
    have HN := hide hn
    have HN' := hide hn'
    clear hn hn'
    go_enter Try.func55, Try.ntmps55
    go_wp2
    go_loopw [13] (fun iv wr => ∃ k : Nat, k ≤ n ∧ iv = .int .i64 (k : Int) ∧ Hid (∀ i, i < k → ks[i]? = ks'[i]?) ∧ Below w.heap.size w wr) (fun iv _ => n - (intOf iv).toNat)
    case atStart => exact ⟨0, by omega, rfl, (by intro i hi; omega), Below.refl _ _⟩
    case round =>
      obtain ⟨k, hk, rfl, hs, bel⟩ := hrel
      by_cases hlt : k < n
      · obtain ⟨b, off, rfl, hb, q0⟩ := texts_at (hA.below bel) (i := k) (by rw [← HN.out]; exact hlt)
        obtain ⟨b', off', rfl, hb', q1⟩ := texts_at (hA'.below bel) (i := k) (by rw [← HN'.out]; exact hlt)
        have HG1 := hide (List.getElem?_eq_getElem (l := ks) (i := k) (by rw [← HN.out]; exact hlt))
        have HG2 := hide (List.getElem?_eq_getElem (l := ks') (i := k) (by rw [← HN'.out]; exact hlt))
        generalize ks[k]'(by rw [← HN.out]; exact hlt) = x at *
        generalize ks'[k]'(by rw [← HN'.out]; exact hlt) = y at *
        have i0 : (0 : Int) ≤ (k : Int) := by omega
        have i1 : (k : Int) < (n : Int) := by omega
        have HTB := hide (tl_beq x y)
        by_cases hxy : x = y
        · subst hxy
          have HS : Hid (∀ i, i < k + 1 → ks[i]? = ks'[i]?) := by
            intro i hi
            by_cases h : i < k
            · exact hs.out i h
            · obtain rfl : i = k := by omega
              rw [HG1.out, HG2.out]
          clear hA hA' HTB
          go_wp2_with fail
          go_quiet (fail)
          go_wp2
          go_roundw
          case rel => exact ⟨k + 1, by omega, by go_num, HS, bel.trans ((dN _ nq).mono bel.size)⟩
          case measure => simp [intOf]; omega
        · have HE := hide (ks_ne HG1.out HG2.out hxy)
          have hne : (x.toList == y.toList) = false := tl_ne' hxy
          clear hA hA' HTB
          go_wp2_with fail
          go_quiet (fail)
          go_wp2
          go_ret
          exact ⟨by rw [HE.out]; rfl, bel.trans ((dN _ nq).mono bel.size)⟩
      · obtain rfl : n = k := by omega
        have HE : Hid (decide (ks = ks') = true) := by
          rw [decide_eq_true_iff.2]
          · exact rfl
          · apply List.ext_getElem?
            intro i
            by_cases h : i < n
            · exact hs.out i h
            · rw [List.getElem?_eq_none (by rw [← HN.out]; omega), List.getElem?_eq_none (by rw [← HN'.out]; omega)]
        clear hlt
        go_wp2
        go_ret
        exact ⟨by rw [HE.out]; rfl, bel⟩
  · have HE : Hid (decide (ks = ks') = false) := by
      rw [decide_eq_false_iff_not.2]
      · exact rfl
      · rintro rfl
        exact hl (hn.trans hn'.symm)
    have hd : ¬ (n : Int) = (n' : Int) := by omega
    clear hn hn'
    go_enter Try.func55, Try.ntmps55
    go_wp2
    go_ret
    exact ⟨by rw [HE.out]; rfl, Below.refl _ _⟩

/-- the boxes that are open -/
def opL (b : List UInt8) (ks : List ByteArray) : List Bx.Box := if Sg.opE b ks = 0 then Bx.boxes b else []
theorem opL_no {b : List UInt8} {ks : List ByteArray} {E : Int} (h : Sg.opE b ks = E) (hE : E ≠ 0) : opL b ks = [] := by unfold opL; rw [if_neg (by rw [h]; exact hE)]
theorem opL_yes {b : List UInt8} {ks : List ByteArray} (h : Sg.opE b ks = 0) : opL b ks = Bx.boxes b := by unfold opL; rw [if_pos h]
def RetOp (w : World) (L : List Bx.Box) (E : Int) (e : Ending) (w' : World) : Prop :=
  ∃ A n c xs, e = .returned (.tuple #[.slice A n c, .int .i64 E]) ∧ Bx.OwnB w' 53 5 A n c xs ∧ Bx.boxs xs = L ∧ (∀ g, blkOf A = some g → w.heap.size ≤ g) ∧ Below w.heap.size w w'
theorem kinds_of (xs : List Bx.Cel) : xs.map C16.kindRow = (texts ((Bx.boxs xs).map Prod.fst)).map fun v => [v] := by
  unfold texts Bx.boxs
  rw [List.map_map, List.map_map, List.map_map]
  rfl
theorem last_of {xs : List Bx.Cel} {b : List UInt8} (hb : Bx.boxs xs = Bx.boxes b) {n : Nat} (hn : n + 1 = xs.length) (h : n < xs.length) : Sg.lastB b = (xs[n].t, xs[n].d) := by
  unfold Sg.lastB
  rw [← hb]
  have h1 := Bx.boxs_at xs h
  rw [List.getLastD_eq_getLast?, List.getLast?_eq_getElem?, Bx.length_boxs, show xs.length - 1 = n by omega, h1]
  rfl

set_option maxRecDepth 100000 in
set_option maxHeartbeats 4000000 in
theorem open_calls (A A2 : Option Addr) (n c n2 c2 : Nat) (b : List UInt8) (ks : List ByteArray) (w : World) (hn : n = b.length) (hc : n ≤ c) (hm : n ≤ 900000000) (hA : Byt w w.heap.size A b) (hn2 : n2 = ks.length) (h0 : 0 < ks.length) (hV : Vals w w.heap.size A2 (texts ks)) :
    Calls Try.prog 35 #[.slice A n c, .slice A2 n2 c2] w (RetOp w (opL b ks) (Sg.opE b ks)) := by
  have HP := hide (C16.parse_calls A n c b w hn hc (by omega) hA)
  have HSU : Hid (∀ w', Below w.heap.size w w' → Calls Try.prog 45 #[.slice A n c] w' (C16.RetBool w' (Sg.summed b))) := fun w' h => summed_calls A n c b w' hn hc (by omega) ((hA.below h).more h.size)
  have HB9 : Hid ((Bx.boxes b).length ≤ 900000000) := by have := Bx.length_boxes b; rw [← hn] at this; exact (by omega : (Bx.boxes b).length ≤ 900000000)
  have HV : Hid (∀ w', Below w.heap.size w w' → Vals w' w'.heap.size A2 (texts ks)) := fun w' h hl => by
    obtain ⟨b', off, e1, e2, e3⟩ := (hV.below h) hl
    exact ⟨b', off, e1, Nat.lt_of_lt_of_le e2 h.size, e3⟩
  have HN2 := hide hn2
  have H0 := hide h0
  clear hn hA hn2 h0 hV
  go_enter Try.func35, Try.ntmps35
  go_wp2_with fail
  refine HP.out.mono ?_
  rintro e w1 (⟨hv, A1, n1, c1, xs, rfl, ow, hxs, g1, b1⟩ | ⟨hv, rfl, b1⟩)
  · have hn1 := ow.len
    have HN1 := hide hn1
    have HXS := hide hxs
    have HEV := hide hv
    have hn9 : n1 ≤ 900000000 := by rw [hn1, ← Bx.length_boxs, hxs]; exact HB9.out
    clear hn1 hxs hv
    go_wp2_with fail
    refine (C16.kinds_calls A1 n1 c1 xs w1 HN1.out (by omega) ow.boxes).mono ?_
    rintro e w2 ⟨A3, n3, c3, rfl, o3, g3, b3⟩
    have HN3 : Hid (n3 = ((Bx.boxs xs).map Prod.fst).length) := by have := o3.1; rw [this]; unfold Bx.boxs; rw [List.length_map, List.length_map, List.length_map]; exact rfl
    have hn39 : n3 ≤ 900000000 := by have := HN3.out; rw [List.length_map, Bx.length_boxs, ← HN1.out] at this; omega
    rw [kinds_of] at o3
    have bel2 := bnext b1 b3
    have ow2 := ow.next b3
    go_wp2_with fail
    refine (textsEqual_calls A3 A2 n3 c3 n2 c2 _ ks w2 HN3.out HN2.out (by omega) o3.vals (HV.out w2 bel2)).mono ?_
    rintro e w3 ⟨rfl, b4⟩
    have bel3 := bnext bel2 b4
    have ow3 := ow2.next b4
    by_cases hk : (Bx.boxs xs).map Prod.fst = ks
    · rw [decide_eq_true hk]
      have HK : Hid ((Bx.boxes b).map Prod.fst = ks) := by rw [← HXS.out]; exact hk
      obtain ⟨j, hj⟩ : ∃ j, n1 = j + 1 := by
        have h1 := H0.out
        rw [← hk, List.length_map, Bx.length_boxs, ← HN1.out] at h1
        exact ⟨n1 - 1, by omega⟩
      subst hj
      have hjx : j < xs.length := by rw [← HN1.out]; omega
      obtain ⟨bb, off, rfl, hbb, q0, q1, hok⟩ := ow3.boxes.at_ hjx
      have HLB := hide (last_of HXS.out HN1.out hjx)
      have hlen := hide hok.1
      have hmx := hok.2.1
      unfold maxLen at hmx
      generalize hx : xs[j] = x at *
      obtain ⟨xt, xA, xn, xc, xd⟩ := x
      dsimp only at q0 q1 HLB hlen hmx
      clear hx hok hk
      have i0 : (0 : Int) ≤ (j : Int) := by omega
      have i1 : (j : Int) < (j : Int) + 1 := by omega
      have iw : IntKind.i64.wrap (((j + 1 : Nat) : Int) - 1) = (j : Int) := by rw [IntKind.wrap_i64]; omega
      by_cases h4 : xn = 4
      · subst h4
        have HL4 : Hid ((Sg.lastB b).2.length = 4) := by rw [HLB.out]; exact hlen.out.symm
        go_wp2_with fail
        refine (HSU.out w3 bel3).mono ?_
        rintro e w5 ⟨rfl, b5⟩
        cases hs : Sg.summed b
        · have HE := hide (Sg.op_sum HEV.out HK.out HL4.out hs)
          have HO := hide (opL_no HE.out (by decide))
          clear hs
          go_wp2
          go_ret2
          rw [HE.out, HO.out]
          exact ⟨none, 0, 0, [], rfl, Bx.OwnB.nil _ _ _, rfl, by simp [blkOf], bnext bel3 b5⟩
        · have HE := hide (Sg.op_yes HEV.out HK.out HL4.out hs)
          have HO := hide (opL_yes HE.out)
          clear hs
          go_wp2
          go_ret2
          rw [HE.out, HO.out]
          exact ⟨_, _, _, xs, rfl, ow3.next b5, HXS.out, g1, bnext bel3 b5⟩
      · have HE := hide (Sg.op_last HEV.out HK.out (by rw [HLB.out]; show xd.length ≠ 4; rw [← hlen.out]; exact h4))
        have HO := hide (opL_no HE.out (by decide))
        have h4' : ¬ (xn : Int) = 4 := by omega
        go_wp2
        go_ret2
        rw [HE.out, HO.out]
        exact ⟨none, 0, 0, [], rfl, Bx.OwnB.nil _ _ _, rfl, by simp [blkOf], bel3⟩
    · rw [decide_eq_false hk]
      have HE := hide (Sg.op_kinds (ks := ks) HEV.out (by rw [← HXS.out]; exact hk))
      have HO := hide (opL_no HE.out (by decide))
      clear hk
      go_wp2
      go_ret2
      rw [HE.out, HO.out]
      exact ⟨none, 0, 0, [], rfl, Bx.OwnB.nil _ _ _, rfl, by simp [blkOf], bel3⟩
  · have HE := hide (Sg.op_no (ks := ks) hv)
    have HO := hide (opL_no HE.out (by decide))
    clear hv
    go_wp2
    go_ret2
    rw [HE.out, HO.out]
    exact ⟨none, 0, 0, [], rfl, Bx.OwnB.nil _ _ _, rfl, by simp [blkOf], b1⟩
end Go.Proofs.Ytakglalebjkpeaa.C17
