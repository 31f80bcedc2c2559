/- The document's bytes of a request, and of a response, each function by its contract. Conditions: slices read as bytes, numbers are in their range. -/
import Derived.Test.YtijcollcncjdoaaWireSame
import Derived.Test.YtijcollcncjdoaaRef01Pack
import Derived.Test.YtijcollcncjdoaaGolWalks
import Derived.Test.YtijcollcncjdoaaRef03Walks
namespace Go.Proofs.Ytijcollcncjdoaa
open Go.RowKit Kin

set_option maxRecDepth 100000 in
set_option maxHeartbeats 1000000 in
theorem four_calls (k : Nat) (w : World) (hm : k < 4294967296) :
    Calls Try.prog 37 #[.int .i64 (k : Int)] w (RetBytes w (Wi.four k)) := by
  have HC : Hid (#[Value.int .u8 ((k : Int) / 16777216 % 256), Value.int .u8 ((k : Int) / 65536 % 256), Value.int .u8 ((k : Int) / 256 % 256), Value.int .u8 ((k : Int) % 256)].toList = B8 (Wi.four k)) := by
    have u := Wi.u8m
    simp [B8, Wi.four, Hid]
  go_enter Try.func37, Try.ntmps37
  go_wp2
  go_ret
  exact ⟨_, _, _, rfl, Own8.new w _ 5 4 _ rfl HC.out (by decide), by intro g hg; simp [blkOf] at hg; omega, (Below.refl _ _).alloc (Nat.le_refl _) _⟩

theorem take_zo {vs : List Nat} {k : Nat} (h : k < vs.length) : Bit.zo (Wi.codes (vs.take (k + 1))) = Bit.zo (Wi.codes (vs.take k)) ++ Bit.zo (Gol.codeB vs[k]) := by
  rw [take_codes h, Bit.zo_append]

set_option maxRecDepth 100000 in
set_option maxHeartbeats 4000000 in
theorem lay_calls (A : Option Addr) (n c : Nat) (t : List UInt8) (A' : Option Addr) (n' c' : Nat) (vs : List Nat) (w : World) (hn : n = t.length) (hm : n ≤ 1048576) (hA : Byt w w.heap.size A t) (hn' : n' = vs.length) (hm' : n' ≤ 6) (hA' : Vals w w.heap.size A' (numsV vs)) (hv : ∀ v ∈ vs, v ≤ 4294967294) :
    Calls Try.prog 23 #[.slice A' n' c', .slice A n c] w (RetBytes w (Wi.wire vs t)) := by
  have HN := hide hn
  have HN' := hide hn'
  have HV := hide hv
  have HA := hide hA
  clear hn hn' hv hA
  go_enter Try.func23, Try.ntmps23
  go_wp2
  go_loopw [5, 6] (fun sv iv wr => ∃ (k n1 c1 : Nat) (A1 : Option Addr), k ≤ n' ∧ iv = .int .i64 (k : Int) ∧ sv = .slice A1 n1 c1 ∧ Own8 wr 5 A1 n1 c1 (Bit.zo (Wi.codes (vs.take k))) ∧ (∀ g, blkOf A1 = some g → w.heap.size ≤ g) ∧ Below w.heap.size w wr) (fun _ iv _ => n' - (intOf iv).toNat)
  case atStart => exact ⟨0, 0, 0, none, by omega, rfl, rfl, Own8.nil _ _, by simp [blkOf], Below.refl _ _⟩
  case round =>
    obtain ⟨k, n1, c1, A1, hk, rfl, rfl, o1, g1, bel⟩ := hrel
    have HLC : Hid (n1 ≤ 384) := by
      have h1 := codes_len (vs.take k) (fun v hv => HV.out v (List.mem_of_mem_take hv))
      rw [List.length_take] at h1
      have h2 := o1.1
      rw [Bit.length_zo] at h2
      show _ ≤ _
      omega
    by_cases hlt : k < n'
    · have hkx : k < vs.length := by rw [← HN'.out]; exact hlt
      obtain ⟨b, off, rfl, hb, c0⟩ := (hA'.below bel).at_ (k := k) (by simpa [numsV] using hkx)
      rw [numsV_at hkx] at c0
      have HT := hide (take_zo hkx)
      have hvk := HV.out _ (List.getElem_mem hkx)
      generalize vs[k] = v at *
      have hgl : Hid ((Bit.zo (Gol.codeB v)).length ≤ 63) := by rw [Bit.length_zo, Gol.length_codeB hvk]; exact Gol.gl_le v
      have i0 : (0 : Int) ≤ (k : Int) := by omega
      have i1 : (k : Int) < (n' : Int) := by omega
      have HAA := hide hA'
      have hn1 : n1 ≤ 384 := HLC.out
      clear hA'
      go_wp2_with fail
      refine (code_calls v _ hvk).mono ?_
      rintro e w2 ⟨A2, n2, c2, rfl, o2, g2, b2⟩
      have bel2 := bnext bel b2
      have o12 := o1.below b2 o1.lt
      have hn2 : n2 ≤ 63 := by rw [o2.1]; exact hgl.out
      clear bel b2 o1 c0 g2 hgl
      go_wp2_with (at_builtin; refine wpList_append8 (by rfl) (.tmp 15) (.tmp 21) 25 5 (by rfl) bytesT _ _ _ _ (by rfl) o12 _ _ _ _ _ (by rfl) o2.byt o2.1 (by omega) ?_; intro A3 c3 w3 own3 grow3 at3)
      rw [← HT.out] at own3
      have bel3 := bel2.grown grow3 bel2.size g1
      have gA3 : ∀ g, blkOf A3 = some g → w.heap.size ≤ g := by
        intro g hg
        rcases at3 with e | e
        · exact g1 g (by rw [← e]; exact hg)
        · rw [hg] at e; injection e with e; rw [e]; exact bel2.size
      go_roundw
      case rel => exact ⟨k + 1, _, c3, A3, by omega, by go_num, rfl, own3, gA3, bel3⟩
      case measure => simp [intOf]; omega
    · obtain rfl : n' = k := by omega
      have HT := hide (List.take_of_length_le (l := vs) (i := n') (by rw [← HN'.out]; omega))
      rw [HT.out] at o1
      have hn1 : n1 ≤ 384 := HLC.out
      have hpl : Hid ((Bit.pack (Wi.codes vs)).length ≤ 100) := by
        have h2 := o1.1
        rw [Bit.length_zo] at h2
        show _ ≤ _
        rw [Bit.length_pack]
        omega
      clear hlt HT HLC
      go_wp2_with fail
      refine (pack_calls A1 n1 c1 (Wi.codes vs) _ (by have h2 := o1.1; rw [Bit.length_zo] at h2; exact h2) (by omega) o1.byt).mono ?_
      rintro e w2 ⟨A2, n2, c2, rfl, o2, g2, b2⟩
      have bel2 := bnext bel b2
      have gA2 : ∀ g, blkOf A2 = some g → w.heap.size ≤ g := fun g hg => Nat.le_trans bel.size (g2 g hg)
      have hn2 : n2 ≤ 100 := by rw [o2.1]; exact hpl.out
      clear g2 b2 bel o1 g1 hpl
      go_wp2_with (first
        | (at_builtin; refine wpList_append8 (by rfl) (.tmp 24) (.tmp 25) 25 5 (by rfl) bytesT _ _ _ _ (by rfl) o2 _ _ _ _ t (by rfl) (HA.out.below bel2) HN.out (by omega) ?_; intro A3 c3 w3 own3 grow3 at3))
      have bel3 := bel2.grown grow3 bel2.size gA2
      have gA3 : ∀ g, blkOf A3 = some g → w.heap.size ≤ g := by
        intro g hg
        rcases at3 with e | e
        · exact gA2 g (by rw [← e]; exact hg)
        · rw [hg] at e; injection e with e; rw [e]; exact bel2.size
      have hbo : Bit.pack (Wi.codes vs) ++ t = Wi.body vs t := rfl
      rw [hbo] at own3
      clear grow3 at3 o2 gA2 bel2
      refine (C3.refSum_calls A3 (n2 + n) c3 _ w3 own3.1 (by omega) own3.byt).mono ?_
      rintro e w4 ⟨rfl, b4⟩
      have own4 := own3.below b4 own3.lt
      have bel4 := bnext bel3 b4
      have hs : Crc.sum (Wi.body vs t) < 4294967296 := Crc.more_lt 0 _
      have HWi : Hid (Wi.wire vs t = Wi.body vs t ++ Wi.four (Crc.sum (Wi.body vs t))) := rfl
      generalize Crc.sum (Wi.body vs t) = s at *
      clear own3 b4 bel3
      go_wp2_with fail
      refine (four_calls s _ hs).mono ?_
      rintro e w5 ⟨A5, n5, c5, rfl, o5, g5, b5⟩
      have hn5 : n5 = 4 := o5.1
      subst hn5
      have own5 := own4.below b5 own4.lt
      have bel5 := bnext bel4 b5
      clear own4 b5 bel4 g5
      go_wp2_with (at_builtin; refine wpList_append8 (by rfl) (.tmp 31) (.tmp 32) 25 5 (by rfl) bytesT _ _ _ _ (by rfl) own5 _ _ _ _ (Wi.four s) (by rfl) o5.byt (by rfl) (by omega) ?_; intro A6 c6 w6 own6 grow6 at6)
      rw [← HWi.out] at own6
      go_ret
      refine ⟨A6, _, c6, rfl, own6, ?_, bel5.grown grow6 bel5.size gA3⟩
      intro g hg
      rcases at6 with e | e
      · exact gA3 g (by rw [← e]; exact hg)
      · rw [hg] at e; injection e with e; rw [e]; exact bel5.size

theorem vals_more {w : World} {B B' : Nat} {A : Option Addr} {xs : List Value} (h : Vals w B A xs) (hB : B ≤ B') : Vals w B' A xs := fun hl => by
  obtain ⟨b, off, h1, h2, h3⟩ := h hl
  exact ⟨b, off, h1, by omega, h3⟩
set_option maxRecDepth 100000 in
set_option maxHeartbeats 4000000 in
theorem refrequest_calls (id : Int) (p : ByteArray) (fr to : Int) (w : World) (hp : p.size ≤ 9223372036854775807) : Calls Try.prog 9 #[reqV id p fr to] w (RetBE w (rqL id p fr to) (okE (Wi.rq id p fr to))) := by
  have b0 : Below w.heap.size w (w.alloc (.cells #[.int .i64 id, .string p, .int .i64 fr, .int .i64 to] 23)) := (Below.refl _ _).alloc (Nat.le_refl _) _
  have bk := Blk.new w 23 #[.int .i64 id, .string p, .int .i64 fr, .int .i64 to]
  have HQ := hide (fun w' => refrq_calls id p fr to w' hp)
  cases hq : Wi.rq id p fr to
  · rw [hq] at HQ
    have HL : Hid (rqL id p fr to = []) := by unfold rqL; rw [hq]; exact rfl
    clear hq
    go_enter Try.func9, Try.ntmps9
    go_wp2_with fail
    refine (HQ.out _).mono ?_
    rintro e w1 ⟨rfl, b1⟩
    go_wp2
    go_ret2
    rw [HL.out]
    exact ⟨none, 0, 0, rfl, Own8.nil _ _, by simp [blkOf], bnext b0 b1⟩
  · rw [hq] at HQ
    have HL : Hid (rqL id p fr to = Wi.wire (rqN id p fr to) p.data.toList) := by unfold rqL; rw [hq]; exact rfl
    obtain ⟨⟨i1, i2⟩, ⟨p1, p2⟩, ⟨f1, f2⟩, t1, t2⟩ := rq_of hq
    clear hq
    obtain ⟨a, rfl⟩ : ∃ a : Nat, id = a := ⟨id.toNat, by omega⟩
    obtain ⟨b, rfl⟩ : ∃ a : Nat, fr = a := ⟨fr.toNat, by omega⟩
    obtain ⟨d, hd⟩ : ∃ a : Nat, to + 1 = a := ⟨(to + 1).toNat, by omega⟩
    have HNum : Hid (#[Value.int .i64 0, .int .i64 (a : Int), .int .i64 (b : Int), .int .i64 (d : Int), .int .i64 (p.size : Int)].toList = numsV (rqN a p b to)) := by
      unfold numsV rqN
      rw [hd]
      rfl
    have HVs : Hid (∀ v ∈ rqN a p b to, v ≤ 4294967294) := by
      unfold rqN
      rw [hd]
      intro v hv
      simp at hv
      rcases hv with rfl | rfl | rfl | rfl | rfl <;> omega
    have hd1 : (to + 1 : Int) = (d : Int) := hd
    clear hd
    go_enter Try.func9, Try.ntmps9
    go_wp2_with fail
    generalize w.alloc (.cells #[.int .i64 (a : Int), .string p, .int .i64 (b : Int), .int .i64 to] 23) = W0 at *
    refine (HQ.out _).mono ?_
    rintro e w1 ⟨rfl, b1⟩
    have bk1 := bk.below b1 bk.lt
    have bel1 := bnext b0 b1
    have k0 : w1.cell? ⟨w.heap.size, 0, none⟩ = some (.int .i64 (a : Int)) := bk1.cell 0
    have k1 : w1.cell? ⟨w.heap.size, 1, none⟩ = some (.string p) := bk1.cell 1
    have k2 : w1.cell? ⟨w.heap.size, 2, none⟩ = some (.int .i64 (b : Int)) := bk1.cell 2
    have k3 : w1.cell? ⟨w.heap.size, 3, none⟩ = some (.int .i64 to) := bk1.cell 3
    have bV : Below w1.heap.size w1 (w1.alloc (.cells #[.int .i64 0, .int .i64 (a : Int), .int .i64 (b : Int), .int .i64 (d : Int), .int .i64 (p.size : Int)] 3)) := (Below.refl _ _).alloc (Nat.le_refl _) _
    have vals := vals_new w1 #[.int .i64 0, .int .i64 (a : Int), .int .i64 (b : Int), .int .i64 (d : Int), .int .i64 (p.size : Int)] 3 _ w1.heap.size rfl HNum.out
    obtain ⟨cc, W1, hcv, y1, bW1⟩ := conv_sb (w1.alloc (.cells #[.int .i64 0, .int .i64 (a : Int), .int .i64 (b : Int), .int .i64 (d : Int), .int .i64 (p.size : Int)] 3)) p
    have bk2 := bk1.below bV bk1.lt
    have m1 : (w1.alloc (.cells #[.int .i64 0, .int .i64 (a : Int), .int .i64 (b : Int), .int .i64 (d : Int), .int .i64 (p.size : Int)] 3)).cell? ⟨w.heap.size, 1, none⟩ = some (.string p) := bk2.cell 1
    have bel2 := bnext (bnext bel1 bV) bW1
    have HWC := hide (lay_calls (some ⟨(w1.alloc (.cells #[.int .i64 0, .int .i64 (a : Int), .int .i64 (b : Int), .int .i64 (d : Int), .int .i64 (p.size : Int)] 3)).heap.size, 0, none⟩) p.size cc p.data.toList (some ⟨w1.heap.size, 0, none⟩) 5 5 (rqN a p b to) _ rfl (by omega) y1 rfl (by omega) (vals_more (vals.below bW1) bW1.size) HVs.out)
    have hsz : (w1.alloc (.cells #[.int .i64 0, .int .i64 (a : Int), .int .i64 (b : Int), .int .i64 (d : Int), .int .i64 (p.size : Int)] 3)).heap.size = w1.heap.size + 1 := World.size_alloc _ _
    rw [hsz] at HWC hcv
    clear y1 bk bk1 bk2 vals HNum HVs
    go_wp2_with fail
    refine HWC.out.mono ?_
    rintro e w3 ⟨A3, n3, c3, rfl, o3, g3, b3⟩
    go_wp2
    go_ret2
    rw [HL.out]
    exact ⟨A3, n3, c3, rfl, o3, fun g hg => Nat.le_trans bel2.size (g3 g hg), bnext bel2 b3⟩

set_option maxRecDepth 100000 in
set_option maxHeartbeats 4000000 in
theorem refresponse_calls (id st fr sz : Int) (A : Option Addr) (n c : Nat) (t : List UInt8) (w : World) (hn : n = t.length) (hm : n ≤ 9223372036854775807) (hA : Byt w w.heap.size A t) : Calls Try.prog 11 #[resV id st fr sz A n c] w (RetBE w (rrL id st fr sz t) (okE (Wi.rr id st fr sz n))) := by
  have b0 : Below w.heap.size w (w.alloc (.cells #[.int .i64 id, .int .i64 st, .int .i64 fr, .int .i64 sz, .slice A n c] 27)) := (Below.refl _ _).alloc (Nat.le_refl _) _
  have bk := Blk.new w 27 #[.int .i64 id, .int .i64 st, .int .i64 fr, .int .i64 sz, .slice A n c]
  have HQ := hide (fun w' => refrr_calls id st fr sz A n c w' hm)
  have HN := hide hn
  have HA := hide hA
  have HL0 : Hid (rrL id st fr sz t = if Wi.rr id st fr sz n = true then Wi.wire (rrN id st fr sz n) t else []) := by unfold rrL; rw [hn]; exact rfl
  clear hn hA
  cases hq : Wi.rr id st fr sz n
  · rw [hq] at HQ
    have HL : Hid (rrL id st fr sz t = []) := by rw [HL0.out, hq]; exact rfl
    clear hq HL0
    go_enter Try.func11, Try.ntmps11
    go_wp2_with fail
    refine (HQ.out _).mono ?_
    rintro e w1 ⟨rfl, b1⟩
    go_wp2
    go_ret2
    rw [HL.out]
    exact ⟨none, 0, 0, rfl, Own8.nil _ _, by simp [blkOf], bnext b0 b1⟩
  · rw [hq] at HQ
    have HL : Hid (rrL id st fr sz t = Wi.wire (rrN id st fr sz n) t) := by rw [HL0.out, hq]; exact rfl
    obtain ⟨⟨i1, i2⟩, ⟨p1, p2⟩, ⟨f1, f2⟩, ⟨t1, t2⟩, hnm⟩ := rr_of hq
    clear hq HL0
    obtain ⟨a, rfl⟩ : ∃ a : Nat, id = a := ⟨id.toNat, by omega⟩
    obtain ⟨s, rfl⟩ : ∃ a : Nat, st = a := ⟨st.toNat, by omega⟩
    obtain ⟨b, rfl⟩ : ∃ a : Nat, fr = a := ⟨fr.toNat, by omega⟩
    obtain ⟨d, rfl⟩ : ∃ a : Nat, sz = a := ⟨sz.toNat, by omega⟩
    have HNum : Hid (#[Value.int .i64 1, .int .i64 (a : Int), .int .i64 (s : Int), .int .i64 (b : Int), .int .i64 (d : Int), .int .i64 (n : Int)].toList = numsV (rrN a s b d n)) := rfl
    have HVs : Hid (∀ v ∈ rrN a s b d n, v ≤ 4294967294) := by
      unfold rrN
      intro v hv
      simp at hv
      rcases hv with rfl | rfl | rfl | rfl | rfl | rfl <;> omega
    go_enter Try.func11, Try.ntmps11
    go_wp2_with fail
    generalize w.alloc (.cells #[.int .i64 (a : Int), .int .i64 (s : Int), .int .i64 (b : Int), .int .i64 (d : Int), .slice A n c] 27) = W0 at *
    refine (HQ.out _).mono ?_
    rintro e w1 ⟨rfl, b1⟩
    have bk1 := bk.below b1 bk.lt
    have bel1 := bnext b0 b1
    have m0 : w1.cell? ⟨w.heap.size, 0, none⟩ = some (.int .i64 (a : Int)) := bk1.cell 0
    have m1 : w1.cell? ⟨w.heap.size, 1, none⟩ = some (.int .i64 (s : Int)) := bk1.cell 1
    have m2 : w1.cell? ⟨w.heap.size, 2, none⟩ = some (.int .i64 (b : Int)) := bk1.cell 2
    have m3 : w1.cell? ⟨w.heap.size, 3, none⟩ = some (.int .i64 (d : Int)) := bk1.cell 3
    have m4 : w1.cell? ⟨w.heap.size, 4, none⟩ = some (.slice A n c) := bk1.cell 4
    have bV : Below w1.heap.size w1 (w1.alloc (.cells #[.int .i64 1, .int .i64 (a : Int), .int .i64 (s : Int), .int .i64 (b : Int), .int .i64 (d : Int), .int .i64 (n : Int)] 3)) := (Below.refl _ _).alloc (Nat.le_refl _) _
    have vals := vals_new w1 #[.int .i64 1, .int .i64 (a : Int), .int .i64 (s : Int), .int .i64 (b : Int), .int .i64 (d : Int), .int .i64 (n : Int)] 3 _ w1.heap.size rfl HNum.out
    have bel2 := bnext bel1 bV
    have HWC := hide (lay_calls A n c t (some ⟨w1.heap.size, 0, none⟩) 6 6 (rrN a s b d n) _ HN.out (by omega) ((HA.out.below bel2).more bel2.size) rfl (by omega) vals HVs.out)
    have bkV := bk1.below bV bk1.lt
    have m4' : (w1.alloc (.cells #[.int .i64 1, .int .i64 (a : Int), .int .i64 (s : Int), .int .i64 (b : Int), .int .i64 (d : Int), .int .i64 (n : Int)] 3)).cell? ⟨w.heap.size, 4, none⟩ = some (.slice A n c) := bkV.cell 4
    clear bk bk1 vals HNum HVs bkV
    go_wp2_with fail
    refine HWC.out.mono ?_
    rintro e w3 ⟨A3, n3, c3, rfl, o3, g3, b3⟩
    go_wp2
    go_ret2
    rw [HL.out]
    exact ⟨A3, n3, c3, rfl, o3, fun g hg => Nat.le_trans bel2.size (g3 g hg), bnext bel2 b3⟩
end Go.Proofs.Ytijcollcncjdoaa
