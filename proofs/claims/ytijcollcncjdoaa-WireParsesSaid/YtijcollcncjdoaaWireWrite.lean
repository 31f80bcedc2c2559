/- The bytes of numbers, a tail and their sum, by the contract of the program's write. Conditions: at most six numbers below 2^32 - 1, at most 2^20 bytes. -/
import Derived.Test.YtijcollcncjdoaaWireRight
import Derived.Test.YtijcollcncjdoaaGolPuts
import Derived.Test.YtijcollcncjdoaaVals
import Derived.Test.YtijcollcncjdoaaCrcWalks
import Derived.Lib.ConvBytes
namespace Go.Proofs.Ytijcollcncjdoaa
open Go.RowKit Kin

/-- bytes of the call's own, and an error -/
def RetBE (w : World) (l : List UInt8) (E : Int) (e : Ending) (w' : World) : Prop :=
  ∃ A n c, e = .returned (.tuple #[.slice A n c, .int .i64 E]) ∧ Own8 w' 5 A n c l ∧ (∀ g, blkOf A = some g → w.heap.size ≤ g) ∧ Below w.heap.size w w'
def numsV (vs : List Nat) : List Value := vs.map fun (v : Nat) => .int .i64 (v : Int)
theorem numsV_at {vs : List Nat} {k : Nat} (h : k < vs.length) : (numsV vs)[k]'(by simpa [numsV] using h) = .int .i64 (vs[k] : Int) := by simp [numsV]
theorem take_codes {vs : List Nat} {k : Nat} (h : k < vs.length) : Wi.codes (vs.take (k + 1)) = Wi.codes (vs.take k) ++ Gol.codeB vs[k] := by
  rw [List.take_add_one, List.getElem?_eq_getElem h]
  exact Wi.codes_snoc _ _
theorem four_cells (s : Nat) (h : s < 4294967296) : #[Value.int .u8 ((s : Int) / 16777216), .int .u8 ((s : Int) / 65536 % 256), .int .u8 ((s : Int) / 256 % 256), .int .u8 ((s : Int) % 256)].toList = B8 (Wi.four s) := by
  unfold B8 Wi.four
  rw [List.map_cons, List.map_cons, List.map_cons, List.map_cons, List.map_nil, Wi.u8m, Wi.u8m, Wi.u8m, Wi.u8m]
  have c1 : ((s / 16777216 % 256 : Nat) : Int) = (s : Int) / 16777216 := by omega
  have c2 : ((s / 65536 % 256 : Nat) : Int) = (s : Int) / 65536 % 256 := by omega
  have c3 : ((s / 256 % 256 : Nat) : Int) = (s : Int) / 256 % 256 := by omega
  have c4 : ((s % 256 : Nat) : Int) = (s : Int) % 256 := by omega
  rw [c1, c2, c3, c4]
theorem codes_len : ∀ (vs : List Nat), (∀ v ∈ vs, v ≤ 4294967294) → (Wi.codes vs).length ≤ 64 * vs.length
  | [], _ => by simp [Wi.codes]
  | v :: vs, h => by
    have ih := codes_len vs (fun x hx => h x (by simp [hx]))
    have hv := h v (by simp)
    show (Gol.codeB v ++ Wi.codes vs).length ≤ _
    rw [List.length_append, Gol.length_codeB hv, List.length_cons]
    have := Gol.gl_le v
    omega

set_option maxRecDepth 100000 in
set_option maxHeartbeats 4000000 in
theorem write_calls (A : Option Addr) (n c : Nat) (t : List UInt8) (A' : Option Addr) (n' c' : Nat) (vs : List Nat) (w : World) (hn : n = t.length) (hm : n ≤ 1048576) (hA : Byt w w.heap.size A t) (hn' : n' = vs.length) (hm' : n' ≤ 6) (hA' : Vals w w.heap.size A' (numsV vs)) (hv : ∀ v ∈ vs, v ≤ 4294967294) :
    Calls Try.prog 22 #[.slice A n c, .slice A' n' c'] w (RetBE w (Wi.wire vs t) 0) := by
  have HN := hide hn
  have HN' := hide hn'
  have HV := hide hv
  have HA := hide hA
  clear hn hn' hv hA
  go_enter Try.func22, Try.ntmps22
  go_wp2_with fail
  refine (new_calls _).mono ?_
  rintro e w1 ⟨rfl, r1, b1⟩
  obtain ⟨gw, hgw⟩ : ∃ g, g = w.heap.size := ⟨_, rfl⟩
  rw [← hgw] at r1 ⊢
  have ggw : w.heap.size ≤ gw := Nat.le_of_eq hgw.symm
  clear hgw
  go_wp2
  go_loopw [14] (fun iv wr => ∃ (k : Nat) (R : Option Nat), k ≤ n' ∧ iv = .int .i64 (k : Int) ∧ WriterIs wr gw R (Wi.codes (vs.take k)) ∧ (∀ r, R = some r → w.heap.size ≤ r) ∧ Below w.heap.size w wr) (fun iv _ => n' - (intOf iv).toNat)
  case atStart => exact ⟨0, none, by omega, rfl, r1, by simp, b1⟩
  case round =>
    obtain ⟨k, R, hk, rfl, hw, gR, bel⟩ := hrel
    clear r1 b1
    have HLC : Hid ((Wi.codes (vs.take k)).length ≤ 384) := by
      have h1 := codes_len (vs.take k) (fun v hv => HV.out v (List.mem_of_mem_take hv))
      rw [List.length_take] at h1
      show _ ≤ _
      omega
    by_cases hlt : k < n'
    · have hkx : k < vs.length := by rw [← HN'.out]; exact hlt
      obtain ⟨b, off, rfl, hb, c0⟩ := (hA'.below bel).at_ (k := k) (by simpa [numsV] using hkx)
      rw [numsV_at hkx] at c0
      have HT := hide (take_codes hkx)
      have hvk := HV.out _ (List.getElem_mem hkx)
      generalize vs[k] = v at *
      have i0 : (0 : Int) ≤ (k : Int) := by omega
      have i1 : (k : Int) < (n' : Int) := by omega
      have HAA := hide hA'
      clear hA'
      go_wp2_with fail
      refine (gput_any gw R _ v _ hw (by have := HLC.out; omega) (by omega)).mono ?_
      rintro e w2 ⟨rfl, R2, hw2, ch2, rn2⟩
      rw [gputB_ok hvk, ← HT.out] at hw2
      rw [gputE_ok hvk]
      have bel2 := bel.trans (ch2.below (Foot.ge ggw gR) bel.size)
      have gR2 := rn2.ge gR bel.size
      clear hw ch2 rn2 c0
      go_wp2
      go_roundw
      case rel => exact ⟨k + 1, R2, by omega, by go_num, hw2, gR2, bel2⟩
      case measure => simp [intOf]; omega
    · obtain rfl : n' = k := by omega
      have HT := hide (List.take_of_length_le (l := vs) (i := n') (by rw [← HN'.out]; omega))
      rw [HT.out] at hw HLC
      clear hlt
      go_wp2_with fail
      refine (wbytes_calls gw R _ _ hw (by have := HLC.out; omega)).mono ?_
      rintro e w2 ⟨A2, n2, c2, rfl, o2, g2, b2⟩
      have bel2 := bnext bel b2
      have gA2 : ∀ g, blkOf A2 = some g → w.heap.size ≤ g := fun g hg => Nat.le_trans bel.size (g2 g hg)
      have hn2 : n2 ≤ 100 := by rw [o2.1, Bit.length_pack]; have := HLC.out; omega
      clear hw g2 b2 bel
      go_wp2_with (first
        | (at_builtin; refine wpList_append8 (by rfl) (.tmp 25) (.tmp 26) 25 5 (by rfl) bytesT _ _ _ _ (by rfl) o2 _ _ _ _ t (by rfl) (HA.out.below bel2) HN.out (by omega) ?_; intro A3 c3 w3 own3 grow3 at3))
      have bel3 := bel2.grown grow3 bel2.size gA2
      have gA3 : ∀ g, blkOf A3 = some g → w.heap.size ≤ g := by
        intro g hg
        rcases at3 with e | e
        · exact gA2 g (by rw [← e]; exact hg)
        · rw [hg] at e; injection e with e; rw [e]; exact bel2.size
      have hbo : Bit.pack (Wi.codes vs) ++ t = Wi.body vs t := rfl
      rw [hbo] at own3
      clear grow3 at3 o2 gA2 bel2
      refine (C3.sum_calls A3 (n2 + n) _ c3 w3 own3.1 (by rw [← own3.1]; omega) own3.byt).mono ?_
      rintro e w4 ⟨rfl, b4⟩
      have own4 := own3.below b4 own3.lt
      have bel4 := bnext bel3 b4
      have hs : Crc.sum (Wi.body vs t) < 4294967296 := Crc.more_lt 0 _
      have HWi : Hid (Wi.wire vs t = Wi.body vs t ++ Wi.four (Crc.sum (Wi.body vs t))) := rfl
      generalize Crc.sum (Wi.body vs t) = s at *
      clear own3 b4 bel3
      have HF := hide (four_cells s hs)
      have o5 := own4.alloc (.cells #[.int .u8 ((s : Int) / 16777216), .int .u8 ((s : Int) / 65536 % 256), .int .u8 ((s : Int) / 256 % 256), .int .u8 ((s : Int) % 256)] 5)
      have y5 := Byt.new w4 #[.int .u8 ((s : Int) / 16777216), .int .u8 ((s : Int) / 65536 % 256), .int .u8 ((s : Int) / 256 % 256), .int .u8 ((s : Int) % 256)] 5 (0, 0) _ HF.out
      have bel5 := bel4.alloc bel4.size (.cells #[.int .u8 ((s : Int) / 16777216), .int .u8 ((s : Int) / 65536 % 256), .int .u8 ((s : Int) / 256 % 256), .int .u8 ((s : Int) % 256)] 5)
      go_wp2_with (at_builtin; refine wpList_append8 (by rfl) (.tmp 30) (.tmp 42) 25 5 (by rfl) bytesT _ _ _ _ (by rfl) o5 _ _ _ _ (Wi.four s) (by rfl) y5 (by rfl) (by omega) ?_; intro A6 c6 w6 own6 grow6 at6)
      rw [← HWi.out] at own6
      go_ret2
      refine ⟨A6, _, c6, rfl, own6, ?_, bel5.grown grow6 bel5.size gA3⟩
      intro g hg
      rcases at6 with e | e
      · exact gA3 g (by rw [← e]; exact hg)
      · rw [hg] at e; injection e with e; rw [e]; exact bel5.size

/-- what is written of a request, of a response -/
def rqN (id : Int) (p : ByteArray) (fr to : Int) : List Nat := [0, id.toNat, fr.toNat, (to + 1).toNat, p.size]
def rrN (id st fr sz : Int) (n : Nat) : List Nat := [1, id.toNat, st.toNat, fr.toNat, sz.toNat, n]
def rqL (id : Int) (p : ByteArray) (fr to : Int) : List UInt8 := if Wi.rq id p fr to = true then Wi.wire (rqN id p fr to) p.data.toList else []
def rrL (id st fr sz : Int) (t : List UInt8) : List UInt8 := if Wi.rr id st fr sz t.length = true then Wi.wire (rrN id st fr sz t.length) t else []
def okE (b : Bool) : Int := if b = true then 0 else 201
theorem win_of {n a b : Int} (h : Wi.win n a b = true) : a ≤ n ∧ n ≤ b := of_decide_eq_true h
theorem rq_of {id : Int} {p : ByteArray} {fr to : Int} (h : Wi.rq id p fr to = true) : (0 ≤ id ∧ id ≤ 1048575) ∧ (1 ≤ p.size ∧ p.size ≤ 60) ∧ (0 ≤ fr ∧ fr ≤ 1048576) ∧ (-1 ≤ to ∧ to ≤ 1048576) := by
  unfold Wi.rq at h
  rw [Bool.and_eq_true, Bool.and_eq_true, Bool.and_eq_true] at h
  obtain ⟨⟨⟨h1, h2⟩, h3⟩, h4⟩ := h
  unfold Wi.path at h2
  rw [Bool.and_eq_true] at h2
  exact ⟨win_of h1, of_decide_eq_true h2.1, win_of h3, win_of h4⟩
theorem rr_of {id st fr sz : Int} {n : Nat} (h : Wi.rr id st fr sz n = true) : (0 ≤ id ∧ id ≤ 1048575) ∧ (1 ≤ st ∧ st ≤ 4) ∧ (0 ≤ fr ∧ fr ≤ 1048576) ∧ (0 ≤ sz ∧ sz ≤ 1048576) ∧ n ≤ 1048576 := by
  unfold Wi.rr at h
  rw [Bool.and_eq_true, Bool.and_eq_true, Bool.and_eq_true, Bool.and_eq_true] at h
  obtain ⟨⟨⟨⟨h1, h2⟩, h3⟩, h4⟩, h5⟩ := h
  exact ⟨win_of h1, win_of h2, win_of h3, win_of h4, of_decide_eq_true h5⟩
theorem vals_new (w : World) (cs : Array Value) (e : TypeId) (xs : List Value) (g : Nat) (hg : w.heap.size = g) (h : cs.toList = xs) : Vals (w.alloc (.cells cs e)) (w.alloc (.cells cs e)).heap.size (some ⟨g, 0, none⟩) xs := by
  subst hg
  intro _
  refine ⟨w.heap.size, 0, rfl, by simp, fun j v hj => ?_⟩
  rw [cell_of_row _ _ _ cs e (0, 0) (heap_alloc_new w _), Nat.zero_add]
  rw [← h] at hj
  simpa using hj

theorem conv_sb (w : World) (s : ByteArray) : ∃ c w', Sem.run Try.prog (convert 9 25 (.string s)) w = .ok (.slice (some ⟨w.heap.size, 0, none⟩) s.size c) w' ∧ Byt w' w'.heap.size (some ⟨w.heap.size, 0, none⟩) s.data.toList ∧ Below w.heap.size w w' := by
  refine ⟨_, _, Lib.run_convert_string_bytes (P := Try.prog) w 9 25 5 s Try.underlying9 Try.underlying25 Try.underlying5, ?_, ?_⟩
  · intro _
    refine ⟨w.heap.size, 0, rfl, by rw [Lib.bytesWorld_size]; omega, fun j x hx => ?_⟩
    obtain ⟨hj, he⟩ := List.getElem?_eq_some_iff.1 hx
    have := Lib.bytesWorld_cell w 5 s j (by simpa using hj)
    rw [Nat.zero_add, this]
    simp [List.getD, hx]
  · refine ⟨rfl, rfl, rfl, by rw [Lib.bytesWorld_size]; omega, fun k hk => Lib.bytesWorld_at_old w 5 s k hk⟩

set_option maxRecDepth 100000 in
set_option maxHeartbeats 4000000 in
theorem request_calls (id : Int) (p : ByteArray) (fr to : Int) (w : World) : Calls Try.prog 8 #[reqV id p fr to] w (RetBE w (rqL id p fr to) (okE (Wi.rq id p fr to))) := by
  have b0 : Below w.heap.size w (w.alloc (.cells #[.int .i64 id, .string p, .int .i64 fr, .int .i64 to] 23)) := (Below.refl _ _).alloc (Nat.le_refl _) _
  have bk := Blk.new w 23 #[.int .i64 id, .string p, .int .i64 fr, .int .i64 to]
  have HQ := hide (rq_calls id p fr to)
  cases hq : Wi.rq id p fr to
  · rw [hq] at HQ
    have HL : Hid (rqL id p fr to = []) := by unfold rqL; rw [hq]; exact rfl
    clear hq
    go_enter Try.func8, Try.ntmps8
    go_wp2_with fail
    refine (HQ.out _).mono ?_
    rintro e w1 ⟨rfl, b1⟩
    go_wp2
    go_ret2
    rw [HL.out]
    exact ⟨none, 0, 0, rfl, Own8.nil _ _, by simp [blkOf], bnext b0 b1⟩
  · rw [hq] at HQ
    have HL : Hid (rqL id p fr to = Wi.wire (rqN id p fr to) p.data.toList) := by unfold rqL; rw [hq]; exact rfl
    obtain ⟨⟨i1, i2⟩, ⟨p1, p2⟩, ⟨f1, f2⟩, t1, t2⟩ := rq_of hq
    clear hq
    obtain ⟨a, rfl⟩ : ∃ a : Nat, id = a := ⟨id.toNat, by omega⟩
    obtain ⟨b, rfl⟩ : ∃ a : Nat, fr = a := ⟨fr.toNat, by omega⟩
    obtain ⟨d, hd⟩ : ∃ a : Nat, to + 1 = a := ⟨(to + 1).toNat, by omega⟩
    have HNum : Hid (#[Value.int .i64 0, .int .i64 (a : Int), .int .i64 (b : Int), .int .i64 (d : Int), .int .i64 (p.size : Int)].toList = numsV (rqN a p b to)) := by
      unfold numsV rqN
      rw [hd]
      rfl
    have HVs : Hid (∀ v ∈ rqN a p b to, v ≤ 4294967294) := by
      unfold rqN
      rw [hd]
      intro v hv
      simp at hv
      rcases hv with rfl | rfl | rfl | rfl | rfl <;> omega
    have hd1 : (to + 1 : Int) = (d : Int) := hd
    clear hd
    go_enter Try.func8, Try.ntmps8
    go_wp2_with fail
    generalize w.alloc (.cells #[.int .i64 (a : Int), .string p, .int .i64 (b : Int), .int .i64 to] 23) = W0 at *
    refine (HQ.out _).mono ?_
    rintro e w1 ⟨rfl, b1⟩
    have bk1 := bk.below b1 bk.lt
    have bel1 := bnext b0 b1
    have k0 : w1.cell? ⟨w.heap.size, 0, none⟩ = some (.int .i64 (a : Int)) := bk1.cell 0
    have k1 : w1.cell? ⟨w.heap.size, 1, none⟩ = some (.string p) := bk1.cell 1
    have k2 : w1.cell? ⟨w.heap.size, 2, none⟩ = some (.int .i64 (b : Int)) := bk1.cell 2
    have k3 : w1.cell? ⟨w.heap.size, 3, none⟩ = some (.int .i64 to) := bk1.cell 3
    obtain ⟨cc, W1, hcv, y1, bW1⟩ := conv_sb w1 p
    have bk2 := bk1.below bW1 bk1.lt
    have m0 : W1.cell? ⟨w.heap.size, 0, none⟩ = some (.int .i64 (a : Int)) := bk2.cell 0
    have m1 : W1.cell? ⟨w.heap.size, 1, none⟩ = some (.string p) := bk2.cell 1
    have m2 : W1.cell? ⟨w.heap.size, 2, none⟩ = some (.int .i64 (b : Int)) := bk2.cell 2
    have m3 : W1.cell? ⟨w.heap.size, 3, none⟩ = some (.int .i64 to) := bk2.cell 3
    have bV : Below W1.heap.size W1 (W1.alloc (.cells #[.int .i64 0, .int .i64 (a : Int), .int .i64 (b : Int), .int .i64 (d : Int), .int .i64 (p.size : Int)] 3)) := (Below.refl _ _).alloc (Nat.le_refl _) _
    have vals := vals_new W1 #[.int .i64 0, .int .i64 (a : Int), .int .i64 (b : Int), .int .i64 (d : Int), .int .i64 (p.size : Int)] 3 _ W1.heap.size rfl HNum.out
    have bel2 := bnext (bnext bel1 bW1) bV
    have HWC := hide (write_calls (some ⟨w1.heap.size, 0, none⟩) p.size cc p.data.toList (some ⟨W1.heap.size, 0, none⟩) 5 5 (rqN a p b to) _ rfl (by omega) ((y1.below bV).more bV.size) rfl (by omega) vals HVs.out)
    clear y1 bk bk1 bk2 vals HNum HVs
    go_wp2_with fail
    refine HWC.out.mono ?_
    rintro e w3 ⟨A3, n3, c3, rfl, o3, g3, b3⟩
    go_wp2
    go_ret2
    rw [HL.out]
    exact ⟨A3, n3, c3, rfl, o3, fun g hg => Nat.le_trans bel2.size (g3 g hg), bnext bel2 b3⟩

set_option maxRecDepth 100000 in
set_option maxHeartbeats 4000000 in
theorem response_calls (id st fr sz : Int) (A : Option Addr) (n c : Nat) (t : List UInt8) (w : World) (hn : n = t.length) (hm : n ≤ 9223372036854775807) (hA : Byt w w.heap.size A t) : Calls Try.prog 10 #[resV id st fr sz A n c] w (RetBE w (rrL id st fr sz t) (okE (Wi.rr id st fr sz n))) := by
  have b0 : Below w.heap.size w (w.alloc (.cells #[.int .i64 id, .int .i64 st, .int .i64 fr, .int .i64 sz, .slice A n c] 27)) := (Below.refl _ _).alloc (Nat.le_refl _) _
  have bk := Blk.new w 27 #[.int .i64 id, .int .i64 st, .int .i64 fr, .int .i64 sz, .slice A n c]
  have HQ := hide (fun w' => rr_calls id st fr sz A n c w' hm)
  have HN := hide hn
  have HA := hide hA
  have HL0 : Hid (rrL id st fr sz t = if Wi.rr id st fr sz n = true then Wi.wire (rrN id st fr sz n) t else []) := by unfold rrL; rw [hn]; exact rfl
  clear hn hA
  cases hq : Wi.rr id st fr sz n
  · rw [hq] at HQ
    have HL : Hid (rrL id st fr sz t = []) := by rw [HL0.out, hq]; exact rfl
    clear hq HL0
    go_enter Try.func10, Try.ntmps10
    go_wp2_with fail
    refine (HQ.out _).mono ?_
    rintro e w1 ⟨rfl, b1⟩
    go_wp2
    go_ret2
    rw [HL.out]
    exact ⟨none, 0, 0, rfl, Own8.nil _ _, by simp [blkOf], bnext b0 b1⟩
  · rw [hq] at HQ
    have HL : Hid (rrL id st fr sz t = Wi.wire (rrN id st fr sz n) t) := by rw [HL0.out, hq]; exact rfl
    obtain ⟨⟨i1, i2⟩, ⟨p1, p2⟩, ⟨f1, f2⟩, ⟨t1, t2⟩, hnm⟩ := rr_of hq
    clear hq HL0
    obtain ⟨a, rfl⟩ : ∃ a : Nat, id = a := ⟨id.toNat, by omega⟩
    obtain ⟨s, rfl⟩ : ∃ a : Nat, st = a := ⟨st.toNat, by omega⟩
    obtain ⟨b, rfl⟩ : ∃ a : Nat, fr = a := ⟨fr.toNat, by omega⟩
    obtain ⟨d, rfl⟩ : ∃ a : Nat, sz = a := ⟨sz.toNat, by omega⟩
    have HNum : Hid (#[Value.int .i64 1, .int .i64 (a : Int), .int .i64 (s : Int), .int .i64 (b : Int), .int .i64 (d : Int), .int .i64 (n : Int)].toList = numsV (rrN a s b d n)) := rfl
    have HVs : Hid (∀ v ∈ rrN a s b d n, v ≤ 4294967294) := by
      unfold rrN
      intro v hv
      simp at hv
      rcases hv with rfl | rfl | rfl | rfl | rfl | rfl <;> omega
    go_enter Try.func10, Try.ntmps10
    go_wp2_with fail
    generalize w.alloc (.cells #[.int .i64 (a : Int), .int .i64 (s : Int), .int .i64 (b : Int), .int .i64 (d : Int), .slice A n c] 27) = W0 at *
    refine (HQ.out _).mono ?_
    rintro e w1 ⟨rfl, b1⟩
    have bk1 := bk.below b1 bk.lt
    have bel1 := bnext b0 b1
    have m0 : w1.cell? ⟨w.heap.size, 0, none⟩ = some (.int .i64 (a : Int)) := bk1.cell 0
    have m1 : w1.cell? ⟨w.heap.size, 1, none⟩ = some (.int .i64 (s : Int)) := bk1.cell 1
    have m2 : w1.cell? ⟨w.heap.size, 2, none⟩ = some (.int .i64 (b : Int)) := bk1.cell 2
    have m3 : w1.cell? ⟨w.heap.size, 3, none⟩ = some (.int .i64 (d : Int)) := bk1.cell 3
    have m4 : w1.cell? ⟨w.heap.size, 4, none⟩ = some (.slice A n c) := bk1.cell 4
    have bV : Below w1.heap.size w1 (w1.alloc (.cells #[.int .i64 1, .int .i64 (a : Int), .int .i64 (s : Int), .int .i64 (b : Int), .int .i64 (d : Int), .int .i64 (n : Int)] 3)) := (Below.refl _ _).alloc (Nat.le_refl _) _
    have vals := vals_new w1 #[.int .i64 1, .int .i64 (a : Int), .int .i64 (s : Int), .int .i64 (b : Int), .int .i64 (d : Int), .int .i64 (n : Int)] 3 _ w1.heap.size rfl HNum.out
    have bel2 := bnext bel1 bV
    have HWC := hide (write_calls A n c t (some ⟨w1.heap.size, 0, none⟩) 6 6 (rrN a s b d n) _ HN.out (by omega) ((HA.out.below bel2).more bel2.size) rfl (by omega) vals HVs.out)
    clear bk bk1 vals HNum HVs
    go_wp2_with fail
    refine HWC.out.mono ?_
    rintro e w3 ⟨A3, n3, c3, rfl, o3, g3, b3⟩
    go_wp2
    go_ret2
    rw [HL.out]
    exact ⟨A3, n3, c3, rfl, o3, fun g hg => Nat.le_trans bel2.size (g3 g hg), bnext bel2 b3⟩
end Go.Proofs.Ytijcollcncjdoaa
