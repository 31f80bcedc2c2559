/- The document's opening of wire bytes, each function by its contract. Conditions: the slice reads as bytes. -/
import Derived.Test.YtijcollcncjdoaaWireLay
import Derived.Test.YtijcollcncjdoaaRef01Reader
import Derived.Test.YtijcollcncjdoaaGolGets
namespace Go.Proofs.Ytijcollcncjdoaa
open Go.RowKit Kin

set_option maxRecDepth 100000 in
set_option maxHeartbeats 1000000 in
theorem rowB_calls (A : Option Addr) (n c : Nat) (l : List UInt8) (w : World) (hn : n = l.length) (hm : n ≤ 1000000) {b : Nat} (hA0 : Byt w b A l) :
    Calls Try.prog 58 #[.slice A n c] w (RetBytes w (Bit.zo (Bit.row l))) := by
  have HN := hide hn
  have hA := hA0.here
  clear hn hA0
  go_enter Try.func58, Try.ntmps58
  go_wp2
  go_loopw [3, 4] (fun sv iv wr => ∃ (k : Nat) (A1 : Option Addr) (n1 c1 : Nat), k ≤ n ∧ iv = .int .i64 (k : Int) ∧ sv = .slice A1 n1 c1 ∧ Own8 wr 5 A1 n1 c1 (Bit.zo (Bit.row (l.take k))) ∧ (∀ g, blkOf A1 = some g → w.heap.size ≤ g) ∧ Below w.heap.size w wr) (fun _ iv _ => n - (intOf iv).toNat)
  case atStart => exact ⟨0, none, 0, 0, by omega, rfl, rfl, Own8.nil _ _, by simp [blkOf], Below.refl _ _⟩
  case round =>
    obtain ⟨k, A1, n1, c1, hk, rfl, rfl, q, qg, qb⟩ := hrel
    by_cases hlt : k < n
    · have hkl : k < l.length := by rw [← HN.out]; exact hlt
      have hA' := hA.below qb
      have HA := hide hA
      clear hA
      obtain ⟨g, off, rfl, _, hc⟩ := hA'.at_ (k := k) hkl
      have hx := (l[k]).toNat_lt
      have HR := hide (Bit.row_take l k l[k] (List.getElem?_eq_getElem hkl))
      have hn1 : n1 = 8 * k := by rw [q.1, Bit.length_zo, Bit.length_row, List.length_take, Nat.min_eq_left (by omega)]
      have hn1' : n1 ≤ 8000000 := by omega
      clear hn1
      generalize hxx : l[k].toNat = x at *
      clear hxx hA'
      go_wp2_with (first
        | (go_at_call 52; refine (digits_calls x 8 _ (by omega) (by omega)).mono ?_; rintro e w2 ⟨A2, n2, c2, rfl, o2, g2, b2⟩; have q2 := q.below b2 q.lt; have hn2 : Hid (n2 = 8) := (by rw [o2.1, Bit.length_zo, Bit.length_digits]; exact rfl); have qb2 := qb.trans (b2.mono qb.size))
        | (at_builtin; refine wpList_append8 (by rfl) (.tmp 11) (.tmp 17) 25 5 (by rfl) bytesT _ _ _ _ (by rfl) q2 _ _ _ _ _ (by rfl) o2.byt o2.1 (by have := hn2.out; omega) ?_; intro A3 c3 w3 own3 grow3 at3))
      have own4 := own3
      rw [← Bit.zo_append, ← HR.out] at own4
      have z := qb2.size
      go_roundw
      case rel =>
        refine ⟨k + 1, A3, n1 + n2, c3, by omega, by go_num, rfl, own4, ?_, Below.grown qb2 grow3 qb2.size qg⟩
        intro g hg
        rcases at3 with h | h
        · exact qg g (by rw [← h]; exact hg)
        · rw [hg] at h; injection h with h; omega
      case measure => simp [intOf]; omega
    · obtain rfl : n = k := by omega
      have HT : Hid (l.take n = l) := List.take_of_length_le (by rw [← HN.out]; omega)
      rw [HT.out] at q
      clear hlt
      go_wp2
      go_ret
      exact ⟨_, _, _, rfl, q, qg, qb⟩
set_option maxRecDepth 100000 in
set_option maxHeartbeats 1000000 in
theorem refopenB_calls (A : Option Addr) (n c : Nat) (l : List UInt8) (w : World) (hn : n = l.length) (hm : n ≤ 1000000) {b : Nat} (hA : Byt w b A l) :
    Calls Try.prog 46 #[.slice A n c] w (RetRefR w (Bit.row l)) := by
  have hz := (zero_of_info refReader_zero).1
  have hrl : (Bit.row l).length ≤ 1099511627776 := by rw [Bit.length_row]; omega
  have HL := hide hrl
  have HN := hide hn
  clear hrl hn
  go_enter Try.func46, Try.ntmps46
  go_wp2_with fail
  refine (rowB_calls A n c l _ HN.out hm hA).mono ?_
  rintro e w1 ⟨A1, n1, c1, rfl, o1, g1, b1⟩
  have hb : Blk (w1.alloc (Obj.cells #[.slice A1 n1 c1, .int .i64 0] 89)) w1.heap.size 89 #[.slice A1 n1 c1, .int .i64 ((0 : Nat) : Int)] := Blk.new _ _ _
  have o2 := o1.alloc (Obj.cells #[.slice A1 n1 c1, .int .i64 0] 89)
  have b2 := b1.alloc b1.size (Obj.cells #[.slice A1 n1 c1, .int .i64 0] 89)
  have HE : Hid (RetRefR w (Bit.row l) (.returned (.pointer (some ⟨w1.heap.size, 0, none⟩))) (w1.alloc (Obj.cells #[.slice A1 n1 c1, .int .i64 0] 89))) :=
    ⟨w1.heap.size, blkOf A1, rfl, ⟨⟨A1, n1, c1, hb, o2, rfl⟩, Nat.zero_le _, HL.out⟩, b1.size, g1, b2⟩
  clear hb o2 b2 o1 g1 b1 HL hA
  go_wp2
  go_ret
  exact HE.out

set_option maxRecDepth 100000 in
theorem of_calls (A : Option Addr) (c : Nat) (l : List UInt8) (w : World) (hn : 4 ≤ l.length) {B : Nat} (hA : Byt w B A l) :
    Calls Try.prog 45 #[.slice A 4 c] w fun e w' => e = .returned (.int .i64 (Wi.of4 l : Int)) ∧ Below w.heap.size w w' := by
  obtain ⟨b, off, rfl, hb, hc⟩ := hA (by omega)
  rcases l with _ | ⟨x0, _ | ⟨x1, _ | ⟨x2, _ | ⟨x3, l⟩⟩⟩⟩ <;> simp at hn
  have c0 : w.cell? ⟨b, off, none⟩ = some (.int .u8 (x0.toNat : Int)) := hc 0 _ rfl
  have c1 := hc 1 _ rfl
  have c2 := hc 2 _ rfl
  have c3 := hc 3 _ rfl
  have h0 := x0.toNat_lt
  have h1 := x1.toNat_lt
  have h2 := x2.toNat_lt
  have h3 := x3.toNat_lt
  have HO : Hid (Wi.of4 (x0 :: x1 :: x2 :: x3 :: l) = ((x0.toNat * 256 + x1.toNat) * 256 + x2.toNat) * 256 + x3.toNat) := rfl
  generalize x0.toNat = y0 at *
  generalize x1.toNat = y1 at *
  generalize x2.toNat = y2 at *
  generalize x3.toNat = y3 at *
  clear hc hA
  go_enter Try.func45, Try.ntmps45
  go_wp2_with fail
  go_quiet (fail)
  go_wp2
  go_ret
  exact ⟨ret_int (by rw [HO.out]; go_num), dN _ nq⟩

theorem intsT : IsRows Try.prog 47 3 1 8 := isRows_of (z := .int .i64 0) Try.underlying47 (by decide) (by kernel_rfl) rfl
def intRow (v : Nat) : List Value := [.int .i64 (v : Int)]
theorem rdVs_row (l : List UInt8) (k : Nat) : (rdVs l (k + 1)).map intRow = (rdVs l k).map intRow ++ [intRow (Wi.rdV l k)] := by
  rw [rdVs_succ, List.map_append]; rfl
/-- the error of opening wire bytes -/
def opE (b : List UInt8) (m : Nat) : Int := if b.length < 4 then 201 else if ¬ Crc.sum (Wi.ahead b) = Wi.told b then 172 else if opOk (Wi.ahead b) m = true then 0 else 201
theorem opE_short {b : List UInt8} {m : Nat} (h : b.length < 4) : opE b m = 201 := if_pos h
theorem opE_sum {b : List UInt8} {m : Nat} (h4 : 4 ≤ b.length) (h : ¬ Crc.sum (Wi.ahead b) = Wi.told b) : opE b m = 172 := by unfold opE; rw [if_neg (by omega), if_pos h]
theorem opE_bad {b : List UInt8} {m : Nat} (h4 : 4 ≤ b.length) (h : Crc.sum (Wi.ahead b) = Wi.told b) (ho : opOk (Wi.ahead b) m = false) : opE b m = 201 := by unfold opE; rw [if_neg (by omega), if_neg (not_not_intro h), ho]; rfl
theorem opE_ok {b : List UInt8} {m : Nat} (h4 : 4 ≤ b.length) (h : Crc.sum (Wi.ahead b) = Wi.told b) (ho : opOk (Wi.ahead b) m = true) : opE b m = 0 := by unfold opE; rw [if_neg (by omega), if_neg (not_not_intro h), ho]; rfl
/-- what is answered: the numbers and what is behind, or the error -/
def RetOp (w : World) (b : List UInt8) (m : Nat) (e : Ending) (w' : World) : Prop :=
  Below w.heap.size w w' ∧ ((opE b m = 0 ∧ ∃ A n c A' n' c', e = .returned (.tuple #[.slice A n c, .slice A' n' c', .int .i64 0]) ∧ OwnR w' 3 1 A n c ((rdVs (Wi.ahead b) m).map intRow) ∧ (∀ g, blkOf A = some g → w.heap.size ≤ g) ∧ Own8 w' 5 A' n' c' (Wi.tail (Wi.ahead b) m) ∧ (∀ g, blkOf A' = some g → w.heap.size ≤ g)) ∨
    (opE b m ≠ 0 ∧ e = .returned (.tuple #[.slice none 0 0, .slice none 0 0, .int .i64 (opE b m)])))

theorem RefRIs.far {w : World} {g k : Nat} {R : Option Nat} {B : List Bool} {A : Option Addr} {n c : Nat} {rows : List (List Value)} (h : RefRIs w g R B k) (o : OwnR w 3 1 A n c rows) : ∀ i, blkOf A = some i → ¬ Foot g R i := by
  obtain ⟨⟨A', n', c', h1, h2, h3⟩, _⟩ := h
  intro i hi hf
  rcases hf with hf | hf
  · subst hf
    exact o.ne_blk h1 (by decide) hi
  · exact o.ne_own h2 (by decide) i hi (by rw [h3]; exact hf)

set_option maxRecDepth 100000 in
set_option maxHeartbeats 4000000 in
theorem wopen_calls (A : Option Addr) (n c : Nat) (b : List UInt8) (m : Nat) (w : World) (hn : n = b.length) (hc : n ≤ c) (hm : n ≤ 1000000) (hm6 : m ≤ 6) {B0 : Nat} (hA0 : Byt w B0 A b) :
    Calls Try.prog 29 #[.slice A n c, .int .i64 (m : Int)] w (RetOp w b m) := by
  have HN := hide hn
  have hA := hA0.here
  clear hn hA0
  by_cases h4 : n < 4
  · have HL : Hid (opE b m = 201) := opE_short (by rw [← HN.out]; exact h4)
    go_enter Try.func29, Try.ntmps29
    go_wp2
    go_ret3
    refine ⟨Below.refl _ _, .inr ⟨by rw [HL.out]; decide, by rw [HL.out]; rfl⟩⟩
  · obtain ⟨q, hq⟩ : ∃ q, n = q + 4 := ⟨n - 4, by omega⟩
    have HL4 : Hid (4 ≤ b.length) := by show _ ≤ _; rw [← HN.out]; omega
    subst hq
    have HAh : Hid (Wi.ahead b = b.take q) := by unfold Wi.ahead; rw [← HN.out]; rfl
    have HTo : Hid (Wi.told b = Wi.of4 (b.drop q)) := by unfold Wi.told; rw [← HN.out]; rfl
    have HLA : Hid (q = (Wi.ahead b).length) := by show _ = _; rw [HAh.out, List.length_take, ← HN.out]; omega
    have e0 : (((q + 4 : Nat) : Int) - 4) = (q : Int) := by omega
    have hs1 : ∀ w', Sem.run Try.prog (Instr.sliceAt 25 (.slice A (q + 4) c) none (some (.int .i64 (q : Int))) none) w' = .ok (.slice A q c) w' := fun w' => run_cut8h bytesT _ (q + 4) c .i64 q _ rfl (by omega) w'
    have hs2 : ∀ w', Sem.run Try.prog (Instr.sliceAt 25 (.slice A (q + 4) c) (some (.int .i64 (q : Int))) none none) w' = .ok (.slice (cutA A c q) 4 (c - q)) w' := fun w' => by
      have := run_cut8l (P := Try.prog) bytesT A (q + 4) c .i64 q _ rfl (by omega) w'
      rw [Nat.add_sub_cancel_left] at this
      exact this
    have hOf := of_calls (cutA A c q) (c - q) (b.drop q) w (by rw [List.length_drop, ← HN.out]; omega) (hA.cut q (by rw [← HN.out]; omega))
    rw [← HTo.out] at hOf
    have y0 := hA.take q
    rw [← HAh.out] at y0
    have hT32 : Wi.told b < 4294967296 := by
      rw [HTo.out]; unfold Wi.of4
      have h0 := ((b.drop q).getD 0 0).toNat_lt
      have h1 := ((b.drop q).getD 1 0).toNat_lt
      have h2 := ((b.drop q).getD 2 0).toNat_lt
      have h3 := ((b.drop q).getD 3 0).toNat_lt
      omega
    obtain ⟨T, hT⟩ : ∃ T, Wi.told b = T := ⟨_, rfl⟩
    have HT := hide hT
    rw [hT] at hOf hT32
    clear hT HTo HAh hA
    go_enter Try.func29, Try.ntmps29
    go_wp2_with fail
    refine hOf.mono ?_
    rintro e w1 ⟨rfl, b1⟩
    have y1 := (y0.below b1).more b1.size
    have hsm := C3.refSum_calls A q c (Wi.ahead b) w1 HLA.out (by omega) y1
    have hs32 : Crc.sum (Wi.ahead b) < 4294967296 := Crc.more_lt 0 _
    clear hOf y0
    go_wp2_with fail
    refine hsm.mono ?_
    rintro e w2 ⟨rfl, b2⟩
    have bel2 := bnext b1 b2
    have y2 := (y1.below b2).more b2.size
    clear hsm y1 b1 b2 hs1 hs2
    by_cases hse : Crc.sum (Wi.ahead b) = T
    · have HSE : Hid (Crc.sum (Wi.ahead b) = Wi.told b) := by rw [HT.out]; exact hse
      rw [hse]
      have en : ((T : Int) != (T : Int)) = false := by simp
      clear hse hs32
      have hop := refopenB_calls A q c (Wi.ahead b) w2 HLA.out (by omega) y2
      go_wp2_with fail
      refine hop.mono ?_
      rintro e w3 ⟨g, R, rfl, rd3, zg, zR, b3⟩
      have bel3 := bnext bel2 b3
      have zg' : w.heap.size ≤ g := Nat.le_trans bel2.size zg
      clear hop y2 b3 bel2 zg zR en
      go_wp2
      go_loopw [9, 10] (fun sv iv wr => ∃ (k n1 c1 : Nat) (A1 : Option Addr), k ≤ m ∧ iv = .int .i64 (k : Int) ∧ sv = .slice A1 n1 c1 ∧ Hid (Wi.numsOk (Wi.ahead b) k = true) ∧ OwnR wr 3 1 A1 n1 c1 ((rdVs (Wi.ahead b) k).map intRow) ∧ (∀ g, blkOf A1 = some g → w.heap.size ≤ g) ∧ RefRIs wr g R (Bit.row (Wi.ahead b)) (Wi.rdK (Wi.ahead b) k) ∧ Below w.heap.size w wr) (fun _ iv _ => m - (intOf iv).toNat)
      case atStart => exact ⟨0, 0, 0, none, by omega, rfl, rfl, numsOk_zero _, OwnR.nil _ _ _, by simp [blkOf], rd3, bel3⟩
      case round =>
        obtain ⟨k, n1, c1, A1, hk, rfl, rfl, hno, o1, g1, rd, bel⟩ := hrel
        clear rd3 bel3
        by_cases hlt : k < m
        · have hge := refgget_any g R (Wi.ahead b) (Wi.rdK (Wi.ahead b) k) wr rd (by rw [← HLA.out]; omega)
          have hgv := Gol.gV_lt (bitsOf (Wi.ahead b) (Wi.rdK (Wi.ahead b) k))
          have HE : Hid (Gol.gE (bitsOf (Wi.ahead b) (Wi.rdK (Wi.ahead b) k)) = Wi.rdE (Wi.ahead b) k) := rfl
          have HV : Hid (Gol.gV (bitsOf (Wi.ahead b) (Wi.rdK (Wi.ahead b) k)) = Wi.rdV (Wi.ahead b) k) := rfl
          have HK : Hid (Wi.rdK (Wi.ahead b) k + Gol.gK (bitsOf (Wi.ahead b) (Wi.rdK (Wi.ahead b) k)) = Wi.rdK (Wi.ahead b) (k + 1)) := rfl
          rw [HE.out, HV.out, HK.out] at hge
          rw [HV.out] at hgv
          clear HE HV HK
          have hn1 : n1 ≤ 6 := by have := o1.1; rw [List.length_map] at this; unfold rdVs at this; rw [List.length_map, List.length_range] at this; omega
          go_wp2_with fail
          refine hge.mono ?_
          rintro e w4 ⟨rfl, rd4, cg4⟩
          have o4 := cg4.ownR o1 (fun i hi hO => rd.far o1 i hi (.inl hO))
          have bel4 := bel.trans (cg4.below (B := w.heap.size) (fun i hi => by have : i = g := hi; omega) bel.size)
          clear hge cg4 rd o1 bel
          by_cases hre : Wi.rdE (Wi.ahead b) k = 0
          · have HRE := hide hre
            have HRow := hide (rdVs_row (Wi.ahead b) k)
            rw [hre]
            clear hre
            generalize Wi.rdV (Wi.ahead b) k = V at *
            have o5 := o4.alloc (.cells #[.int .i64 (V : Int)] 3)
            have r5 := Recs.new w4 #[.int .i64 (V : Int)] 3 (0, 0) 1 (intRow V) rfl rfl
            have bel5 := bel4.alloc bel4.size (.cells #[.int .i64 (V : Int)] 3)
            have rd5 := rd4.below ((Below.refl _ _).alloc (Nat.le_refl _) (.cells #[.int .i64 (V : Int)] 3))
            go_wp2_with (at_builtin; refine wpList_appendR (by rfl) (.tmp 45) (.tmp 48) 47 3 1 8 (by rfl) intsT _ _ _ _ (by rfl) o5 _ _ _ _ [intRow V] (by rfl) r5 (by rfl) (by simp [intRow]) (by simp [intRow, Value.oneCell']) (by omega) (by unfold maxLen; omega) ?_; intro A6 c6 w6 own6 grow6 at6)
            rw [← HRow.out] at own6
            have bel6 := bel5.grown grow6 bel5.size g1
            have rd6 := rd5.keep ((Chg.refl (fun i => blkOf A1 = some i) _).grown grow6 (fun _ h => .inl h)) (fun i hf hi => rd5.far o5 i hi hf)
            have g6 : ∀ g, blkOf A6 = some g → w.heap.size ≤ g := by
              intro g hg
              rcases at6 with e | e
              · exact g1 g (by rw [← e]; exact hg)
              · rw [hg] at e; injection e with e; rw [e]; exact bel5.size
            clear o5 r5 bel5 rd5 grow6 at6 o4 rd4 bel4
            go_roundw
            case rel => exact ⟨k + 1, n1 + 1, c6, A6, by omega, by go_num, rfl, numsOk_succ _ _ hno.out HRE.out, own6, g6, rd6, bel6⟩
            case measure => simp [intOf]; omega
          · have HRE := hide hre
            have en : (Wi.rdE (Wi.ahead b) k != 0) = true := by simpa using hre
            clear hre
            have HO : Hid (opE b m = 201) := opE_bad HL4.out HSE.out (by unfold opOk; rw [numsOk_bad _ k m hlt HRE.out]; rfl)
            go_wp2
            go_ret3
            refine ⟨bel4, .inr ⟨by rw [HO.out]; decide, by rw [HO.out]; rfl⟩⟩
        · obtain rfl : k = m := by omega
          have h8 : (Bit.row (Wi.ahead b)).length % 8 = 0 := by rw [Bit.length_row]; omega
          have hal := refralign_calls g R _ _ wr rd h8
          clear hlt
          rcases hB : Bit.restB (Bit.row (Wi.ahead b)) (Wi.rdK (Wi.ahead b) k) with _ | _
          · have HB := hide hB
            rw [hB, show alE false = 11 from rfl] at hal
            clear hB
            have HO : Hid (opE b k = 201) := opE_bad HL4.out HSE.out (by unfold opOk; rw [HB.out]; simp)
            go_wp2_with fail
            refine hal.mono ?_
            rintro e w8 ⟨rfl, rd8, cg8⟩
            have bel8 := bel.trans (cg8.below (B := w.heap.size) (fun i hi => by have : i = g := hi; omega) bel.size)
            go_wp2
            go_ret3
            refine ⟨bel8, .inr ⟨by rw [HO.out]; decide, by rw [HO.out]; rfl⟩⟩
          · have HB := hide hB
            rw [hB, show alE true = 0 from rfl, show alK true (Wi.rdK (Wi.ahead b) k) = 8 * ((Wi.rdK (Wi.ahead b) k + 7) / 8) from rfl] at hal
            clear hB
            have HO : Hid (opE b k = 0) := opE_ok HL4.out HSE.out (by unfold opOk; rw [HB.out, hno.out]; rfl)
            go_wp2_with fail
            refine hal.mono ?_
            rintro e w8 ⟨rfl, rd8, cg8⟩
            have o8 := cg8.ownR o1 (fun i hi hO => rd.far o1 i hi (.inl hO))
            have bel8 := bel.trans (cg8.below (B := w.heap.size) (fun i hi => by have : i = g := hi; omega) bel.size)
            have hrs := refrest_calls g R _ _ w8 rd8 h8
            have HTL : Hid (Bit.pack ((Bit.row (Wi.ahead b)).drop (8 * ((8 * ((Wi.rdK (Wi.ahead b) k + 7) / 8) + 7) / 8))) = Wi.tail (Wi.ahead b) k) := by
              show _ = _
              rw [pack_drop, show (8 * ((Wi.rdK (Wi.ahead b) k + 7) / 8) + 7) / 8 = (Wi.rdK (Wi.ahead b) k + 7) / 8 by omega]
              rfl
            rw [HTL.out] at hrs
            clear hal rd8 cg8 o1 rd bel h8
            go_wp2_with fail
            refine hrs.mono ?_
            rintro e w9 ⟨A9, n9, c9, rfl, own9, g9, b9⟩
            have bel9 := bnext bel8 b9
            have o9 := o8.below b9 o8.lt
            have g9' : ∀ g, blkOf A9 = some g → w.heap.size ≤ g := fun g hg => Nat.le_trans bel8.size (g9 g hg)
            go_wp2
            go_ret3
            exact ⟨bel9, .inl ⟨HO.out, A1, n1, c1, A9, n9, c9, rfl, o9, g1, own9, g9'⟩⟩
    · have HO : Hid (opE b m = 172) := opE_sum HL4.out (by rw [HT.out]; exact hse)
      have en : ((T : Int) != (Crc.sum (Wi.ahead b) : Int)) = true := by
        have : ¬ (T : Int) = (Crc.sum (Wi.ahead b) : Int) := by omega
        simpa using this
      clear hse
      go_wp2
      go_ret3
      refine ⟨bel2, .inr ⟨by rw [HO.out]; decide, by rw [HO.out]; rfl⟩⟩
end Go.Proofs.Ytijcollcncjdoaa
