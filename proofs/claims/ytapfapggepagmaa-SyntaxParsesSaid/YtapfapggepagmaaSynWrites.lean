/- Sequences' and headers' bytes, the program's and the document's, each function by its contract. No conditions. -/
import Derived.Test.YtapfapggepagmaaSynWalks
import Derived.Laws.Slices
namespace Go.Proofs.Ytapfapggepagmaa
open Go.RowKit Kin

/-- a field: a number in so many bits, or its code -/
def FieldRow (row : List Value) : Prop := ∃ v n : Nat, row = [.int .i64 (v : Int), .int .i64 (n : Int)] ∧ v < 9223372036854775808 ∧ ((0 < n ∧ n ≤ 64 ∧ v < 2 ^ n) ∨ (n = 0 ∧ v ≤ 4294967294))
def fieldB : List Value → List Bool
  | [.int _ v, .int _ n] => if 0 < n then Bit.digits v.toNat n.toNat else Gol.codeB v.toNat
  | _ => []
def fieldsB (rows : List (List Value)) : List Bool := rows.flatMap fieldB
theorem fieldB_put (v n : Nat) (h : 0 < n) : fieldB [.int .i64 (v : Int), .int .i64 (n : Int)] = Bit.digits v n := by simp [fieldB, h]
theorem fieldB_code (v : Nat) : fieldB [.int .i64 (v : Int), .int .i64 ((0 : Nat) : Int)] = Gol.codeB v := by simp [fieldB]
theorem fieldsB_take (rows : List (List Value)) (i : Nat) (r : List Value) (h : rows[i]? = some r) : fieldsB (rows.take (i + 1)) = fieldsB (rows.take i) ++ fieldB r := by
  unfold fieldsB
  rw [List.take_add_one, h, Option.toList_some, List.flatMap_append]; simp
theorem length_fieldB {r : List Value} (h : FieldRow r) : (fieldB r).length ≤ 64 := by
  obtain ⟨v, n, rfl, _, h | h⟩ := h
  · rw [fieldB_put v n h.1, Bit.length_digits]; exact h.2.1
  · obtain ⟨rfl, hv⟩ := h
    rw [fieldB_code, Gol.length_codeB hv]; have := Gol.gl_le v; omega

set_option maxRecDepth 100000 in
set_option maxHeartbeats 4000000 in
theorem write_calls (A : Option Addr) (n c : Nat) (rows : List (List Value)) (w : World) (hn : n = rows.length) (hm : n ≤ 8) {B0 : Nat} (hA : Recs w B0 2 A rows) (hB0 : B0 ≤ w.heap.size) (hR : ∀ r ∈ rows, FieldRow r) :
    Calls Try.prog 21 #[.slice A n c] w (RetBytes w (Bit.pack (fieldsB rows))) := by
  have HN := hide hn
  have HR := hide hR
  clear hn hR
  go_enter Try.func21, Try.ntmps21
  go_wp2_with fail
  refine (new_calls _).mono ?_
  rintro e w1 ⟨rfl, hw1, b1⟩
  obtain ⟨gw, hgw⟩ : ∃ g, g = w.heap.size := ⟨_, rfl⟩
  rw [← hgw] at hw1
  rw [← hgw]
  have ggw : w.heap.size ≤ gw := by omega
  clear hgw
  go_wp2
  go_loopw [9] (fun iv wr => ∃ (i : Nat) (Rw : Option Nat), i ≤ n ∧ iv = .int .i64 (i : Int) ∧ WriterIs wr gw Rw (fieldsB (rows.take i)) ∧ (fieldsB (rows.take i)).length ≤ 64 * i ∧ (∀ r, Rw = some r → w.heap.size ≤ r) ∧ Below w.heap.size w wr) (fun iv _ => n - (intOf iv).toNat)
  case atStart => exact ⟨0, none, by omega, rfl, hw1, by simp [fieldsB], by simp, b1⟩
  case round =>
    obtain ⟨i, Rw, hi, rfl, hw, hB, gRw, bel⟩ := hrel
    clear hw1 b1
    by_cases hlt : i < n
    · have hix : i < rows.length := by rw [← HN.out]; exact hlt
      obtain ⟨b, off, rfl, hb, hl2, hcell⟩ := (hA.below (bel.mono hB0)).at_ hix
      have hfr := HR.out rows[i] (List.getElem_mem hix)
      have HT := hide (fieldsB_take rows i _ (List.getElem?_eq_getElem hix))
      have hlf := length_fieldB hfr
      have hl3 : (fieldsB (rows.take (i + 1))).length ≤ 64 * (i + 1) := by rw [HT.out, List.length_append]; omega
      obtain ⟨v, m, hrow, hv63, hcase⟩ := hfr
      rw [hrow] at hcell HT
      have a0 : wr.cell? ⟨b, off + i * 2, none⟩ = some (.int .i64 (v : Int)) := hcell 0 _ rfl
      have a1 := hcell 1 _ rfl
      have bA := Blk.new wr 45 #[.int .i64 (v : Int), .int .i64 (m : Int)]
      have hb1 : Below wr.heap.size wr (wr.alloc (.cells #[.int .i64 (v : Int), .int .i64 (m : Int)] 45)) := (Below.refl _ _).alloc (Nat.le_refl _) _
      have hw1 := hw.below hb1
      have bel1 := bel.trans (hb1.mono bel.size)
      have c0 : (wr.alloc (.cells #[.int .i64 (v : Int), .int .i64 (m : Int)] 45)).cell? ⟨wr.heap.size, 0, none⟩ = some (.int .i64 (v : Int)) := bA.cell 0
      have c1 : (wr.alloc (.cells #[.int .i64 (v : Int), .int .i64 (m : Int)] 45)).cell? ⟨wr.heap.size, 1, none⟩ = some (.int .i64 (m : Int)) := bA.cell 1
      clear hrow hcell hl2 hlf hw bel hb1 bA
      rcases hcase with ⟨h1, h2, h3⟩ | ⟨rfl, h2⟩
      · rw [fieldB_put v m h1] at HT
        have hm' : (0 : Int) < (m : Int) := by omega
        go_wp2_with fail
        generalize wr.alloc (.cells #[.int .i64 (v : Int), .int .i64 (m : Int)] 45) = W at *
        refine (put_calls gw Rw _ v m _ hw1 (by omega) h2 h3).mono ?_
        rintro e t2 ⟨rfl, R2, hw2, ch2, r2⟩
        rw [← HT.out] at hw2
        have bel2 := bel1.trans (ch2.below (Foot.ge ggw gRw) bel1.size)
        have gR2 := r2.ge gRw bel1.size
        go_wp2
        go_roundw
        case rel => exact ⟨i + 1, R2, by omega, by go_num, hw2, hl3, gR2, bel2⟩
        case measure => simp [intOf]; omega
      · rw [fieldB_code] at HT
        rw [show (((0 : Nat)) : Int) = 0 from rfl] at c1 a1
        rw [show (((0 : Nat)) : Int) = 0 from rfl] at c0 hw1 bel1
        go_wp2_with fail
        generalize wr.alloc (.cells #[.int .i64 (v : Int), .int .i64 0] 45) = W at *
        refine (gput_any gw Rw _ v _ hw1 (by omega) (by omega)).mono ?_
        rintro e t2 ⟨rfl, R2, hw2, ch2, r2⟩
        rw [gputB_ok h2, ← HT.out] at hw2
        have bel2 := bel1.trans (ch2.below (Foot.ge ggw gRw) bel1.size)
        have gR2 := r2.ge gRw bel1.size
        go_wp2
        go_roundw
        case rel => exact ⟨i + 1, R2, by omega, by go_num, hw2, hl3, gR2, bel2⟩
        case measure => simp [intOf]; omega
    · obtain rfl : i = n := by omega
      have ht : rows.take i = rows := List.take_of_length_le (by rw [← HN.out]; exact Nat.le_refl _)
      rw [ht] at hw hB
      have HPF := hide (Bit.pack_fill (fieldsB rows))
      have hLF : (Bit.fill (fieldsB rows)).length ≤ 2000 := by have := length_fill_le (fieldsB rows); omega
      rw [← HPF.out] 
      clear ht hlt
      go_wp2_with fail
      refine (walign_calls gw Rw _ _ hw (by omega)).mono ?_
      rintro e t2 ⟨rfl, hw2, ch2⟩
      have bel2 := bel.trans (ch2.below (Foot.ge ggw gRw) bel.size)
      go_wp2_with fail
      refine (wbytes_calls gw Rw _ _ hw2 (by omega)).mono ?_
      rintro e t3 ⟨A3, n3, c3, rfl, o3, g3, b3⟩
      go_wp2
      go_ret
      exact ⟨A3, n3, c3, rfl, by rw [← HPF.out]; exact o3, fun g hg => by have := g3 g hg; have := bel2.size; omega, bel2.trans (b3.mono bel2.size)⟩

theorem Recs.blk {w : World} {g : Nat} {t : TypeId} {cs : Array Value} {k : Nat} {rows : List (List Value)} (h : Blk w g t cs) (hk : ∀ r ∈ rows, r.length = k) (e : cs.toList = rows.flatten) : Recs w (g + 1) k (some ⟨g, 0, none⟩) rows := fun _ =>
  ⟨g, 0, rfl, by omega, fun i r hr => by
    have hrk := hk r (List.mem_of_getElem? hr)
    refine ⟨hrk, fun j v hj => ?_⟩
    have hjk : j < k := by rw [← hrk]; exact (List.getElem?_eq_some_iff.1 hj).1
    have h1 := flatten_at rows hk i j r hr hjk
    rw [h.cell, ← Array.getElem?_toList, e, Nat.zero_add, h1, hj]⟩

/-- bytes of the call's own and an error -/
def RetBE (w : World) (l : List UInt8) (E : Int) (e : Ending) (w' : World) : Prop :=
  ∃ A n c, e = .returned (.tuple #[.slice A n c, .int .i64 E]) ∧ Own8 w' 5 A n c l ∧ (∀ g, blkOf A = some g → w.heap.size ≤ g) ∧ Below w.heap.size w w'

set_option maxRecDepth 100000 in
set_option maxHeartbeats 4000000 in
theorem seq_calls (W H G : Int) (w : World) : Calls Try.prog 8 #[seqV W H G] w (RetBE w (Syn.seqL W H G) (Syn.seqE W H G)) := by
  have bS := Blk.new w 23 #[.int .i64 W, .int .i64 H, .int .i64 G]
  have bb0 : Below w.heap.size w (w.alloc (.cells #[.int .i64 W, .int .i64 H, .int .i64 G] 23)) := (Below.refl w.heap.size w).alloc (Nat.le_refl _) _
  cases hr : Syn.rightB W H G
  · rw [Syn.seqL_no hr, Syn.seqE_no hr]
    have HR := hide (right_calls W H G)
    rw [hr] at HR
    clear hr
    go_enter Try.func8, Try.ntmps8
    go_wp2_with fail
    refine (HR.out _).mono ?_
    rintro e w1 ⟨rfl, b1⟩
    go_wp2
    go_ret2
    exact ⟨none, 0, 0, rfl, Own8.nil _ _, by simp [blkOf], bnext bb0 b1⟩
  · rw [Syn.seqL_yes hr, Syn.seqE_yes hr]
    have HR := hide (right_calls W H G)
    rw [hr] at HR
    obtain ⟨⟨hw1, hw2, hw3⟩, ⟨hh1, hh2, hh3⟩, hg1, hg2⟩ := Syn.right_of hr
    clear hr
    obtain ⟨a, ha⟩ : ∃ a : Nat, W = 16 * ((a : Int) + 1) := ⟨(W / 16 - 1).toNat, by omega⟩
    obtain ⟨b, hb⟩ : ∃ b : Nat, H = 16 * ((b : Int) + 1) := ⟨(H / 16 - 1).toNat, by omega⟩
    obtain ⟨g, hg⟩ : ∃ g : Nat, G = (g : Int) + 1 := ⟨(G - 1).toNat, by omega⟩
    have hWa : W / 16 - 1 = (a : Int) := by omega
    have hHb : H / 16 - 1 = (b : Int) := by omega
    have hGg : G - 1 = (g : Int) := by omega
    have HSB : Hid (Syn.seqB W H G = fieldsB [[.int .i64 ((19273 : Nat) : Int), .int .i64 ((16 : Nat) : Int)], [.int .i64 (a : Int), .int .i64 ((0 : Nat) : Int)], [.int .i64 (b : Int), .int .i64 ((0 : Nat) : Int)], [.int .i64 (g : Int), .int .i64 ((0 : Nat) : Int)]]) := by
      show _ = _
      unfold Syn.seqB fieldsB
      rw [hWa, hHb, hGg, Int.toNat_natCast, Int.toNat_natCast, Int.toNat_natCast]
      simp only [List.flatMap_cons, List.flatMap_nil, fieldB_put 19273 16 (by omega), fieldB_code, List.append_nil, List.append_assoc]
    have HFR : Hid (∀ r ∈ [[Value.int .i64 ((19273 : Nat) : Int), .int .i64 ((16 : Nat) : Int)], [.int .i64 (a : Int), .int .i64 ((0 : Nat) : Int)], [.int .i64 (b : Int), .int .i64 ((0 : Nat) : Int)], [.int .i64 (g : Int), .int .i64 ((0 : Nat) : Int)]], FieldRow r) := by
      intro r hr
      simp only [List.mem_cons, List.mem_nil_iff, or_false] at hr
      rcases hr with rfl | rfl | rfl | rfl
      · exact ⟨19273, 16, rfl, by omega, .inl ⟨by omega, by omega, by omega⟩⟩
      · exact ⟨a, 0, rfl, by omega, .inr ⟨rfl, by omega⟩⟩
      · exact ⟨b, 0, rfl, by omega, .inr ⟨rfl, by omega⟩⟩
      · exact ⟨g, 0, rfl, by omega, .inr ⟨rfl, by omega⟩⟩
    rw [HSB.out]
    clear ha hb hg HSB
    go_enter Try.func8, Try.ntmps8
    go_wp2_with fail
    generalize w.alloc (.cells #[.int .i64 W, .int .i64 H, .int .i64 G] 23) = W0 at *
    refine (HR.out _).mono ?_
    rintro e w1 ⟨rfl, b1⟩
    have bb := bb0.trans (b1.mono bb0.size)
    have bS1 := bS.below b1 bS.lt
    have k0 : w1.cell? ⟨w.heap.size, 0, none⟩ = some (.int .i64 W) := bS1.cell 0
    have k1 : w1.cell? ⟨w.heap.size, 1, none⟩ = some (.int .i64 H) := bS1.cell 1
    have k2 : w1.cell? ⟨w.heap.size, 2, none⟩ = some (.int .i64 G) := bS1.cell 2
    clear bS bS1 HR b1 bb0
    go_wp2_with fail
    have hrec := Recs.blk (k := 2) (rows := [[Value.int .i64 ((19273 : Nat) : Int), .int .i64 ((16 : Nat) : Int)], [.int .i64 (a : Int), .int .i64 ((0 : Nat) : Int)], [.int .i64 (b : Int), .int .i64 ((0 : Nat) : Int)], [.int .i64 (g : Int), .int .i64 ((0 : Nat) : Int)]]) (Blk.new w1 46 #[.int .i64 19273, .int .i64 16, .int .i64 (a : Int), .int .i64 0, .int .i64 (b : Int), .int .i64 0, .int .i64 (g : Int), .int .i64 0]) (by simp) (by rfl)
    refine (write_calls _ 4 4 _ _ (by rfl) (by omega) hrec (by simp) HFR.out).mono ?_
    rintro e t3 ⟨A3, n3, c3, rfl, o3, g3, b3⟩
    go_wp2
    go_ret2
    have bb1 := bb.alloc bb.size (.cells #[.int .i64 19273, .int .i64 16, .int .i64 (a : Int), .int .i64 0, .int .i64 (b : Int), .int .i64 0, .int .i64 (g : Int), .int .i64 0] 46)
    exact ⟨A3, n3, c3, rfl, o3, fun q hq => by have := g3 q hq; have := bb1.size; omega, bb1.trans (b3.mono bb1.size)⟩

/-- own bytes with more behind -/
theorem own_more {w w1 w2 w3 : World} {e : TypeId} {A1 A3 : Option Addr} {n1 c1 n3 c3 : Nat} {X Y : List Bool} (_h1 : Own8 w1 e A1 n1 c1 (Bit.zo X)) (g1 : ∀ g, blkOf A1 = some g → w.heap.size ≤ g) (bel2 : Below w.heap.size w w2)
    (own3 : Own8 w3 e A3 n3 c3 (Bit.zo X ++ Bit.zo Y)) (grow3 : w2.grownBy w3 (blkOf A1)) (at3 : blkOf A3 = blkOf A1 ∨ blkOf A3 = some w2.heap.size) :
    Own8 w3 e A3 n3 c3 (Bit.zo (X ++ Y)) ∧ (∀ g, blkOf A3 = some g → w.heap.size ≤ g) ∧ Below w.heap.size w w3 := by
  refine ⟨by rw [Bit.zo_append]; exact own3, ?_, bel2.grown grow3 bel2.size g1⟩
  intro g hg
  rcases at3 with e | e
  · exact g1 g (by rw [← e]; exact hg)
  · rw [hg] at e; injection e with e; have := bel2.size; omega

set_option maxRecDepth 100000 in
set_option maxHeartbeats 4000000 in
theorem refseq_calls (W H G : Int) (w : World) : Calls Try.prog 9 #[seqV W H G] w (RetBE w (Syn.seqL W H G) (Syn.seqE W H G)) := by
  have bS := Blk.new w 23 #[.int .i64 W, .int .i64 H, .int .i64 G]
  have bb0 : Below w.heap.size w (w.alloc (.cells #[.int .i64 W, .int .i64 H, .int .i64 G] 23)) := (Below.refl w.heap.size w).alloc (Nat.le_refl _) _
  cases hr : Syn.rightB W H G
  · rw [Syn.seqL_no hr, Syn.seqE_no hr]
    have HR := hide (refright_calls W H G)
    rw [hr] at HR
    clear hr
    go_enter Try.func9, Try.ntmps9
    go_wp2_with fail
    refine (HR.out _).mono ?_
    rintro e w1 ⟨rfl, b1⟩
    go_wp2
    go_ret2
    exact ⟨none, 0, 0, rfl, Own8.nil _ _, by simp [blkOf], bnext bb0 b1⟩
  · rw [Syn.seqL_yes hr, Syn.seqE_yes hr]
    have HR := hide (refright_calls W H G)
    rw [hr] at HR
    obtain ⟨⟨hw1, hw2, hw3⟩, ⟨hh1, hh2, hh3⟩, hg1, hg2⟩ := Syn.right_of hr
    clear hr
    obtain ⟨a, ha⟩ : ∃ a : Nat, W / 16 - 1 = (a : Int) := ⟨(W / 16 - 1).toNat, by omega⟩
    obtain ⟨b, hb⟩ : ∃ b : Nat, H / 16 - 1 = (b : Int) := ⟨(H / 16 - 1).toNat, by omega⟩
    obtain ⟨g, hg⟩ : ∃ g : Nat, G - 1 = (g : Int) := ⟨(G - 1).toNat, by omega⟩
    have ha5 : a ≤ 255 := by omega
    have hb5 : b ≤ 255 := by omega
    have hg5 : g ≤ 63 := by omega
    have HSB : Hid (Syn.seqB W H G = Bit.digits 19273 16 ++ Gol.codeB a ++ Gol.codeB b ++ Gol.codeB g) := by
      show _ = _
      unfold Syn.seqB
      rw [ha, hb, hg, Int.toNat_natCast, Int.toNat_natCast, Int.toNat_natCast]
    have HCA := hide (code_calls a)
    have HCB := hide (code_calls b)
    have HCG := hide (code_calls g)
    have la : (Gol.codeB a).length ≤ 63 := by rw [Gol.length_codeB (by omega)]; exact Gol.gl_le _
    have lb : (Gol.codeB b).length ≤ 63 := by rw [Gol.length_codeB (by omega)]; exact Gol.gl_le _
    have lg : (Gol.codeB g).length ≤ 63 := by rw [Gol.length_codeB (by omega)]; exact Gol.gl_le _
    rw [HSB.out]
    have HD := hide (digits_calls 19273 16)
    have lD : (Bit.digits 19273 16).length ≤ 16 := by rw [Bit.length_digits]; omega
    generalize Gol.codeB a = CA at *
    generalize Gol.codeB b = CB at *
    generalize Gol.codeB g = CG at *
    generalize Bit.digits 19273 16 = DD at *
    clear HSB
    go_enter Try.func9, Try.ntmps9
    go_wp2_with fail
    generalize w.alloc (.cells #[.int .i64 W, .int .i64 H, .int .i64 G] 23) = W0 at *
    refine (HR.out _).mono ?_
    rintro e w1 ⟨rfl, b1⟩
    have bb1 := bb0.trans (b1.mono bb0.size)
    have bS1 := bS.below b1 bS.lt
    clear bS HR b1 bb0
    go_wp2_with fail
    refine (HD.out _ (by omega) (by omega)).mono ?_
    rintro e w2 ⟨A2, n2, c2, rfl, o2, g2, b2⟩
    have bb2 := bb1.trans (b2.mono bb1.size)
    have gg2 : ∀ q, blkOf A2 = some q → w.heap.size ≤ q := fun q hq => by have := g2 q hq; have := bb1.size; omega
    have bS2 := bS1.below b2 bS1.lt
    have k0 : w2.cell? ⟨w.heap.size, 0, none⟩ = some (.int .i64 W) := bS2.cell 0
    have hn2 : n2 ≤ 16 := by rw [o2.1, Bit.length_zo]; exact lD
    clear bS1 b2 g2 bb1
    go_wp2_with fail
    refine (HCA.out _ (by omega)).mono ?_
    rintro e w3 ⟨A3, n3, c3, rfl, o3, g3, b3⟩
    have o2' := o2.below b3 o2.lt
    have bb3 := bb2.trans (b3.mono bb2.size)
    have bS3 := bS2.below b3 bS2.lt
    have hn3 : n3 ≤ 63 := by rw [o3.1, Bit.length_zo]; exact la
    have ne2 : blkOf A2 ≠ some w.heap.size := by have := own_blk_ne o2'.2 bS3 (by decide); rwa [ownBlock_slice] at this
    have NE2 := hide ne2
    clear ne2
    go_wp2_with (at_builtin; refine wpList_append8 (by rfl) (.tmp 11) (.tmp 17) 26 5 (by rfl) bytesT _ _ _ _ (by rfl) o2' _ _ _ _ _ (by rfl) o3.byt o3.1 (by omega) ?_; intro A4 c4 w4 own4 grow4 at4; have bS4 := bS3.grown grow4 (Ne.symm NE2.out); have k4 : w4.cell? ⟨w.heap.size, 1, none⟩ = some (.int .i64 H) := bS4.cell 1)
    obtain ⟨o4, gg4, bb4⟩ := own_more o2' gg2 bb3 own4 grow4 at4
    clear o2 o2' o3 g3 b3 bb2 bb3 bS2 bS3 k0 own4 grow4 at4 gg2
    have hn4 : n2 + n3 ≤ 79 := by omega
    generalize n2 + n3 = n4 at *
    refine (HCB.out _ (by omega)).mono ?_
    rintro e w5 ⟨A5, n5, c5, rfl, o5, g5, b5⟩
    have o4' := o4.below b5 o4.lt
    have bb5 := bb4.trans (b5.mono bb4.size)
    have bS5 := bS4.below b5 bS4.lt
    have hn5 : n5 ≤ 63 := by rw [o5.1, Bit.length_zo]; exact lb
    have ne4 : blkOf A4 ≠ some w.heap.size := by have := own_blk_ne o4'.2 bS5 (by decide); rwa [ownBlock_slice] at this
    have NE4 := hide ne4
    clear ne4
    go_wp2_with (at_builtin; refine wpList_append8 (by rfl) (.tmp 19) (.tmp 25) 26 5 (by rfl) bytesT _ _ _ _ (by rfl) o4' _ _ _ _ _ (by rfl) o5.byt o5.1 (by omega) ?_; intro A6 c6 w6 own6 grow6 at6; have bS6 := bS5.grown grow6 (Ne.symm NE4.out); have k6 : w6.cell? ⟨w.heap.size, 2, none⟩ = some (.int .i64 G) := bS6.cell 2)
    obtain ⟨o6, gg6, bb6⟩ := own_more o4' gg4 bb5 own6 grow6 at6
    clear o4 o4' o5 g5 b5 bb4 bb5 bS4 bS5 k4 own6 grow6 at6 gg4
    have hn6 : n4 + n5 ≤ 142 := by omega
    generalize n4 + n5 = n6 at *
    refine (HCG.out _ (by omega)).mono ?_
    rintro e w7 ⟨A7, n7, c7, rfl, o7, g7, b7⟩
    have o6' := o6.below b7 o6.lt
    have bb7 := bb6.trans (b7.mono bb6.size)
    have bS7 := bS6.below b7 bS6.lt
    have hn7 : n7 ≤ 63 := by rw [o7.1, Bit.length_zo]; exact lg
    have ne6 : blkOf A6 ≠ some w.heap.size := by have := own_blk_ne o6'.2 bS7 (by decide); rwa [ownBlock_slice] at this
    have NE6 := hide ne6
    clear ne6
    go_wp2_with (at_builtin; refine wpList_append8 (by rfl) (.tmp 27) (.tmp 32) 26 5 (by rfl) bytesT _ _ _ _ (by rfl) o6' _ _ _ _ _ (by rfl) o7.byt o7.1 (by omega) ?_; intro A8 c8 w8 own8 grow8 at8; have bS8 := bS7.grown grow8 (Ne.symm NE6.out))
    obtain ⟨o8, gg8, bb8⟩ := own_more o6' gg6 bb7 own8 grow8 at8
    have HL8 : Hid (n6 + n7 = (DD ++ CA ++ CB ++ CG).length) := by rw [← Bit.length_zo]; exact o8.1
    refine (pack_calls A8 (n6 + n7) c8 (DD ++ CA ++ CB ++ CG) _ HL8.out (by omega) o8.byt).mono ?_
    rintro e w9 ⟨A9, n9, c9, rfl, o9, g9, b9⟩
    go_wp2
    go_ret2
    exact ⟨A9, n9, c9, rfl, o9, fun q hq => by have := g9 q hq; have := bb8.size; omega, bb8.trans (b9.mono bb8.size)⟩

set_option maxRecDepth 100000 in
set_option maxHeartbeats 4000000 in
theorem head_calls (K : Bool) (N0 Q0 W H G : Int) (w : World) : Calls Try.prog 10 #[headV K N0 Q0, seqV W H G] w (RetBE w (Syn.headL K N0 Q0 W H G) (Syn.headE K N0 Q0 W H G)) := by
  have bb0 : Below w.heap.size w ((w.alloc (.cells #[.bool K, .int .i64 N0, .int .i64 Q0] 25)).alloc (.cells #[.int .i64 W, .int .i64 H, .int .i64 G] 23)) := ((Below.refl w.heap.size w).alloc (Nat.le_refl _) _).alloc (by simp) _
  have bA := (Blk.new w 25 #[.bool K, .int .i64 N0, .int .i64 Q0]).alloc (.cells #[.int .i64 W, .int .i64 H, .int .i64 G] 23)
  cases hr : Syn.fitsB K N0 Q0 W H G
  · rw [Syn.headL_no hr, Syn.headE_no hr]
    have HR := hide (fits_calls K N0 Q0 W H G)
    rw [hr] at HR
    clear hr
    go_enter Try.func10, Try.ntmps10
    go_wp2_with fail
    refine (HR.out _).mono ?_
    rintro e w1 ⟨rfl, b1⟩
    go_wp2
    go_ret2
    exact ⟨none, 0, 0, rfl, Own8.nil _ _, by simp [blkOf], bnext bb0 b1⟩
  · rw [Syn.headL_yes hr, Syn.headE_yes hr]
    have HR := hide (fits_calls K N0 Q0 W H G)
    rw [hr] at HR
    obtain ⟨hri, ⟨hq1, hq2, hn1, hn2⟩, hk⟩ := Syn.fits_of hr
    obtain ⟨_, _, hg1, hg2⟩ := Syn.right_of hri
    clear hr hri hk
    obtain ⟨N, rfl⟩ : ∃ a : Nat, N0 = (a : Int) := ⟨N0.toNat, by omega⟩
    obtain ⟨Q, rfl⟩ : ∃ a : Nat, Q0 = (a : Int) := ⟨Q0.toNat, by omega⟩
    have HSB : Hid (Syn.headB K N Q = fieldsB [[Value.int .i64 ((K.toNat : Nat) : Int), .int .i64 ((1 : Nat) : Int)], [.int .i64 (N : Int), .int .i64 ((0 : Nat) : Int)], [.int .i64 (Q : Int), .int .i64 ((5 : Nat) : Int)]]) := by
      show _ = _
      unfold Syn.headB fieldsB
      rw [Int.toNat_natCast, Int.toNat_natCast]
      simp only [List.flatMap_cons, List.flatMap_nil, fieldB_put _ 1 (by omega), fieldB_put _ 5 (by omega), fieldB_code, List.append_nil, List.append_assoc]
    have HFR : Hid (∀ r ∈ [[Value.int .i64 ((K.toNat : Nat) : Int), .int .i64 ((1 : Nat) : Int)], [.int .i64 (N : Int), .int .i64 ((0 : Nat) : Int)], [.int .i64 (Q : Int), .int .i64 ((5 : Nat) : Int)]], FieldRow r) := by
      intro r hr
      simp only [List.mem_cons, List.mem_nil_iff, or_false] at hr
      have hk1 : K.toNat ≤ 1 := Bool.toNat_le K
      rcases hr with rfl | rfl | rfl
      · exact ⟨K.toNat, 1, rfl, by omega, .inl ⟨by omega, by omega, by omega⟩⟩
      · exact ⟨N, 0, rfl, by omega, .inr ⟨rfl, by omega⟩⟩
      · exact ⟨Q, 5, rfl, by omega, .inl ⟨by omega, by omega, by omega⟩⟩
    rw [HSB.out]
    clear HSB
    go_enter Try.func10, Try.ntmps10
    go_wp2_with fail
    generalize (w.alloc (.cells #[.bool K, .int .i64 (N : Int), .int .i64 (Q : Int)] 25)).alloc (.cells #[.int .i64 W, .int .i64 H, .int .i64 G] 23) = W0 at *
    refine (HR.out _).mono ?_
    rintro e w1 ⟨rfl, b1⟩
    have bb := bb0.trans (b1.mono bb0.size)
    have bA1 := bA.below b1 bA.lt
    have k0 : w1.cell? ⟨w.heap.size, 0, none⟩ = some (.bool K) := bA1.cell 0
    have k1 : w1.cell? ⟨w.heap.size, 1, none⟩ = some (.int .i64 (N : Int)) := bA1.cell 1
    have k2 : w1.cell? ⟨w.heap.size, 2, none⟩ = some (.int .i64 (Q : Int)) := bA1.cell 2
    clear bA bA1 HR b1 bb0
    have hrec := Recs.blk (k := 2) (rows := [[Value.int .i64 ((K.toNat : Nat) : Int), .int .i64 ((1 : Nat) : Int)], [.int .i64 (N : Int), .int .i64 ((0 : Nat) : Int)], [.int .i64 (Q : Int), .int .i64 ((5 : Nat) : Int)]]) (Blk.new w1 53 #[.int .i64 (K.toNat : Int), .int .i64 1, .int .i64 (N : Int), .int .i64 0, .int .i64 (Q : Int), .int .i64 5]) (by simp) (by rfl)
    have HREC := hide hrec
    have bb1 := bb.alloc bb.size (.cells #[.int .i64 (K.toNat : Int), .int .i64 1, .int .i64 (N : Int), .int .i64 0, .int .i64 (Q : Int), .int .i64 5] 53)
    clear hrec
    cases K
    all_goals
      go_wp2_with fail
      refine (write_calls _ 3 3 _ _ (by rfl) (by omega) HREC.out (by simp) HFR.out).mono ?_
      rintro e t3 ⟨A3, n3, c3, rfl, o3, g3, b3⟩
      go_wp2
      go_ret2
      exact ⟨A3, n3, c3, rfl, o3, fun q hq => by have := g3 q hq; have := bb1.size; omega, bb1.trans (b3.mono bb1.size)⟩

theorem digits_one (K : Bool) : Bit.digits K.toNat 1 = [K] := by cases K <;> decide +kernel

set_option maxRecDepth 100000 in
set_option maxHeartbeats 4000000 in
theorem refhead_calls (K : Bool) (N0 Q0 W H G : Int) (w : World) : Calls Try.prog 11 #[headV K N0 Q0, seqV W H G] w (RetBE w (Syn.headL K N0 Q0 W H G) (Syn.headE K N0 Q0 W H G)) := by
  have bb0 : Below w.heap.size w ((w.alloc (.cells #[.bool K, .int .i64 N0, .int .i64 Q0] 25)).alloc (.cells #[.int .i64 W, .int .i64 H, .int .i64 G] 23)) := ((Below.refl w.heap.size w).alloc (Nat.le_refl _) _).alloc (by simp) _
  have bA := (Blk.new w 25 #[.bool K, .int .i64 N0, .int .i64 Q0]).alloc (.cells #[.int .i64 W, .int .i64 H, .int .i64 G] 23)
  cases hr : Syn.fitsB K N0 Q0 W H G
  · rw [Syn.headL_no hr, Syn.headE_no hr]
    have HR := hide (reffits_calls K N0 Q0 W H G)
    rw [hr] at HR
    clear hr
    go_enter Try.func11, Try.ntmps11
    go_wp2_with fail
    refine (HR.out _).mono ?_
    rintro e w1 ⟨rfl, b1⟩
    go_wp2
    go_ret2
    exact ⟨none, 0, 0, rfl, Own8.nil _ _, by simp [blkOf], bnext bb0 b1⟩
  · rw [Syn.headL_yes hr, Syn.headE_yes hr]
    have HR := hide (reffits_calls K N0 Q0 W H G)
    rw [hr] at HR
    obtain ⟨hri, ⟨hq1, hq2, hn1, hn2⟩, hk⟩ := Syn.fits_of hr
    obtain ⟨_, _, hg1, hg2⟩ := Syn.right_of hri
    clear hr hri hk
    obtain ⟨N, rfl⟩ : ∃ a : Nat, N0 = (a : Int) := ⟨N0.toNat, by omega⟩
    obtain ⟨Q, rfl⟩ : ∃ a : Nat, Q0 = (a : Int) := ⟨Q0.toNat, by omega⟩
    have HSB : Hid (Syn.headB K N Q = [K] ++ Gol.codeB N ++ Bit.digits Q 5) := by
      show _ = _
      unfold Syn.headB
      rw [Int.toNat_natCast, Int.toNat_natCast, digits_one]
    rw [HSB.out]
    have HCA := hide (code_calls N)
    have HD := hide (digits_calls Q 5)
    have la : (Gol.codeB N).length ≤ 63 := by rw [Gol.length_codeB (by omega)]; exact Gol.gl_le _
    have lD : (Bit.digits Q 5).length ≤ 5 := by rw [Bit.length_digits]; omega
    generalize Gol.codeB N = CA at *
    generalize Bit.digits Q 5 = DD at *
    clear HSB
    go_enter Try.func11, Try.ntmps11
    go_wp2_with fail
    generalize (w.alloc (.cells #[.bool K, .int .i64 (N : Int), .int .i64 (Q : Int)] 25)).alloc (.cells #[.int .i64 W, .int .i64 H, .int .i64 G] 23) = W0 at *
    refine (HR.out _).mono ?_
    rintro e w1 ⟨rfl, b1⟩
    have bb1 := bb0.trans (b1.mono bb0.size)
    have bA1 := bA.below b1 bA.lt
    have k0 : w1.cell? ⟨w.heap.size, 0, none⟩ = some (.bool K) := bA1.cell 0
    clear bA HR b1 bb0
    cases K
    case' false =>
      go_wp2_with (at_builtin; refine wpList_append8 (by rfl) (.tmp 18) (.tmp 19) 26 5 (by rfl) bytesT _ _ _ [] (by rfl) (Own8.nil _ _) _ _ _ _ [0] (by rfl) (Byt.new _ _ _ _ _ rfl) (by rfl) (by simp) ?_; intro A2 c2 w2 own2 grow2 at2; have bA2 := (bA1.alloc _).grown grow2 (by simp [blkOf]); have k1 : w2.cell? ⟨w.heap.size, 1, none⟩ = some (.int .i64 (N : Int)) := bA2.cell 1)
      have bb11 := bb1.alloc bb1.size (.cells #[.int .u8 0] 5)
      obtain ⟨o2, gg2, bb2⟩ := own_more (X := []) (Y := [false]) (Own8.nil w1 _) (by simp [blkOf]) bb11 own2 grow2 at2
    case' true =>
      go_wp2_with (at_builtin; refine wpList_append8 (by rfl) (.tmp 15) (.tmp 16) 26 5 (by rfl) bytesT _ _ _ [] (by rfl) (Own8.nil _ _) _ _ _ _ [1] (by rfl) (Byt.new _ _ _ _ _ rfl) (by rfl) (by simp) ?_; intro A2 c2 w2 own2 grow2 at2; have bA2 := (bA1.alloc _).grown grow2 (by simp [blkOf]); have k1 : w2.cell? ⟨w.heap.size, 1, none⟩ = some (.int .i64 (N : Int)) := bA2.cell 1)
      have bb11 := bb1.alloc bb1.size (.cells #[.int .u8 1] 5)
      obtain ⟨o2, gg2, bb2⟩ := own_more (X := []) (Y := [true]) (Own8.nil w1 _) (by simp [blkOf]) bb11 own2 grow2 at2
    all_goals
      clear bA1 bb1 bb11 own2 grow2 at2 k0
      refine (HCA.out _ (by omega)).mono ?_
      rintro e w3 ⟨A3, n3, c3, rfl, o3, g3, b3⟩
      have o2' := o2.below b3 o2.lt
      have bb3 := bb2.trans (b3.mono bb2.size)
      have bS3 := bA2.below b3 bA2.lt
      have hn3 : n3 ≤ 63 := by rw [o3.1, Bit.length_zo]; exact la
      have ne2 : blkOf A2 ≠ some w.heap.size := by have := own_blk_ne o2'.2 bS3 (by decide); rwa [ownBlock_slice] at this
      have NE2 := hide ne2
      clear ne2
      go_wp2_with (at_builtin; refine wpList_append8 (by rfl) (.tmp 21) (.tmp 25) 26 5 (by rfl) bytesT _ _ _ _ (by rfl) o2' _ _ _ _ _ (by rfl) o3.byt o3.1 (by omega) ?_; intro A4 c4 w4 own4 grow4 at4; have bS4 := bS3.grown grow4 (Ne.symm NE2.out); have k4 : w4.cell? ⟨w.heap.size, 2, none⟩ = some (.int .i64 (Q : Int)) := bS4.cell 2)
      obtain ⟨o4, gg4, bb4⟩ := own_more o2' gg2 bb3 own4 grow4 at4
      clear o2 o2' o3 g3 b3 bb2 bb3 bA2 bS3 k1 own4 grow4 at4 gg2
      refine (HD.out _ (by omega) (by omega)).mono ?_
      rintro e w5 ⟨A5, n5, c5, rfl, o5, g5, b5⟩
      have o4' := o4.below b5 o4.lt
      have bb5 := bb4.trans (b5.mono bb4.size)
      have hn5 : n5 ≤ 5 := by rw [o5.1, Bit.length_zo]; exact lD
      go_wp2_with (at_builtin; refine wpList_append8 (by rfl) (.tmp 27) (.tmp 31) 26 5 (by rfl) bytesT _ _ _ _ (by rfl) o4' _ _ _ _ _ (by rfl) o5.byt o5.1 (by omega) ?_; intro A6 c6 w6 own6 grow6 at6)
      obtain ⟨o6, gg6, bb6⟩ := own_more o4' gg4 bb5 own6 grow6 at6
      have HL8 := hide o6.1
      rw [Bit.length_zo] at HL8
      refine (pack_calls A6 _ c6 _ _ HL8.out (by omega) o6.byt).mono ?_
      rintro e w9 ⟨A9, n9, c9, rfl, o9, g9, b9⟩
      go_wp2
      go_ret2
      exact ⟨A9, n9, c9, rfl, o9, fun q hq => by have := g9 q hq; have := bb6.size; omega, bb6.trans (b9.mono bb6.size)⟩
end Go.Proofs.Ytapfapggepagmaa
