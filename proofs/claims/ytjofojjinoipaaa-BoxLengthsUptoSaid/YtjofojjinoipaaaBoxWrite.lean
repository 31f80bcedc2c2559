/- Boxes' file, by its contract. Conditions: the slice reads as boxes, and the file is of at most 2^40 bytes. -/
import Derived.Test.YtjofojjinoipaaaBoxFits
import Derived.Test.YtjofojjinoipaaaAppS
namespace Go.Proofs.Ytjofojjinoipaaa
open Go.RowKit Kin

/-- bytes of the call's own, and an error -/
def RetBE (w : World) (l : List UInt8) (E : Int) (e : Ending) (w' : World) : Prop :=
  ∃ A n c, e = .returned (.tuple #[.slice A n c, .int .i64 E]) ∧ Own8 w' 5 A n c l ∧ (∀ g, blkOf A = some g → w.heap.size ≤ g) ∧ Below w.heap.size w w'
def wrL (L : List Bx.Box) : List UInt8 := if L.all Bx.rightB = true then Bx.file L else []
def wrE (L : List Bx.Box) : Int := if L.all Bx.rightB = true then 0 else 161
theorem wr_yes {L : List Bx.Box} (h : L.all Bx.rightB = true) : wrL L = Bx.file L ∧ wrE L = 0 := by unfold wrL wrE; rw [if_pos h, if_pos h]; exact ⟨rfl, rfl⟩
theorem wr_no {L : List Bx.Box} (h : L.all Bx.rightB = false) : wrL L = [] ∧ wrE L = 161 := by unfold wrL wrE; rw [h, if_neg (by simp), if_neg (by simp)]; exact ⟨rfl, rfl⟩
theorem all_no {L : List Bx.Box} {k : Nat} {x : Bx.Box} (h : L[k]? = some x) (hx : Bx.rightB x = false) : L.all Bx.rightB = false := by
  cases e : L.all Bx.rightB
  · rfl
  · rw [List.all_eq_true] at e
    rw [e x (List.mem_of_getElem? h)] at hx; cases hx
theorem all_snoc {L : List Bx.Box} {x : Bx.Box} (h : L.all Bx.rightB = true) (hx : Bx.rightB x = true) : (L ++ [x]).all Bx.rightB = true := by
  rw [List.all_append, h]; simp [hx]
theorem sizes_take (L : List Bx.Box) (k : Nat) : Bx.sizes (L.take k) ≤ Bx.sizes L := by
  have := Bx.sizes_append (L.take k) (L.drop k)
  rw [List.take_append_drop] at this
  omega
theorem sizes_snoc (L : List Bx.Box) (x : Bx.Box) : Bx.sizes (L ++ [x]) = Bx.sizes L + (8 + x.2.length) := by
  rw [Bx.sizes_append]; simp [Bx.sizes]
theorem file_snoc (L : List Bx.Box) (x : Bx.Box) : Bx.file (L ++ [x]) = Bx.file L ++ Bx.enc x := by
  rw [Bx.file_append]; simp [Bx.file]
theorem enc_parts (L : List UInt8) (t : ByteArray) (d : List UInt8) {k : Nat} (h : k = d.length) : ((L ++ Bx.four (8 + k)) ++ t.data.toList) ++ d = L ++ Bx.enc (t, d) := by subst h; simp [Bx.enc]

theorem four_cells (xn : Nat) (h : xn ≤ 1048576) : #[Value.int .u8 ((8 + (xn : Int)) / 16777216), .int .u8 ((8 + (xn : Int)) / 65536), .int .u8 ((8 + (xn : Int)) / 256 % 256), .int .u8 ((8 + (xn : Int)) % 256)].toList = B8 (Bx.four (8 + xn)) := by
  unfold B8 Bx.four
  rw [List.map_cons, List.map_cons, List.map_cons, List.map_cons, List.map_nil, Bx.u8m, Bx.u8m, Bx.u8m, Bx.u8m]
  have c1 : (((8 + xn) / 16777216 % 256 : Nat) : Int) = (8 + (xn : Int)) / 16777216 := by omega
  have c2 : (((8 + xn) / 65536 % 256 : Nat) : Int) = (8 + (xn : Int)) / 65536 := by omega
  have c3 : (((8 + xn) / 256 % 256 : Nat) : Int) = (8 + (xn : Int)) / 256 % 256 := by omega
  have c4 : (((8 + xn) % 256 : Nat) : Int) = (8 + (xn : Int)) % 256 := by omega
  rw [c1, c2, c3, c4]
theorem app_nextS {w W W' : World} {g : Nat} {t : TypeId} {cs : Array Value} {A : Option Addr} {n c : Nat} {l : List UInt8} {e : TypeId} (bk : Blk W g t cs) (own : Own8 W e A n c l) (bel : Below w.heap.size w W) (gA : ∀ k, blkOf A = some k → w.heap.size ≤ k) (grow : W.grownBy W' (blkOf A)) (hne : e ≠ t := by decide) :
    Blk W' g t cs ∧ Below w.heap.size w W' := by
  have h : blkOf A ≠ some g := by have := own_blk_ne own.2 bk hne; rwa [ownBlock_slice] at this
  exact ⟨bk.grown grow (Ne.symm h), bel.grown grow bel.size gA⟩
theorem app_next {w W W' : World} {g : Nat} {t : TypeId} {cs : Array Value} {A A' : Option Addr} {n c : Nat} {l : List UInt8} {e : TypeId} (bk : Blk W g t cs) (own : Own8 W e A n c l) (bel : Below w.heap.size w W) (gA : ∀ k, blkOf A = some k → w.heap.size ≤ k) (grow : W.grownBy W' (blkOf A)) (at1 : blkOf A' = blkOf A ∨ blkOf A' = some W.heap.size) (hne : e ≠ t := by decide) :
    Blk W' g t cs ∧ Below w.heap.size w W' ∧ (∀ k, blkOf A' = some k → w.heap.size ≤ k) := by
  obtain ⟨h1, h2⟩ := app_nextS bk own bel gA grow hne
  refine ⟨h1, h2, fun k hk => ?_⟩
  rcases at1 with e | e
  · exact gA k (by rw [← e]; exact hk)
  · rw [hk] at e; injection e with e; rw [e]; exact bel.size

theorem app_nxt {w W W' : World} {A A' : Option Addr} {n c : Nat} {l : List UInt8} {e : TypeId} (_ : Own8 W e A n c l) (bel : Below w.heap.size w W) (gA : ∀ k, blkOf A = some k → w.heap.size ≤ k) (grow : W.grownBy W' (blkOf A)) (at1 : blkOf A' = blkOf A ∨ blkOf A' = some W.heap.size) :
    Below w.heap.size w W' ∧ (∀ k, blkOf A' = some k → w.heap.size ≤ k) := by
  refine ⟨bel.grown grow bel.size gA, fun k hk => ?_⟩
  rcases at1 with e | e
  · exact gA k (by rw [← e]; exact hk)
  · rw [hk] at e; injection e with e; rw [e]; exact bel.size

set_option maxRecDepth 100000 in
set_option maxHeartbeats 2000000 in
theorem write_calls (A : Option Addr) (n c : Nat) (xs : List Bx.Cel) (w : World) (hn : n = xs.length) (hm : n ≤ 9223372036854775807) (hA : Bx.Boxes w w.heap.size A xs) (hS : Bx.sizes (Bx.boxs xs) ≤ 1099511627776) :
    Calls Try.prog 9 #[.slice A n c] w (RetBE w (wrL (Bx.boxs xs)) (wrE (Bx.boxs xs))) := by
  have HN := hide hn
  have HS := hide hS
  clear hn hS
  go_enter Try.func9, Try.ntmps9
  go_wp2
  go_loopw [4, 13] (fun sv iv wr => ∃ (k s : Nat), k ≤ n ∧ iv = .int .i64 (k : Int) ∧ sv = .int .i64 (s : Int) ∧ Hid (s = Bx.sizes ((Bx.boxs xs).take k)) ∧ s ≤ 1099511627776 ∧ Hid (((Bx.boxs xs).take k).all Bx.rightB = true) ∧ Below w.heap.size w wr) (fun _ iv _ => n - (intOf iv).toNat)
  case atStart => exact ⟨0, 0, by omega, rfl, rfl, rfl, by omega, rfl, Below.refl _ _⟩
  case round =>
    obtain ⟨k, s, hk, rfl, rfl, hs, hs2, hr, bel⟩ := hrel
    by_cases hlt : k < n
    · have hkx : k < xs.length := by rw [← HN.out]; exact hlt
      obtain ⟨b, off, rfl, hb, c0, c1, hok⟩ := (hA.below bel).at_ hkx
      have hlen := hide hok.1
      have hmx := hok.2.1
      unfold maxLen at hmx
      have HT := hide (Bx.take_boxs xs hkx)
      have HG := hide (Bx.boxs_at xs hkx)
      have HZ := hide (sizes_take (Bx.boxs xs) (k + 1))
      rw [HT.out, sizes_snoc] at HZ
      obtain ⟨x, hx⟩ : ∃ x, xs[k] = x := ⟨_, rfl⟩
      rw [hx] at c0 c1 hlen hmx HT HG HZ
      obtain ⟨t, xA, xn, xc, xd⟩ := x
      dsimp only at c0 c1 hlen hmx HT HG HZ
      have hz : s + (8 + xn) ≤ 1099511627776 := by have := HZ.out; have := hs.out; have := hlen.out; have := HS.out; omega
      clear hx hok
      have HA := hide hA
      clear hA
      have i0 : (0 : Int) ≤ (k : Int) := by omega
      have i1 : (k : Int) < (n : Int) := by omega
      go_wp2_with fail
      generalize hW : wr.alloc (.cells #[.string t, .slice xA xn xc] 36) = W at *
      have bW : Below wr.heap.size wr W := by rw [← hW]; exact (Below.refl _ _).alloc (Nat.le_refl _) _
      have bk : Blk W wr.heap.size 36 #[.string t, .slice xA xn xc] := by rw [← hW]; exact Blk.new _ _ _
      clear hW
      refine (right_calls t xA xn xc W hmx).mono ?_
      rintro e w2 ⟨rfl, b2⟩
      have bk2 := bk.below b2 bk.lt
      have c2 : w2.cell? ⟨wr.heap.size, 1, none⟩ = some (.slice xA xn xc) := bk2.cell 1
      have bel2 := (bel.trans (bW.mono bel.size)).trans (b2.mono (Nat.le_trans bel.size bW.size))
      cases hq : Bx.right t xn
      · have HE := hide (wr_no (all_no HG.out (show Bx.rightB (t, xd) = false by unfold Bx.rightB; rw [← hlen.out]; exact hq)))
        clear hq
        go_wp2
        go_ret2
        rw [HE.out.1, HE.out.2]
        exact ⟨_, _, _, rfl, Own8.nil _ _, by simp [blkOf], bel2⟩
      · have HE := hide (all_snoc hr.out (show Bx.rightB (t, xd) = true by unfold Bx.rightB; rw [← hlen.out]; exact hq))
        rw [← HT.out] at HE
        clear hq
        go_wp2
        go_roundw
        case rel => exact ⟨k + 1, s + (8 + xn), by omega, by go_num, by go_num, by rw [HT.out, sizes_snoc, ← hs.out, hlen.out]; exact rfl, by omega, HE, bel2⟩
        case measure => simp [intOf]; omega
    · obtain rfl : n = k := by omega
      have HT := hide (List.take_of_length_le (l := Bx.boxs xs) (i := n) (by rw [Bx.length_boxs, ← HN.out]; omega))
      rw [HT.out] at hr hs
      have HE := hide (wr_yes hr.out)
      clear hlt
      have hmk : ∀ w', Sem.run Try.prog (Instr.makeSlice 23 (.int .i64 0) (.int .i64 (s : Int))) w' = .ok (.slice (some ⟨w'.heap.size, 0, none⟩) 0 s) (w'.alloc (.cells (madeCells #[.int .u8 0] s) 5)) := run_make80 bytesT .i64 .i64 s (by omega)
      go_wp2_with fail
      have own0 := Own8.new0 wr (madeCells #[.int .u8 0] s) 5 s (size_madeCells _ _) (by unfold maxLen; omega)
      have bel0 := bel.alloc bel.size (.cells (madeCells #[.int .u8 0] s) 5)
      have g0 : w.heap.size ≤ wr.heap.size := bel.size
      generalize wr.alloc (.cells (madeCells #[.int .u8 0] s) 5) = W0 at *
      clear hmk bel hs2
      go_loopw [7, 31] (fun sv iv wr' => ∃ (k n1 c1 : Nat) (A1 : Option Addr), k ≤ n ∧ iv = .int .i64 (k : Int) ∧ sv = .slice A1 n1 c1 ∧ Own8 wr' 5 A1 n1 c1 (Bx.file ((Bx.boxs xs).take k)) ∧ (∀ g, blkOf A1 = some g → w.heap.size ≤ g) ∧ Below w.heap.size w wr') (fun _ iv _ => n - (intOf iv).toNat)
      case atStart => exact ⟨0, 0, s, _, by omega, rfl, rfl, own0, by intro g hg; simp [blkOf] at hg; omega, bel0⟩
      case round =>
        obtain ⟨k, n1, c1, A1, hk', rfl, rfl, own, gA, bel⟩ := hrel
        by_cases hlt : k < n
        · have hkx : k < xs.length := by rw [← HN.out]; exact hlt
          obtain ⟨b, off, rfl, hb, c0, c1', hok⟩ := (hA.below bel).at_ hkx
          have hlen := hide hok.1
          have HA2 : Hid (∀ w', Below w.heap.size w w' → Byt w' w.heap.size xs[k].A xs[k].d) := fun w' hb => ((hA.below hb).2 _ (List.getElem_mem hkx)).2.2
          have HT := hide (Bx.take_boxs xs hkx)
          have HG := hide (Bx.boxs_at xs hkx)
          have HR := hide (List.all_eq_true.1 hr.out _ (List.mem_of_getElem? HG.out))
          have HZ := hide (sizes_take (Bx.boxs xs) (k + 1))
          have HL := hide (Bx.length_file ((Bx.boxs xs).take k) (by rw [List.all_eq_true]; intro y hy; exact List.all_eq_true.1 hr.out y (List.mem_of_mem_take hy)))
          rw [HT.out, sizes_snoc, ← HL.out, ← own.1] at HZ
          obtain ⟨x, hx⟩ : ∃ x, xs[k] = x := ⟨_, rfl⟩
          rw [hx] at c0 c1' hlen HT HG HZ HR HA2
          obtain ⟨t, xA, xn, xc, xd⟩ := x
          dsimp only at c0 c1' hlen HT HG HZ HR HA2
          obtain ⟨hr4, hrm⟩ := Bx.right_of HR.out
          dsimp only at hr4 hrm
          rw [← hlen.out] at hrm
          replace hr4 : t.size ≤ 4 := Nat.le_of_eq hr4
          have hz : n1 + (8 + xn) ≤ 1099511627776 := by have := HZ.out; have := hlen.out; have := HS.out; omega
          clear hx hok own0 bel0
          have HA := hide hA
          clear hA
          have i0 : (0 : Int) ≤ (k : Int) := by omega
          have i1 : (k : Int) < (n : Int) := by omega
          have HC : Hid (#[Value.int .u8 ((8 + (xn : Int)) / 16777216), .int .u8 ((8 + (xn : Int)) / 65536), .int .u8 ((8 + (xn : Int)) / 256 % 256), .int .u8 ((8 + (xn : Int)) % 256)].toList = B8 (Bx.four (8 + xn))) := by
            exact four_cells xn hrm
          have bkV := (Blk.new wr 36 #[.string t, .slice xA xn xc]).alloc (.cells #[.int .u8 ((8 + (xn : Int)) / 16777216), .int .u8 ((8 + (xn : Int)) / 65536), .int .u8 ((8 + (xn : Int)) / 256 % 256), .int .u8 ((8 + (xn : Int)) % 256)] 5)
          have ownV := (own.alloc (.cells #[.string t, .slice xA xn xc] 36)).alloc (.cells #[.int .u8 ((8 + (xn : Int)) / 16777216), .int .u8 ((8 + (xn : Int)) / 65536), .int .u8 ((8 + (xn : Int)) / 256 % 256), .int .u8 ((8 + (xn : Int)) % 256)] 5)
          have belV := (bel.alloc bel.size (.cells #[.string t, .slice xA xn xc] 36)).alloc (by have := bel.size; simp; omega) (.cells #[.int .u8 ((8 + (xn : Int)) / 16777216), .int .u8 ((8 + (xn : Int)) / 65536), .int .u8 ((8 + (xn : Int)) / 256 % 256), .int .u8 ((8 + (xn : Int)) % 256)] 5)
          have fourV := Byt.newAt (wr.alloc (.cells #[.string t, .slice xA xn xc] 36)) #[.int .u8 ((8 + (xn : Int)) / 16777216), .int .u8 ((8 + (xn : Int)) / 65536), .int .u8 ((8 + (xn : Int)) / 256 % 256), .int .u8 ((8 + (xn : Int)) % 256)] 5 (0, 0) _ (wr.heap.size + 1) (by simp) HC.out
          go_wp2_with (first
            | (at_builtin; refine wpList_append8 (by rfl) (.tmp 40) (.tmp 52) 23 5 (by rfl) bytesT _ _ _ _ (by rfl) ownV _ _ _ _ (Bx.four (8 + xn)) (by rfl) fourV (by rfl) (by omega) ?_; intro A2 c2 w2 own2 grow2 at2; have F2 := app_next bkV ownV belV gA grow2 at2; have k0 : w2.cell? ⟨wr.heap.size, 0, none⟩ = some (.string t) := F2.1.cell 0; have k1 : w2.cell? ⟨wr.heap.size, 1, none⟩ = some (.slice xA xn xc) := F2.1.cell 1)
            | (at_builtin; refine wpList_append8s (by rfl) (.tmp 54) (.tmp 56) 23 5 9 (by rfl) bytesT Try.underlying9 _ _ _ _ (by rfl) own2 w.heap.size F2.2.2 F2.2.1.size t (by rfl) (by omega) ?_; intro A3 c3 w3 own3 grow3 g3; have F3 := app_nextS F2.1 own2 F2.2.1 F2.2.2 grow3; clear k0 k1; have k1 : w3.cell? ⟨wr.heap.size, 1, none⟩ = some (.slice xA xn xc) := F3.1.cell 1)
            | (at_builtin; refine wpList_append8 (by rfl) (.tmp 58) (.tmp 60) 23 5 (by rfl) bytesT _ _ _ _ (by rfl) own3 _ _ _ _ xd (by rfl) (HA2.out w3 F3.2) hlen.out (by omega) ?_; intro A4 c4 w4 own4 grow4 at4; have F4 := app_next F3.1 own3 F3.2 g3 grow4 at4))
          have own5 := own4
          rw [enc_parts _ _ _ hlen.out, ← file_snoc, ← HT.out] at own5
          go_roundw
          case rel => exact ⟨k + 1, _, c4, A4, by omega, by go_num, rfl, own5, F4.2.2, F4.2.1⟩
          case measure => simp [intOf]; omega
        · obtain rfl : n = k := by omega
          rw [HT.out] at own
          clear hlt
          go_wp2
          go_ret2
          rw [HE.out.1, HE.out.2]
          exact ⟨_, _, _, rfl, own, gA, bel⟩
end Go.Proofs.Ytjofojjinoipaaa
