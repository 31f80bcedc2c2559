/- A segment's small functions, each by its contract: a number of four bytes, numbers behind bytes. Conditions: a slice's length is a Go length. -/
import Derived.Test.YtakglalebjkpeaaHSegPlain
import Derived.Test.YtakglalebjkpeaaHBox
import Derived.Test.YtakglalebjkpeaaHLift
import Derived.Test.YtakglalebjkpeaaHLib
namespace Go.Proofs.Ytakglalebjkpeaa.C17
open Go.RowKit Kin Go.Proofs.Ytakglalebjkpeaa Go.Proofs.Ytakglalebjkpeaa.C16

set_option maxRecDepth 100000 in
set_option maxHeartbeats 1000000 in
theorem four4_calls (k : Nat) (w : World) (hm : k ≤ 4294967295) :
    Calls Try.prog 28 #[.int .i64 (k : Int)] w (RetBytes w (Bx.four k)) := by
  have HC : Hid (#[Value.int .u8 ((k : Int) / 16777216 % 256), Value.int .u8 ((k : Int) / 65536 % 256), Value.int .u8 ((k : Int) / 256 % 256), Value.int .u8 ((k : Int) % 256)].toList = B8 (Bx.four k)) := by
    have u := Bx.u8m
    simp [B8, Bx.four, Hid]
  go_enter Try.func28, Try.ntmps28
  go_wp2
  go_ret
  exact ⟨_, _, _, rfl, Own8.new w _ 5 4 _ rfl HC.out (by decide), by intro g hg; simp [blkOf] at hg; omega, (Below.refl _ _).alloc (Nat.le_refl _) _⟩

set_option maxRecDepth 100000 in
set_option maxHeartbeats 1000000 in
theorem number_calls (A : Option Addr) (n c : Nat) (l : List UInt8) (w : World) (hn : n = l.length) (h4 : 4 ≤ n) (hm : n ≤ 9223372036854775807) {B : Nat} (hA : Byt w B A l) :
    Calls Try.prog 36 #[.slice A n c] w fun e w' => e = .returned (.int .i64 (Bx.of4 l : Int)) ∧ Below w.heap.size w w' := by
  have HN := hide hn
  have hl4 : 4 ≤ l.length := by rw [← hn]; exact h4
  clear hn
  obtain ⟨b, off, rfl, hb, hc⟩ := hA (by omega)
  rcases l with _ | ⟨x0, _ | ⟨x1, _ | ⟨x2, _ | ⟨x3, l⟩⟩⟩⟩ <;> simp at hl4
  have c0 : w.cell? ⟨b, off, none⟩ = some (.int .u8 (x0.toNat : Int)) := hc 0 _ rfl
  have c1 := hc 1 _ rfl
  have c2 := hc 2 _ rfl
  have c3 := hc 3 _ rfl
  have h0 := x0.toNat_lt
  have h1 := x1.toNat_lt
  have h2 := x2.toNat_lt
  have h3 := x3.toNat_lt
  have HO : Hid (Bx.of4 (x0 :: x1 :: x2 :: x3 :: l) = ((x0.toNat * 256 + x1.toNat) * 256 + x2.toNat) * 256 + x3.toNat) := rfl
  have j0 : (0 : Int) < (n : Int) := by omega
  have j1 : (1 : Int) < (n : Int) := by omega
  have j2 : (2 : Int) < (n : Int) := by omega
  have j3 : (3 : Int) < (n : Int) := by omega
  generalize x0.toNat = y0 at *
  generalize x1.toNat = y1 at *
  generalize x2.toNat = y2 at *
  generalize x3.toNat = y3 at *
  have HO4 := hide (or4 y0 y1 y2 y3 h0 h1 h2 h3)
  clear hc hA
  go_enter Try.func36, Try.ntmps36
  go_wp2_with fail
  go_quiet (fail)
  go_wp2
  go_ret
  exact ⟨ret_int (by rw [HO.out, HO4.out]), dN _ nq⟩

/-- the bytes of numbers -/
def fours (ns : List Nat) : List UInt8 := (ns.map Bx.four).flatten
theorem fours_snoc (ns : List Nat) {k v : Nat} (h : ns[k]? = some v) : fours (ns.take (k + 1)) = fours (ns.take k) ++ Bx.four v := by
  unfold fours
  rw [List.take_add_one, h]
  simp
theorem length_fours (ns : List Nat) : (fours ns).length = 4 * ns.length := by
  unfold fours
  induction ns with
  | nil => rfl
  | cons x L ih => simp only [List.map_cons, List.flatten_cons, List.length_append, Bx.length_four, List.length_cons, ih]; omega
def ints (ns : List Nat) : List Value := ns.map fun (k : Nat) => .int .i64 (k : Int)
theorem _root_.Kin.Vals.grown {w w' : World} {B : Nat} {A : Option Addr} {xs : List Value} {row : Option Nat} (h : Vals w B A xs) (hg : w.grownBy w' row) (hne : ∀ b, blkOf A = some b → b < w.heap.size ∧ row ≠ some b) : Vals w' B A xs := fun hl => by
  obtain ⟨b, off, rfl, hb, hc⟩ := h hl
  obtain ⟨h1, h2⟩ := hne b rfl
  exact ⟨b, off, rfl, hb, fun j x hx => (World.cell?_of_block (a := ⟨b, off + j, none⟩) (hg.block b h1 (Ne.symm h2))).trans (hc j x hx)⟩
theorem four_cells4 (k : Nat) (h : k ≤ 4294967295) : #[Value.int .u8 ((k : Int) / 16777216), .int .u8 ((k : Int) / 65536 % 256), .int .u8 ((k : Int) / 256 % 256), .int .u8 ((k : Int) % 256)].toList = B8 (Bx.four k) := by
  unfold B8 Bx.four
  rw [List.map_cons, List.map_cons, List.map_cons, List.map_cons, List.map_nil, Bx.u8m, Bx.u8m, Bx.u8m, Bx.u8m]
  have c1 : ((k / 16777216 % 256 : Nat) : Int) = (k : Int) / 16777216 := by omega
  have c2 : ((k / 65536 % 256 : Nat) : Int) = (k : Int) / 65536 % 256 := by omega
  have c3 : ((k / 256 % 256 : Nat) : Int) = (k : Int) / 256 % 256 := by omega
  have c4 : ((k % 256 : Nat) : Int) = (k : Int) % 256 := by omega
  rw [c1, c2, c3, c4]

/-- bytes of the call's own, none of them below B -/
def RetOwn (w : World) (B : Nat) (l : List UInt8) : Ending → World → Prop := fun e w' => ∃ A n c, e = .returned (.slice A n c) ∧ OwnF w' 5 A n c l ∧ (∀ g, blkOf A = some g → B ≤ g) ∧ Below B w w'
set_option maxRecDepth 100000 in
set_option maxHeartbeats 2000000 in
theorem fields_calls (A A2 : Option Addr) (n c n2 c2 : Nat) (l : List UInt8) (ns : List Nat) (w : World) (B : Nat) (hn2 : n2 = ns.length) (hm2 : n2 ≤ 1099511627776) (hm : n ≤ 1099511627776) (hk : ∀ k ∈ ns, k ≤ 4294967295)
    (own : OwnF w 5 A n c l) (hB : ∀ g, blkOf A = some g → B ≤ g) (hBw : B ≤ w.heap.size) (hV : Vals w w.heap.size A2 (ints ns)) (hne : ∀ b, blkOf A2 = some b → b < w.heap.size ∧ blkOf A ≠ some b) :
    Calls Try.prog 27 #[.slice A n c, .slice A2 n2 c2] w (RetOwn w B (l ++ fours ns)) := by
  have HN := hide hn2
  have HK := hide hk
  have Hne := hide hne
  have HL := hide own.1
  clear hn2 hk hne
  go_enter Try.func27, Try.ntmps27
  go_wp2
  go_loopw [0, 9] (fun sv iv wr => ∃ (k n1 c1 : Nat) (A1 : Option Addr), k ≤ n2 ∧ iv = .int .i64 (k : Int) ∧ sv = .slice A1 n1 c1 ∧ n1 ≤ 1099511627776 + 4 * k ∧ OwnF wr 5 A1 n1 c1 (l ++ fours (ns.take k)) ∧ (∀ g, blkOf A1 = some g → B ≤ g) ∧ Hid (∀ b, blkOf A2 = some b → b < wr.heap.size ∧ blkOf A1 ≠ some b) ∧ Vals wr wr.heap.size A2 (ints ns) ∧ Below B w wr) (fun _ iv _ => n2 - (intOf iv).toNat)
  case atStart => exact ⟨0, n, c, A, by omega, rfl, rfl, by omega, by simpa [fours] using own, hB, Hne, hV, Below.refl _ _⟩
  case round =>
    obtain ⟨k, n1, c1, A1, hk', rfl, rfl, hn1, own1, gA, hne1, hV1, bel⟩ := hrel
    by_cases hlt : k < n2
    · have hkx : k < ns.length := by rw [← HN.out]; exact hlt
      have hkv : k < (ints ns).length := by simpa [ints] using hkx
      obtain ⟨b, off, rfl, hb, c0⟩ := hV1.at_ hkv
      obtain ⟨v, hv⟩ : ∃ v, ns[k]? = some v := ⟨_, List.getElem?_eq_getElem hkx⟩
      have hv4 : v ≤ 4294967295 := HK.out v (List.mem_of_getElem? hv)
      have e0 : (ints ns)[k] = .int .i64 (v : Int) := by
        have : (ints ns)[k]? = some (.int .i64 (v : Int)) := by simp [ints, hv]
        rw [List.getElem?_eq_getElem hkv] at this
        injection this
      rw [e0] at c0
      have HS := hide (fours_snoc ns hv)
      clear e0 hv
      have i0 : (0 : Int) ≤ (k : Int) := by omega
      have i1 : (k : Int) < (n2 : Int) := by omega
      have HC := hide (four_cells4 v hv4)
      have ownV := own1.alloc (.cells #[.int .u8 ((v : Int) / 16777216), .int .u8 ((v : Int) / 65536 % 256), .int .u8 ((v : Int) / 256 % 256), .int .u8 ((v : Int) % 256)] 5)
      have belV := bel.alloc (Nat.le_trans hBw bel.size) (.cells #[.int .u8 ((v : Int) / 16777216), .int .u8 ((v : Int) / 65536 % 256), .int .u8 ((v : Int) / 256 % 256), .int .u8 ((v : Int) % 256)] 5)
      have fourV := Byt.newAt wr #[.int .u8 ((v : Int) / 16777216), .int .u8 ((v : Int) / 65536 % 256), .int .u8 ((v : Int) / 256 % 256), .int .u8 ((v : Int) % 256)] 5 (0, 0) _ wr.heap.size rfl HC.out
      go_wp2_with (at_builtin; refine wpList_append8f (by rfl) (.tmp 13) (.tmp 25) 31 5 (by rfl) bytesT _ _ _ _ (by rfl) ownV _ _ _ _ (Bx.four v) (by rfl) fourV (by rfl) (by decide) (by omega) ?_; intro A3 c3 w3 own3 grow3 at3)
      have F1 : Below B w w3 := belV.grown grow3 (Nat.le_trans hBw belV.size) gA
      have F2 : ∀ g, blkOf A3 = some g → B ≤ g := by
        intro g hg
        rcases at3 with e | e
        · exact gA g (by rw [← e]; exact hg)
        · rw [hg] at e; injection e with e; rw [e]; exact Nat.le_trans hBw belV.size
      have F3 : Hid (∀ b', blkOf (some (⟨b, off, none⟩ : Addr)) = some b' → b' < w3.heap.size ∧ blkOf A3 ≠ some b') := by
        intro b' hb'
        obtain ⟨q1, q2⟩ := hne1.out b' hb'
        refine ⟨Nat.lt_of_lt_of_le q1 (Nat.le_trans (by simp) grow3.size), ?_⟩
        rcases at3 with e | e
        · rw [e]; exact q2
        · rw [e]; intro e2; injection e2 with e2; simp at e2; omega
      have F4 : Vals w3 w3.heap.size (some ⟨b, off, none⟩) (ints ns) := by
        have h1 : Vals (wr.alloc (.cells #[.int .u8 ((v : Int) / 16777216), .int .u8 ((v : Int) / 65536 % 256), .int .u8 ((v : Int) / 256 % 256), .int .u8 ((v : Int) % 256)] 5)) wr.heap.size (some ⟨b, off, none⟩) (ints ns) := hV1.below ((Below.refl _ _).alloc (Nat.le_refl _) _)
        have h2 := h1.grown grow3 (fun b' hb' => by obtain ⟨q1, q2⟩ := hne1.out b' hb'; exact ⟨Nat.lt_of_lt_of_le q1 (by simp), q2⟩)
        intro hl
        obtain ⟨b', off', e1, e2, e3⟩ := h2 hl
        exact ⟨b', off', e1, Nat.lt_of_lt_of_le e2 (Nat.le_trans (by simp) grow3.size), e3⟩
      have own4 := own3
      rw [List.append_assoc, ← HS.out] at own4
      clear c0 own3 grow3 at3 ownV belV fourV
      go_roundw
      case rel => exact ⟨k + 1, n1 + 4, c3, A3, by omega, by go_num, rfl, by omega, own4, F2, F3, F4, F1⟩
      case measure => simp [intOf]; omega
    · obtain rfl : n2 = k := by omega
      have HT := hide (List.take_of_length_le (l := ns) (i := n2) (by rw [← HN.out]; omega))
      rw [HT.out] at own1
      clear hlt
      go_wp2
      go_ret
      exact ⟨_, _, _, rfl, own1, gA, bel⟩
end Go.Proofs.Ytakglalebjkpeaa.C17
