/- What is found of a type, the types, and whether two lists of boxes are one, each by its contract. Conditions: the slices read as boxes. -/
import Derived.Test.YtjofojjinoipaaaBoxFits
import Derived.Test.YtjofojjinoipaaaAppS
namespace Go.Proofs.Ytjofojjinoipaaa
open Go.RowKit Kin

/-- bytes, and whether they were found -/
def RetFind (w : World) (L : List Bx.Box) (k : ByteArray) (e : Ending) (w' : World) : Prop :=
  ∃ A n c, e = .returned (.tuple #[.slice A n c, .bool (Bx.find L k).2]) ∧ n = (Bx.find L k).1.length ∧ Byt w' w'.heap.size A (Bx.find L k).1 ∧ Below w.heap.size w w'
theorem tl_inj {t k : ByteArray} (e : t.toList = k.toList) : t = k := by
  rw [Lib.toList_data, Lib.toList_data] at e
  exact ByteArray.ext (Array.toList_inj.1 e)
theorem tl_ne {t k : ByteArray} (h : ¬ t = k) : (t.toList == k.toList) = false := by
  rw [beq_eq_false_iff_ne]
  exact fun e => h (tl_inj e)
theorem tl_eq {t k : ByteArray} (h : t = k) : (t.toList == k.toList) = true := by rw [h]; simp
theorem find_drop {L : List Bx.Box} {i : Nat} {x : Bx.Box} {k : ByteArray} (h : L[i]? = some x) : Bx.find (L.drop i) k = if x.1 = k then (x.2, true) else Bx.find (L.drop (i + 1)) k := by
  obtain ⟨hi, hx⟩ := List.getElem?_eq_some_iff.1 h
  rw [List.drop_eq_getElem_cons hi, hx]
  rfl

set_option maxRecDepth 100000 in
set_option maxHeartbeats 1000000 in
theorem find_calls (A : Option Addr) (n c : Nat) (xs : List Bx.Cel) (kind : ByteArray) (w : World) (hn : n = xs.length) (hm : n ≤ 9223372036854775807) (hA : Bx.Boxes w w.heap.size A xs) (hs : ∀ x ∈ xs, x.n ≤ 1099511627776) :
    Calls Try.prog 13 #[.slice A n c, .string kind] w (RetFind w (Bx.boxs xs) kind) := by
  have HN := hide hn
  have HS := hide hs
  clear hn hs
  go_enter Try.func13, Try.ntmps13
  go_wp2
  go_loopw [10] (fun iv wr => ∃ (k : Nat), k ≤ n ∧ iv = .int .i64 (k : Int) ∧ Hid (Bx.find (Bx.boxs xs) kind = Bx.find ((Bx.boxs xs).drop k) kind) ∧ Below w.heap.size w wr) (fun iv _ => n - (intOf iv).toNat)
  case atStart => exact ⟨0, by omega, rfl, rfl, Below.refl _ _⟩
  case round =>
    obtain ⟨k, hk, rfl, hf, bel⟩ := hrel
    by_cases hlt : k < n
    · have hkx : k < xs.length := by rw [← HN.out]; exact hlt
      obtain ⟨b, off, rfl, hb, c0, c1, hok⟩ := (hA.below bel).at_ hkx
      have hlen := hide hok.1
      have hby := hide hok.2.2
      have hxs := HS.out _ (List.getElem_mem hkx)
      have HD := hide (find_drop (k := kind) (Bx.boxs_at xs hkx))
      obtain ⟨x, hx⟩ : ∃ x, xs[k] = x := ⟨_, rfl⟩
      rw [hx] at c0 c1 hlen HD hxs hby
      obtain ⟨t, xA, xn, xc, xd⟩ := x
      dsimp only at c0 c1 hlen HD hxs hby
      clear hx hok
      have HA := hide hA
      clear hA
      have i0 : (0 : Int) ≤ (k : Int) := by omega
      have i1 : (k : Int) < (n : Int) := by omega
      have bW : Below wr.heap.size wr (wr.alloc (.cells #[.string t, .slice xA xn xc] 36)) := (Below.refl _ _).alloc (Nat.le_refl _) _
      have bel2 := bnext bel bW
      by_cases ht : t = kind
      · have HE : Hid (Bx.find (Bx.boxs xs) kind = (xd, true)) := by rw [hf.out, HD.out, if_pos ht]; exact rfl
        subst ht
        have hcl := clone_calls xA xn xc xd (wr.alloc (.cells #[.string t, .slice xA xn xc] 36)) hlen.out (by omega) ((hby.out.more bel.size).below bW)
        go_wp2_with (go_at_call 22; refine hcl.mono ?_; rintro e w3 ⟨A3, n3, c3, rfl, o3, g3, b3⟩)
        go_ret2
        refine ⟨A3, n3, c3, ?_, ?_, ?_, bnext bel2 b3⟩
        · rw [HE.out]; rfl
        · rw [HE.out]; exact o3.1
        · rw [HE.out]; exact o3.byt
      · have HE : Hid (Bx.find (Bx.boxs xs) kind = Bx.find ((Bx.boxs xs).drop (k + 1)) kind) := by rw [hf.out, HD.out, if_neg ht]; exact rfl
        have htb := tl_ne ht
        go_wp2
        go_roundw
        case rel => exact ⟨k + 1, by omega, by go_num, HE, bel2⟩
        case measure => simp [intOf]; omega
    · obtain rfl : n = k := by omega
      have HE : Hid (Bx.find (Bx.boxs xs) kind = ([], false)) := by
        rw [hf.out, List.drop_of_length_le (by rw [Bx.length_boxs, ← HN.out]; omega)]; exact rfl
      clear hlt
      go_wp2
      go_ret2
      refine ⟨none, 0, 0, ?_, ?_, ?_, bel⟩
      · rw [HE.out]; rfl
      · rw [HE.out]; rfl
      · rw [HE.out]; exact Byt.nil

set_option maxRecDepth 100000 in
set_option maxHeartbeats 1000000 in
theorem reffind_calls (A : Option Addr) (n c : Nat) (xs : List Bx.Cel) (kind : ByteArray) (w : World) (hn : n = xs.length) (hm : n ≤ 9223372036854775807) (hA : Bx.Boxes w w.heap.size A xs) :
    Calls Try.prog 14 #[.slice A n c, .string kind] w (RetFind w (Bx.boxs xs) kind) := by
  have HN := hide hn
  clear hn
  go_enter Try.func14, Try.ntmps14
  go_wp2
  go_loop [6] (fun iv => ∃ (k : Nat), k ≤ n ∧ iv = .int .i64 (k : Int) ∧ Hid (Bx.find (Bx.boxs xs) kind = Bx.find ((Bx.boxs xs).drop k) kind)) (fun iv => n - (intOf iv).toNat)
  case atStart => exact ⟨0, by omega, rfl, rfl⟩
  case round =>
    obtain ⟨k, hk, rfl, hf⟩ := hrel
    by_cases hlt : k < n
    · have hkx : k < xs.length := by rw [← HN.out]; exact hlt
      obtain ⟨b, off, rfl, hb, c0, c1, hok⟩ := hA.at_ hkx
      have hlen := hide hok.1
      have hby := hide hok.2.2
      have HD := hide (find_drop (k := kind) (Bx.boxs_at xs hkx))
      obtain ⟨x, hx⟩ : ∃ x, xs[k] = x := ⟨_, rfl⟩
      rw [hx] at c0 c1 hlen HD hby
      obtain ⟨t, xA, xn, xc, xd⟩ := x
      dsimp only at c0 c1 hlen HD hby
      clear hx hok
      have HA := hide hA
      clear hA
      have i0 : (0 : Int) ≤ (k : Int) := by omega
      have i1 : (k : Int) < (n : Int) := by omega
      by_cases ht : t = kind
      · have HE : Hid (Bx.find (Bx.boxs xs) kind = (xd, true)) := by rw [hf.out, HD.out, if_pos ht]; exact rfl
        subst ht
        go_wp2
        go_ret2
        refine ⟨xA, xn, xc, ?_, ?_, ?_, Below.refl _ _⟩
        · rw [HE.out]; rfl
        · rw [HE.out]; exact hlen.out
        · rw [HE.out]; exact hby.out
      · have HE : Hid (Bx.find (Bx.boxs xs) kind = Bx.find ((Bx.boxs xs).drop (k + 1)) kind) := by rw [hf.out, HD.out, if_neg ht]; exact rfl
        have htb := tl_ne ht
        go_wp2
        go_round
        case rel => exact ⟨k + 1, by omega, by go_num, HE⟩
        case measure => simp [intOf]; omega
    · obtain rfl : n = k := by omega
      have HE : Hid (Bx.find (Bx.boxs xs) kind = ([], false)) := by
        rw [hf.out, List.drop_of_length_le (by rw [Bx.length_boxs, ← HN.out]; omega)]; exact rfl
      clear hlt
      go_wp2
      go_ret2
      refine ⟨none, 0, 0, ?_, ?_, ?_, Below.refl _ _⟩
      · rw [HE.out]; rfl
      · rw [HE.out]; rfl
      · rw [HE.out]; exact Byt.nil
end Go.Proofs.Ytjofojjinoipaaa
