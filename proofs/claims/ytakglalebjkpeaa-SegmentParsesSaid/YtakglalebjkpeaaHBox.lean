/- Texts of this claim in one: HBox. What each proves, and on what conditions, its own words say. -/
import Derived.Test.YtakglalebjkpeaaHPlain
import Derived.Test.YtakglalebjkpeaaHLib2
import Derived.Test.YtakglalebjkpeaaRows
import Derived.Test.YtakglalebjkpeaaHLib
import Derived.WalkKit
import Derived.WalkSpells
import Derived.WalkLawsBesides
import Derived.Laws.BitsAllLaws
import Derived.Laws.Shifts
import Derived.BigRegion
import Derived.BigQuiet
import Derived.Deep.QuietTactic
import Derived.Deep.WholeRow
import Derived.Outline
import Derived.Deep.RegionLaw
namespace Bx
open Go Go.RowKit Kin

/-- a box's two cells, and the bytes of its data -/
structure Cel where
  t : ByteArray
  A : Option Addr
  n : Nat
  c : Nat
  d : List UInt8
def Cel.row (x : Cel) : List Value := [.string x.t, .slice x.A x.n x.c]
def Cel.box (x : Cel) : Box := (x.t, x.d)
/-- the data reads as d -/
def Cel.ok (w : World) (B : Nat) (x : Cel) : Prop := x.n = x.d.length ∧ x.n ≤ maxLen ∧ Byt w B x.A x.d
/-- the slice at A reads as the boxes xs, all below block B -/
def Boxes (w : World) (B : Nat) (A : Option Addr) (xs : List Cel) : Prop := Recs w B 2 A (xs.map Cel.row) ∧ ∀ x ∈ xs, x.ok w B
def boxs (xs : List Cel) : List Box := xs.map Cel.box

section
variable {w w' : World} {B : Nat} {A : Option Addr} {xs : List Cel} {x : Cel}

theorem Cel.ok.below (h : x.ok w B) (hb : Below B w w') : x.ok w' B := ⟨h.1, h.2.1, h.2.2.below hb⟩
theorem Cel.ok.more {B' : Nat} (h : x.ok w B) (hb : B ≤ B') : x.ok w B' := ⟨h.1, h.2.1, h.2.2.more hb⟩
theorem Boxes.nil : Boxes w B A [] := ⟨Recs.nil, by simp⟩
theorem Boxes.below (h : Boxes w B A xs) (hb : Below B w w') : Boxes w' B A xs := ⟨h.1.below hb, fun x hx => (h.2 x hx).below hb⟩
theorem Boxes.at_ (h : Boxes w B A xs) {i : Nat} (hi : i < xs.length) : ∃ b off, A = some ⟨b, off, none⟩ ∧ b < B ∧ w.cell? ⟨b, off + i * 2, none⟩ = some (.string (xs[i]).t) ∧ w.cell? ⟨b, off + i * 2 + 1, none⟩ = some (.slice (xs[i]).A (xs[i]).n (xs[i]).c) ∧ (xs[i]).ok w B := by
  obtain ⟨b, off, e, hb, _, hc⟩ := h.1.at_ (i := i) (by simpa using hi)
  rw [List.getElem_map] at hc
  exact ⟨b, off, e, hb, hc 0 _ rfl, hc 1 _ rfl, h.2 _ (List.getElem_mem hi)⟩
theorem length_boxs (xs : List Cel) : (boxs xs).length = xs.length := by simp [boxs]
theorem boxs_append (xs ys : List Cel) : boxs (xs ++ ys) = boxs xs ++ boxs ys := by simp [boxs]
theorem boxs_take (xs : List Cel) (k : Nat) : (boxs xs).take k = boxs (xs.take k) := by simp [boxs, List.map_take]
theorem boxs_drop (xs : List Cel) (k : Nat) : (boxs xs).drop k = boxs (xs.drop k) := by simp [boxs, List.map_drop]
theorem boxs_at (xs : List Cel) {i : Nat} (hi : i < xs.length) : (boxs xs)[i]? = some (xs[i].t, xs[i].d) := by
  simp [boxs, Cel.box, hi]
theorem take_boxs (xs : List Cel) {i : Nat} (hi : i < xs.length) : (boxs xs).take (i + 1) = (boxs xs).take i ++ [(xs[i].t, xs[i].d)] := by
  rw [List.take_add_one, boxs_at xs hi]; rfl
end

/-- such boxes as are gone through -/
def small (x : Cel) : Bool := decide (x.n ≤ 1000) && decide (x.t.size ≤ 1000)
def fits (xs : List Cel) : Bool := decide (xs.length ≤ 20) && xs.all small
theorem fits_of {xs : List Cel} (h : fits xs = true) : xs.length ≤ 20 ∧ ∀ x ∈ xs, x.n ≤ 1000 ∧ x.t.size ≤ 1000 := by
  unfold fits at h
  rw [Bool.and_eq_true, decide_eq_true_iff, List.all_eq_true] at h
  refine ⟨h.1, fun x hx => ?_⟩
  have := h.2 x hx
  unfold small at this
  rw [Bool.and_eq_true, decide_eq_true_iff, decide_eq_true_iff] at this
  exact this
theorem fits_long {xs : List Cel} (h : 20 < xs.length) : fits xs = false := by
  unfold fits
  rw [decide_eq_false (by omega), Bool.false_and]
theorem fits_big {xs : List Cel} {i : Nat} (hi : i < xs.length) (h : small xs[i] = false) : fits xs = false := by
  unfold fits
  have : xs.all small = false := by
    cases e : xs.all small
    · rfl
    · rw [List.all_eq_true] at e
      rw [e _ (List.getElem_mem hi)] at h; cases h
  rw [this, Bool.and_false]
theorem small_of {x : Cel} (h1 : x.n ≤ 1000) (h2 : x.t.size ≤ 1000) : small x = true := by simp [small, h1, h2]
theorem small_no {x : Cel} (h : 1000 < x.n ∨ 1000 < x.t.size) : small x = false := by
  unfold small
  rcases h with h | h
  · rw [decide_eq_false (by omega), Bool.false_and]
  · rw [decide_eq_false (p := x.t.size ≤ 1000) (by omega), Bool.and_false]
theorem all_take {xs : List Cel} {k : Nat} (hk : k < xs.length) (h : (xs.take k).all small = true) (h2 : small xs[k] = true) : (xs.take (k + 1)).all small = true := by
  rw [List.take_add_one, List.getElem?_eq_getElem hk, List.all_append, h]
  simp [h2]

/-- the boxes are of the call's own (or nil), and their data too -/
def Cel.own (w : World) (e8 : TypeId) (x : Cel) : Prop := Own8 w e8 x.A x.n x.c x.d
def OwnB (w : World) (e e8 : TypeId) (A : Option Addr) (n c : Nat) (xs : List Cel) : Prop := OwnR w e 2 A n c (xs.map Cel.row) ∧ ∀ x ∈ xs, x.own w e8
section
variable {w w' : World} {e e8 : TypeId} {A : Option Addr} {n c : Nat} {xs : List Cel} {x : Cel}

theorem own8_max {l : List UInt8} (h : Own8 w e A n c l) : n ≤ maxLen := by
  rcases h.2.2 with ⟨hv, _⟩ | ⟨g, cap, cur, hv, _, _, h1, h2, _⟩
  · injection hv with _ h2 _; rw [h2]; exact Nat.zero_le _
  · exact Nat.le_trans h1 h2
theorem Cel.own.ok (h : x.own w e8) : x.ok w w.heap.size := ⟨h.1, own8_max h, h.byt⟩
theorem OwnB.nil (w : World) (e e8 : TypeId) : OwnB w e e8 none 0 0 [] := ⟨OwnR.nil w e 2, by simp⟩
theorem OwnB.len (h : OwnB w e e8 A n c xs) : n = xs.length := by have := h.1.1; simpa using this
theorem OwnB.boxes (h : OwnB w e e8 A n c xs) : Boxes w w.heap.size A xs := ⟨h.1.recs, fun x hx => (h.2 x hx).ok⟩
theorem OwnB.next (h : OwnB w e e8 A n c xs) (hb : Below w.heap.size w w') : OwnB w' e e8 A n c xs := ⟨h.1.next hb, fun x hx => Own8.below (h.2 x hx) hb (Own8.lt (h.2 x hx))⟩
end

theorem Boxes.more {w : World} {B B' : Nat} {A : Option Addr} {xs : List Cel} (h : Boxes w B A xs) (hb : B ≤ B') : Boxes w B' A xs :=
  ⟨fun hl => by obtain ⟨b, off, e, h1, h2⟩ := h.1 hl; exact ⟨b, off, e, by omega, h2⟩, fun x hx => (h.2 x hx).more hb⟩
theorem Boxes.of_below {w w' : World} {A : Option Addr} {xs : List Cel} (h : Boxes w w.heap.size A xs) (hb : Below w.heap.size w w') : Boxes w' w'.heap.size A xs := (h.below hb).more hb.size
end Bx
namespace Go.Proofs.Ytakglalebjkpeaa.C16
open Go.RowKit Kin

theorem bytesT : IsBytes Try.prog 31 5 := isBytes_of Try.underlying31 Try.underlying5 (by kernel_rfl)
theorem boxesT : IsRows Try.prog 54 53 2 40 := isRows_of (z := .agg #[.string ⟨#[]⟩, .slice none 0 0]) Try.underlying54 (by decide) (by kernel_rfl) rfl

/-- a box as a value -/
abbrev boxV (t : ByteArray) (A : Option Addr) (n c : Nat) : Value := .agg #[.string t, .slice A n c]
/-- a test's answer -/
def RetBool (w : World) (b : Bool) : Ending → World → Prop := fun e w' => e = .returned (.bool b) ∧ Below w.heap.size w w'
/-- bytes of the call's own -/
def RetBytes (w : World) (l : List UInt8) : Ending → World → Prop := fun e w' => ∃ A n c, e = .returned (.slice A n c) ∧ Own8 w' 5 A n c l ∧ (∀ g, blkOf A = some g → w.heap.size ≤ g) ∧ Below w.heap.size w w'
def upto (t : ByteArray) (k : Nat) : Bool := (t.data.toList.take k).all Bx.okc
theorem upto_succ (t : ByteArray) (k : Nat) (h : k < t.size) : upto t (k + 1) = (upto t k && Bx.okc t[k]) := by
  unfold upto
  rw [List.take_add_one, List.all_append]
  have : t.data.toList[k]? = some t[k] := by
    rw [List.getElem?_eq_getElem (by simpa using h)]
    rfl
  rw [this]
  simp
theorem upto_all (t : ByteArray) (k : Nat) (h : t.size ≤ k) : upto t k = t.data.toList.all Bx.okc := by
  unfold upto
  rw [List.take_of_length_le (by simpa using h)]
theorem upto_more {t : ByteArray} {k : Nat} (h : upto t k = false) : t.data.toList.all Bx.okc = false := by
  unfold upto at h
  cases e : t.data.toList.all Bx.okc
  · rfl
  · rw [List.all_eq_true] at e
    have : (t.data.toList.take k).all Bx.okc = true := by
      rw [List.all_eq_true]; intro x hx; exact e x (List.mem_of_mem_take hx)
    rw [this] at h; cases h
theorem okc_yes {c : UInt8} {v : Nat} (h : c.toNat = v) (k : (97 ≤ v ∧ v ≤ 122) ∨ (48 ≤ v ∧ v ≤ 57)) : Bx.okc c = true := by
  unfold Bx.okc
  rw [h]
  simp
  omega
theorem okc_no {c : UInt8} {v : Nat} (h : c.toNat = v) (k : ¬ ((97 ≤ v ∧ v ≤ 122) ∨ (48 ≤ v ∧ v ≤ 57))) : Bx.okc c = false := by
  unfold Bx.okc
  rw [h]
  simp
  omega

set_option maxRecDepth 100000 in
set_option maxHeartbeats 1000000 in
theorem right_calls (t : ByteArray) (A : Option Addr) (n c : Nat) (w : World) (hm : n ≤ 9223372036854775807) :
    Calls Try.prog 76 #[boxV t A n c] w (RetBool w (Bx.right t n)) := by
  have b0 : Below w.heap.size w (w.alloc (.cells #[.string t, .slice A n c] 53)) := (Below.refl _ _).alloc (Nat.le_refl _) _
  have bk := Blk.new w 53 #[.string t, .slice A n c]
  by_cases h4 : t.size = 4 ∧ n ≤ 1048576
  · obtain ⟨h4, hn⟩ := h4
    have hR : Bx.right t n = t.data.toList.all Bx.okc := by simp [Bx.right, h4, hn]
    have HR := hide hR
    have HU := hide (upto_all t 4 (by omega))
    have hs4 : (t.size : Int) = 4 := by omega
    clear hR
    have HRN : Hid (∀ k, upto t (k + 1) = false → Bx.right t n = false) := by
      intro k hk
      rw [HR.out, upto_more hk]
    have c0 : (w.alloc (.cells #[.string t, .slice A n c] 53)).cell? ⟨w.heap.size, 0, none⟩ = some (.string t) := bk.cell 0
    go_enter Try.func76, Try.ntmps76
    go_wp2
    go_loopw [18] (fun iv wr => ∃ k : Nat, k ≤ 4 ∧ iv = .int .i64 (k : Int) ∧ upto t k = true ∧ wr = w.alloc (.cells #[.string t, .slice A n c] 53)) (fun iv _ => 4 - (intOf iv).toNat)
    case atStart => exact ⟨0, by omega, rfl, rfl, rfl⟩
    case round =>
      obtain ⟨k, hk, rfl, hu, rfl⟩ := hrel
      by_cases hlt : k < 4
      · have hkt : k < t.size := by omega
        have HS := hide (upto_succ t k hkt)
        rw [hu, Bool.true_and] at HS
        have HUk := hide hu
        clear hu
        have hi : (0 : Int) ≤ (k : Int) ∧ (k : Int) < (t.size : Int) := by omega
        have hx := (t[k]).toNat_lt
        obtain ⟨v, hv⟩ : ∃ v, (t[k]).toNat = v := ⟨_, rfl⟩
        have HV := hide hv
        rw [hv] at hx
        go_wp2
        all_goals (try clear hv)
        all_goals first
          | (go_ret; refine ⟨?_, b0⟩; rw [HRN.out k (by rw [HS.out]; exact okc_no HV.out (by omega))]; rfl)
          | (go_roundw; (case rel => exact ⟨k + 1, by omega, by go_num, by rw [HS.out]; exact okc_yes HV.out (by omega), trivial⟩); (case measure => simp [intOf]; omega))
      · obtain rfl : k = 4 := by omega
        have HT := hide (HR.out.trans (HU.out.symm.trans hu))
        clear hu hlt
        go_wp2
        go_ret
        exact ⟨by rw [HT.out]; rfl, b0⟩
  · have HR : Hid (Bx.right t n = false) := by
      unfold Bx.right
      by_cases h : t.size = 4
      · have : ¬ n ≤ 1048576 := fun k => h4 ⟨h, k⟩
        simp [this, Hid]
      · simp [h, Hid]
    have c0 : (w.alloc (.cells #[.string t, .slice A n c] 53)).cell? ⟨w.heap.size, 0, none⟩ = some (.string t) := bk.cell 0
    by_cases h : t.size = 4
    · have hn : ¬ n ≤ 1048576 := fun k => h4 ⟨h, k⟩
      have hs4 : (t.size : Int) = 4 := by omega
      have hn' : (1048576 : Int) < (n : Int) := by omega
      go_enter Try.func76, Try.ntmps76
      go_wp2
      go_ret
      exact ⟨by rw [HR.out]; rfl, b0⟩
    · have hs4 : ¬ (t.size : Int) = 4 := by omega
      go_enter Try.func76, Try.ntmps76
      go_wp2
      go_ret
      exact ⟨by rw [HR.out]; rfl, b0⟩

set_option maxRecDepth 100000 in
set_option maxHeartbeats 1000000 in
theorem refright_calls (t : ByteArray) (A : Option Addr) (n c : Nat) (w : World) (hm : n ≤ 9223372036854775807) (ht : t.size ≤ 9223372036854775807) :
    Calls Try.prog 72 #[boxV t A n c] w (RetBool w (Bx.right t n)) := by
  have b0 : Below w.heap.size w (w.alloc (.cells #[.string t, .slice A n c] 53)) := (Below.refl _ _).alloc (Nat.le_refl _) _
  have bk := Blk.new w 53 #[.string t, .slice A n c]
  have HU := hide (upto_all t t.size (Nat.le_refl _))
  have HRN : Hid (∀ k, upto t (k + 1) = false → Bx.right t n = false) := by
    intro k hk
    unfold Bx.right
    rw [upto_more hk, Bool.and_false]
  have c0 : (w.alloc (.cells #[.string t, .slice A n c] 53)).cell? ⟨w.heap.size, 0, none⟩ = some (.string t) := bk.cell 0
  go_enter Try.func72, Try.ntmps72
  go_wp2
  go_loopw [3] (fun iv wr => ∃ k : Nat, k ≤ t.size ∧ iv = .int .i64 (k : Int) ∧ upto t k = true ∧ wr = w.alloc (.cells #[.string t, .slice A n c] 53)) (fun iv _ => t.size - (intOf iv).toNat)
  case atStart => exact ⟨0, by omega, rfl, rfl, rfl⟩
  case round =>
      obtain ⟨k, hk, rfl, hu, rfl⟩ := hrel
      by_cases hlt : k < t.size
      · have hkt : k < t.size := by omega
        have HS := hide (upto_succ t k hkt)
        rw [hu, Bool.true_and] at HS
        have HUk := hide hu
        clear hu
        have hi : (0 : Int) ≤ (k : Int) ∧ (k : Int) < (t.size : Int) := by omega
        have hx := (t[k]).toNat_lt
        obtain ⟨v, hv⟩ : ∃ v, (t[k]).toNat = v := ⟨_, rfl⟩
        have HV := hide hv
        rw [hv] at hx
        go_wp2
        all_goals (try clear hv)
        all_goals first
          | (go_ret; refine ⟨?_, b0⟩; rw [HRN.out k (by rw [HS.out]; exact okc_no HV.out (by omega))]; rfl)
          | (go_roundw; (case rel => exact ⟨k + 1, by omega, by go_num, by rw [HS.out]; exact okc_yes HV.out (by omega), trivial⟩); (case measure => simp [intOf]; omega))
      · obtain rfl : k = t.size := by omega
        have HT : Hid (Bx.right t n = (decide (t.size = 4) && decide (n ≤ 1048576))) := by
          unfold Bx.right
          rw [← HU.out, hu, Bool.and_true]
          exact rfl
        clear hu hlt
        by_cases h4 : t.size = 4
        · have h4' : decide ((t.size : Int) = 4) = true := by simp; omega
          have hs : (t.size : Int) = 4 := by omega
          have hd : decide ((n : Int) ≤ 1048576) = decide (n ≤ 1048576) := by
            apply Bool.eq_iff_iff.2
            rw [decide_eq_true_iff, decide_eq_true_iff]
            omega
          have HD := hide hd
          rw [h4] at HT
          clear hd
          go_wp2
          go_ret
          refine ⟨?_, b0⟩
          rw [HT.out, ← HD.out]
          rfl
        · have h4' : decide ((t.size : Int) = 4) = false := by simp; omega
          have HT2 : Hid (Bx.right t n = false) := by rw [HT.out]; simp [h4, Hid]
          go_wp2
          go_ret
          exact ⟨by rw [HT2.out]; rfl, b0⟩
end Go.Proofs.Ytakglalebjkpeaa.C16
namespace Go.Proofs.Ytakglalebjkpeaa.C16
open Go.RowKit Kin

set_option maxRecDepth 100000 in
set_option maxHeartbeats 1000000 in
theorem four_calls (k : Nat) (w : World) (hm : k ≤ 2000000) :
    Calls Try.prog 28 #[.int .i64 (k : Int)] w (RetBytes w (Bx.four k)) := by
  have HC : Hid (#[Value.int .u8 ((k : Int) / 16777216 % 256), Value.int .u8 ((k : Int) / 65536 % 256), Value.int .u8 ((k : Int) / 256 % 256), Value.int .u8 ((k : Int) % 256)].toList = B8 (Bx.four k)) := by
    have u := Bx.u8m
    simp [B8, Bx.four, Hid]
  go_enter Try.func28, Try.ntmps28
  go_wp2
  go_ret
  exact ⟨_, _, _, rfl, Own8.new w _ 5 4 _ rfl HC.out (by decide), by intro g hg; simp [blkOf] at hg; omega, (Below.refl _ _).alloc (Nat.le_refl _) _⟩

set_option maxRecDepth 100000 in
set_option maxHeartbeats 1000000 in
theorem clone_calls (A : Option Addr) (n c : Nat) (l : List UInt8) (w : World) (hn : n = l.length) (hm : n ≤ 140737488355328) {B : Nat} (hA0 : Byt w B A l) :
    Calls Try.prog 37 #[.slice A n c] w (RetBytes w l) := by
  have HN := hide hn
  have hA := hA0.here
  clear hn hA0
  have heq : ∀ w', Sem.run Try.prog (binOp .eql 31 (.slice A n c) (.slice none 0 0)) w' = .ok (.bool A.isNone) w' := fun w' => by
    have := run_equal_slice_nil (P := Try.prog) w' 31 5 A n c Try.underlying31
    simp [binOp, this]
  rcases A with _ | ad
  · have hl : l = [] := by
      rcases l with _ | ⟨b, l⟩
      · rfl
      · obtain ⟨_, _, h, _⟩ := hA (by simp)
        cases h
    subst hl
    go_enter Try.func37, Try.ntmps37
    go_wp2
    go_ret
    exact ⟨_, _, _, rfl, Own8.nil _ _, by simp [blkOf], Below.refl _ _⟩
  · go_enter Try.func37, Try.ntmps37
    go_wp2_with (at_builtin; refine wpList_append8 (by rfl) (.tmp 5) (.tmp 6) 31 5 (by rfl) bytesT _ _ _ [] (by rfl) (Own8.new w #[] 5 0 [] rfl rfl (by decide)) _ _ _ _ l (by rfl) (hA.below ((Below.refl _ _).alloc (Nat.le_refl _) _)) HN.out (by omega) ?_; intro A1 c1 w1 own1 grow1 at1; simp only [Nat.zero_add, List.nil_append] at own1)
    have b1 : Below w.heap.size w w1 := ((Below.refl w.heap.size w).alloc (Nat.le_refl _) _).grown grow1 (by simp) (by intro g hg; simp [blkOf] at hg; omega)
    go_wp2
    go_ret
    refine ⟨_, _, _, rfl, own1, ?_, b1⟩
    intro g hg
    rcases at1 with e | e
    · rw [hg] at e; simp [blkOf] at e; omega
    · rw [hg] at e; simp at e; omega
end Go.Proofs.Ytakglalebjkpeaa.C16
namespace Go.Proofs.Ytakglalebjkpeaa.C16
open Go.RowKit Kin

theorem dN (w : World) (n : Nat) : Below w.heap.size w (w.drewN n) := ⟨rfl, rfl, rfl, Nat.le_refl _, fun _ _ => rfl⟩
theorem of4_take (l : List UInt8) (h : 4 ≤ l.length) : Bx.of4 (l.take 4) = Bx.of4 l := by
  rcases l with _ | ⟨a, _ | ⟨b, _ | ⟨c, _ | ⟨d, l⟩⟩⟩⟩ <;> simp at h
  rfl
set_option maxRecDepth 100000 in
set_option maxHeartbeats 1000000 in
theorem of_calls (A : Option Addr) (c : Nat) (l : List UInt8) (w : World) (hn : 4 ≤ l.length) {B : Nat} (hA : Byt w B A l) :
    Calls Try.prog 43 #[.slice A 4 c] w fun e w' => e = .returned (.int .i64 (Bx.of4 l : Int)) ∧ Below w.heap.size w w' := by
  obtain ⟨b, off, rfl, hb, hc⟩ := hA (by omega)
  rcases l with _ | ⟨x0, _ | ⟨x1, _ | ⟨x2, _ | ⟨x3, l⟩⟩⟩⟩ <;> simp at hn
  have c0 : w.cell? ⟨b, off, none⟩ = some (.int .u8 (x0.toNat : Int)) := hc 0 _ rfl
  have c1 := hc 1 _ rfl
  have c2 := hc 2 _ rfl
  have c3 := hc 3 _ rfl
  have h0 := x0.toNat_lt
  have h1 := x1.toNat_lt
  have h2 := x2.toNat_lt
  have h3 := x3.toNat_lt
  have HO : Hid (Bx.of4 (x0 :: x1 :: x2 :: x3 :: l) = ((x0.toNat * 256 + x1.toNat) * 256 + x2.toNat) * 256 + x3.toNat) := rfl
  generalize x0.toNat = y0 at *
  generalize x1.toNat = y1 at *
  generalize x2.toNat = y2 at *
  generalize x3.toNat = y3 at *
  clear hc hA
  go_enter Try.func43, Try.ntmps43
  go_wp2_with fail
  go_quiet (fail)
  go_wp2
  go_ret
  exact ⟨ret_int (by rw [HO.out]; go_num), dN _ nq⟩
end Go.Proofs.Ytakglalebjkpeaa.C16
namespace Go.Proofs.Ytakglalebjkpeaa.C16
open Go.RowKit Kin

abbrev zbox : Value := boxV ⟨#[]⟩ none 0 0
/-- the first box, or none -/
def RetNone (w : World) (e : Ending) (w' : World) : Prop := e = .returned (.tuple #[zbox, .int .i64 0]) ∧ Below w.heap.size w w'
def RetSome (w : World) (t : ByteArray) (d : List UInt8) (k : Nat) (e : Ending) (w' : World) : Prop :=
  ∃ A n c, e = .returned (.tuple #[boxV t A n c, .int .i64 (k : Int)]) ∧ Own8 w' 5 A n c d ∧ (∀ g, blkOf A = some g → w.heap.size ≤ g) ∧ Below w.heap.size w w'
/-- what may come of the first box -/
def RetFirst (w : World) (l : List UInt8) (e : Ending) (w' : World) : Prop := (Bx.firstN l = 0 ∧ RetNone w e w') ∨ (Bx.firstN l ≠ 0 ∧ RetSome w (Bx.firstT l) (Bx.firstD l) (Bx.firstN l) e w')

theorem i64_or_nat (a b : Nat) (ha : a < 9223372036854775808) (hb : b < 9223372036854775808) : bits .or .i64 (a : Int) (b : Int) = ((a ||| b : Nat) : Int) := by
  have hx : a ||| b < 2 ^ 63 := Nat.or_lt_two_pow (by omega) (by omega)
  show IntKind.i64.wrap ((BitVec.ofInt 64 (a : Int) ||| BitVec.ofInt 64 (b : Int)).toNat : Int) = _
  rw [BitVec.toNat_or, ofInt_u64 a (by omega), ofInt_u64 b (by omega), IntKind.wrap_i64]
  omega
theorem far8 {w : World} {A : Option Addr} {n c g : Nat} {l : List UInt8} {e t : TypeId} {cs : Array Value} (o : Own8 w e A n c l) (b : Blk w g t cs) (hne : e ≠ t := by decide) : blkOf A ≠ some g := by
  have := own_blk_ne o.2 b hne
  rwa [ownBlock_slice] at this
theorem or_add (a k b : Nat) (hb : b < 2 ^ k) : (a * 2 ^ k) ||| b = a * 2 ^ k + b := by
  rw [Nat.mul_comm, Nat.two_pow_add_eq_or_of_lt hb]
theorem or4 (a b c d : Nat) (ha : a < 2 ^ 8) (hb : b < 2 ^ 8) (hc : c < 2 ^ 8) (hd : d < 2 ^ 8) :
    bits .or .i64 (bits .or .i64 (bits .or .i64 ((a : Int) * 16777216) ((b : Int) * 65536)) ((c : Int) * 256)) (d : Int) = ((((a * 256 + b) * 256 + c) * 256 + d : Nat) : Int) := by
  have e1 : (a : Int) * 16777216 = ((a * 16777216 : Nat) : Int) := by omega
  have e2 : (b : Int) * 65536 = ((b * 65536 : Nat) : Int) := by omega
  have e3 : (c : Int) * 256 = ((c * 256 : Nat) : Int) := by omega
  have o1 := or_add a 24 (b * 65536) (by omega)
  have o2 := or_add (a * 256 + b) 16 (c * 256) (by omega)
  have o3 := or_add ((a * 256 + b) * 256 + c) 8 d (by omega)
  simp only [Nat.reducePow] at o1 o2 o3
  rw [e1, e2, e3, i64_or_nat _ _ (by omega) (by omega), o1, show a * 16777216 + b * 65536 = (a * 256 + b) * 65536 by omega, i64_or_nat _ _ (by omega) (by omega), o2, show (a * 256 + b) * 65536 + c * 256 = ((a * 256 + b) * 256 + c) * 256 by omega, i64_or_nat _ _ (by omega) (by omega), o3]

set_option maxRecDepth 100000 in
set_option maxHeartbeats 2000000 in
theorem first_calls (A : Option Addr) (n c : Nat) (l : List UInt8) (w : World) (hn : n = l.length) (hc : n ≤ c) (hm : n ≤ 1099511627776) (hA : Byt w w.heap.size A l) :
    Calls Try.prog 82 #[.slice A n c] w (RetFirst w l) := by
  have HN := hide hn
  clear hn
  have b0 : Below w.heap.size w (w.alloc (.cells #[.string ⟨#[]⟩, .slice none 0 0] 53)) := (Below.refl _ _).alloc (Nat.le_refl _) _
  have bk := Blk.new w 53 #[.string ⟨#[]⟩, .slice none 0 0]
  have k0 : (w.alloc (.cells #[.string ⟨#[]⟩, .slice none 0 0] 53)).cell? ⟨w.heap.size, 0, none⟩ = some (.string ⟨#[]⟩) := bk.cell 0
  have k1 : (w.alloc (.cells #[.string ⟨#[]⟩, .slice none 0 0] 53)).cell? ⟨w.heap.size, 1, none⟩ = some (.slice none 0 0) := bk.cell 1
  by_cases h8 : n < 8
  · have HF := hide (Bx.firstN_small (l := l) (by rw [← HN.out]; exact h8))
    go_enter Try.func82, Try.ntmps82
    go_wp2
    refine bodyPost_ret (v := .tuple #[zbox, .int .i64 0]) (by simp [results, Try.results82, go_sem, k0, k1]) rfl ?_
    exact .inl ⟨HF.out, rfl, b0⟩
  · obtain ⟨b, off, rfl, hb, hcell⟩ := hA (by rw [← HN.out]; omega)
    have hl8 : 8 ≤ l.length := by rw [← HN.out]; omega
    obtain ⟨x0, x1, x2, x3, l', rfl⟩ : ∃ x0 x1 x2 x3 l', l = x0 :: x1 :: x2 :: x3 :: l' := by
      rcases l with _ | ⟨x0, _ | ⟨x1, _ | ⟨x2, _ | ⟨x3, l'⟩⟩⟩⟩ <;> simp at hl8
      exact ⟨x0, x1, x2, x3, l', rfl⟩
    have hb0 := b0
    have c0 : (w.alloc (.cells #[.string ⟨#[]⟩, .slice none 0 0] 53)).cell? ⟨b, off, none⟩ = some (.int .u8 (x0.toNat : Int)) := (b0.cell (p := ⟨b, off, none⟩) hb).trans (hcell 0 _ rfl)
    have c1 : (w.alloc (.cells #[.string ⟨#[]⟩, .slice none 0 0] 53)).cell? ⟨b, off + 1, none⟩ = some (.int .u8 (x1.toNat : Int)) := (b0.cell (p := ⟨b, off + 1, none⟩) hb).trans (hcell 1 _ rfl)
    have c2 : (w.alloc (.cells #[.string ⟨#[]⟩, .slice none 0 0] 53)).cell? ⟨b, off + 2, none⟩ = some (.int .u8 (x2.toNat : Int)) := (b0.cell (p := ⟨b, off + 2, none⟩) hb).trans (hcell 2 _ rfl)
    have c3 : (w.alloc (.cells #[.string ⟨#[]⟩, .slice none 0 0] 53)).cell? ⟨b, off + 3, none⟩ = some (.int .u8 (x3.toNat : Int)) := (b0.cell (p := ⟨b, off + 3, none⟩) hb).trans (hcell 3 _ rfl)
    have h0 := x0.toNat_lt
    have h1 := x1.toNat_lt
    have h2 := x2.toNat_lt
    have h3 := x3.toNat_lt
    have j0 : (0 : Int) < (n : Int) := by omega
    have j1 : (1 : Int) < (n : Int) := by omega
    have j2 : (2 : Int) < (n : Int) := by omega
    have j3 : (3 : Int) < (n : Int) := by omega
    generalize hxs : x0 :: x1 :: x2 :: x3 :: l' = l at *
    have HO : Hid (Bx.of4 l = ((x0.toNat * 256 + x1.toNat) * 256 + x2.toNat) * 256 + x3.toNat) := by rw [← hxs]; exact rfl
    clear hxs
    generalize x0.toNat = y0 at *
    generalize x1.toNat = y1 at *
    generalize x2.toNat = y2 at *
    generalize x3.toNat = y3 at *
    clear hcell
    have HO4 := hide (or4 y0 y1 y2 y3 h0 h1 h2 h3)
    go_enter Try.func82, Try.ntmps82
    go_wp2_with fail
    go_quiet (fail)
    rw [HO4.out]
    have HA : Hid (Byt w w.heap.size (some ⟨b, off, none⟩) l) := hA
    have b1 := (dN _ nq).mono (show w.heap.size ≤ (w.alloc (.cells #[.string ⟨#[]⟩, .slice none 0 0] 53)).heap.size by simp)
    have bel := b0.trans b1
    have bk1 := bk.below (dN _ nq) bk.lt
    clear c0 c1 c2 c3 k0 k1 b0 b1 bk hA hb0 h0 h1 h2 h3
    generalize (w.alloc (.cells #[.string ⟨#[]⟩, .slice none 0 0] 53)).drewN nq = W at *
    generalize hv : ((y0 * 256 + y1) * 256 + y2) * 256 + y3 = v at *
    clear hv
    have k0 : W.cell? ⟨w.heap.size, 0, none⟩ = some (.string ⟨#[]⟩) := bk1.cell 0
    have k1 : W.cell? ⟨w.heap.size, 1, none⟩ = some (.slice none 0 0) := bk1.cell 1
    have f0 := bk1.frozen 0
    have f1 := bk1.frozen 1
    by_cases hv : v < 8 ∨ n < v
    · have HF : Hid (Bx.firstN l = 0) := by
        unfold Bx.firstN
        rw [if_neg (by omega), HO.out, if_pos (by rw [← HN.out]; exact hv)]
        exact rfl
      have hvd : ((v : Int) < 8) ∨ (n : Int) < (v : Int) := by omega
      have bkz := ((bk1.set_ 0 (.string ⟨#[]⟩)).set_ 1 (.slice none 0 0))
      have belz := (bel.setCell (p := ⟨w.heap.size, 0, none⟩) (Nat.le_refl _) (.string ⟨#[]⟩)).setCell (p := ⟨w.heap.size, 1, none⟩) (Nat.le_refl _) (.slice none 0 0)
      have z0 : ((W.setCell ⟨w.heap.size, 0, none⟩ (.string ⟨#[]⟩)).setCell ⟨w.heap.size, 1, none⟩ (.slice none 0 0)).cell? ⟨w.heap.size, 0, none⟩ = some (.string ⟨#[]⟩) := bkz.cell 0
      have z1 : ((W.setCell ⟨w.heap.size, 0, none⟩ (.string ⟨#[]⟩)).setCell ⟨w.heap.size, 1, none⟩ (.slice none 0 0)).cell? ⟨w.heap.size, 1, none⟩ = some (.slice none 0 0) := bkz.cell 1
      clear HO4
      go_wp2
      all_goals
        refine bodyPost_ret (v := .tuple #[zbox, .int .i64 0]) (by simp [results, Try.results82, go_sem, z0, z1]) rfl ?_
        exact .inl ⟨HF.out, rfl, belz⟩
    · have hv1 : (8 : Int) ≤ (v : Int) := by omega
      have hv2 : (v : Int) ≤ (n : Int) := by omega
      have hv3 : 8 ≤ v := by omega
      have hv4 : v ≤ n := by omega
      have HL := hide hl8
      clear hl8 h8
      have hs1 : ∀ w', Sem.run Try.prog (Instr.sliceAt 31 (.slice (some ⟨b, off, none⟩) n c) (some (.int .i64 4)) (some (.int .i64 8)) none) w' = .ok (.slice (cutA (some ⟨b, off, none⟩) c 4) 4 (c - 4)) w' := fun w' => run_cut8 bytesT _ n c .i64 .i64 4 8 4 8 rfl rfl (by omega) (by omega) w'
      have hs2 : ∀ w', Sem.run Try.prog (Instr.sliceAt 31 (.slice (some ⟨b, off, none⟩) n c) (some (.int .i64 8)) (some (.int .i64 (v : Int))) none) w' = .ok (.slice (cutA (some ⟨b, off, none⟩) c 8) (v - 8) (c - 8)) w' := fun w' => run_cut8 bytesT _ n c .i64 .i64 8 v 8 (v : Int) rfl rfl (by omega) (by omega) w'
      have hbT : ∀ w', Below w.heap.size w w' → Byt w' w.heap.size (cutA (some ⟨b, off, none⟩) c 4) ((l.drop 4).take 4) := fun w' h => (((HA.out.below h).cut 4 (by rw [← HN.out]; exact hc)).take 4)
      have hbD : ∀ w', Below w.heap.size w w' → Byt w' w.heap.size (cutA (some ⟨b, off, none⟩) c 8) ((l.drop 8).take (v - 8)) := fun w' h => (((HA.out.below h).cut 8 (by rw [← HN.out]; exact hc)).take (v - 8))
      have HcT := hide hbT
      have HcD := hide hbD
      clear hbT hbD
      generalize cutA (some ⟨b, off, none⟩) c 4 = A4 at *
      generalize cutA (some ⟨b, off, none⟩) c 8 = A8 at *
      have HLD : Hid (v - 8 = ((l.drop 8).take (v - 8)).length) := by
        have := HN.out
        show _ = _
        rw [List.length_take, List.length_drop]; omega
      have cv : ∀ w', Below w.heap.size w w' → Sem.run Try.prog (convert 31 9 (.slice A4 4 (c - 4))) w' = .ok (.string (Bx.firstT l)) w' := fun w' h => run_conv8 bytesT Try.underlying9 A4 4 (c - 4) _ (HcT.out w' h) (by have := HL.out; rw [List.length_take, List.length_drop]; omega)
      have HCL : Hid (∀ w', Below w.heap.size w w' → Calls Try.prog 37 #[.slice A8 (v - 8) (c - 8)] w' (RetBytes w' (Bx.firstD l))) := fun w' h => by
        have e : Bx.firstD l = (l.drop 8).take (v - 8) := by unfold Bx.firstD; rw [HO.out]
        rw [e]
        exact clone_calls A8 (v - 8) (c - 8) _ w' HLD.out (by omega) (HcD.out w' h)
      obtain ⟨T, hT⟩ : ∃ T, Bx.firstT l = T := ⟨_, rfl⟩
      have HTT := hide hT
      rw [hT] at cv
      clear hT
      clear HcT HcD HO4
      have d0 := bel.drew
      have da : Below w.heap.size w (W.alloc (.cells #[.string ⟨#[]⟩, .slice none 0 0] 53)).drew := (bel.alloc bel.size (.cells #[.string ⟨#[]⟩, .slice none 0 0] 53)).drew
      have bkY : Blk (W.alloc (.cells #[.string ⟨#[]⟩, .slice none 0 0] 53)).drew W.heap.size 53 #[.string ⟨#[]⟩, .slice none 0 0] := Blk.new W 53 #[.string ⟨#[]⟩, .slice none 0 0]
      have bk0 : Blk W.drew w.heap.size 53 #[.string ⟨#[]⟩, .slice none 0 0] := bk1
      have bka : Blk (W.alloc (.cells #[.string ⟨#[]⟩, .slice none 0 0] 53)).drew w.heap.size 53 #[.string ⟨#[]⟩, .slice none 0 0] := bk1.alloc (.cells #[.string ⟨#[]⟩, .slice none 0 0] 53)
      have gW := bel.size
      go_wp2_with fail
      go_region_held3 (fun w' => Below w.heap.size w w')
        (first | with_reducible exact d0 | with_reducible exact da | with_reducible exact e1 | with_reducible exact e1a | with_reducible exact e1s | (trace "KEEP"; trace_state; fail))
        (first
          | (go_at_call 37; ((with_reducible refine (HCL.out W.drew d0).mono ?_)); rintro e w2 ⟨A2, n2, c2, rfl, o2, g2, b2⟩; have e1 : Below w.heap.size w w2 := bnext d0 b2; have bk2 := bk0.below b2 bk0.lt; have e1a : Below w.heap.size w (w2.alloc (.cells #[.string ⟨#[]⟩, .slice none 0 0] 53)) := e1.alloc e1.size (.cells #[.string ⟨#[]⟩, .slice none 0 0] 53); have e1s : Below w.heap.size w (w2.alloc (.cells #[.string T, .slice A2 n2 c2] 53)) := e1.alloc e1.size _; have bkV := Blk.new w2 53 #[.string T, .slice A2 n2 c2]; have oV := o2.alloc (.cells #[.string T, .slice A2 n2 c2] 53); have bkR := bk2.alloc (.cells #[.string T, .slice A2 n2 c2] 53); have gV : w.heap.size < w2.heap.size := bk2.lt)
          | (go_at_call 37; ((with_reducible refine (HCL.out (W.alloc (.cells #[.string ⟨#[]⟩, .slice none 0 0] 53)).drew da).mono ?_)); rintro e w2 ⟨A2, n2, c2, rfl, o2, g2, b2⟩; have e1 : Below w.heap.size w w2 := bnext da b2; have bk2 := bka.below b2 bka.lt; have bY2 := bkY.below b2 bkY.lt; have y0 : w2.cell? ⟨W.heap.size, 0, none⟩ = some (.string ⟨#[]⟩) := bY2.cell 0; have y1 : w2.cell? ⟨W.heap.size, 1, none⟩ = some (.slice none 0 0) := bY2.cell 1; have yf0 := bY2.frozen 0; have yf1 := bY2.frozen 1; have e1s : Below w.heap.size w ((w2.setCell ⟨W.heap.size, 0, none⟩ (.string T)).setCell ⟨W.heap.size, 1, none⟩ (.slice A2 n2 c2)) := (e1.setCell (p := ⟨W.heap.size, 0, none⟩) gW _).setCell (p := ⟨W.heap.size, 1, none⟩) gW _; have bkV := (bY2.set_ 0 (.string T)).set_ 1 (.slice A2 n2 c2); have oV := (o2.setFar (p := ⟨W.heap.size, 0, none⟩) (far8 o2 bY2) (.string T)).setFar (p := ⟨W.heap.size, 1, none⟩) (far8 o2 bY2) (.slice A2 n2 c2); have gV : w.heap.size < W.heap.size := bk1.lt; have bkR := (bk2.far (p := ⟨W.heap.size, 0, none⟩) (Nat.ne_of_lt gV) (.string T)).far (p := ⟨W.heap.size, 1, none⟩) (Nat.ne_of_lt gV) (.slice A2 n2 c2)))
      all_goals
        first
          | (generalize w2.alloc (.cells #[.string T, .slice A2 n2 c2] 53) = V at *
             obtain ⟨gy, hgy⟩ : ∃ g, g = w2.heap.size := ⟨_, rfl⟩
             rw [← hgy] at bkV gV ⊢
             clear hgy)
          | (generalize (w2.setCell ⟨W.heap.size, 0, none⟩ (.string T)).setCell ⟨W.heap.size, 1, none⟩ (.slice A2 n2 c2) = V at *
             obtain ⟨gy, hgy⟩ : ∃ g, g = W.heap.size := ⟨_, rfl⟩
             rw [← hgy] at bkV gV ⊢
             clear hgy)
        have m0 : V.cell? ⟨gy, 0, none⟩ = some (.string T) := bkV.cell 0
        have m1 : V.cell? ⟨gy, 1, none⟩ = some (.slice A2 n2 c2) := bkV.cell 1
        have hn2 : n2 ≤ 1099511627776 := by
          have h1 := oV.1
          have h2 : (Bx.firstD l).length = v - 8 := by unfold Bx.firstD; rw [HO.out]; exact HLD.out.symm
          omega
        have HN2 : Hid (n2 = v - 8) := by
          have h1 := oV.1
          have h2 : (Bx.firstD l).length = v - 8 := by unfold Bx.firstD; rw [HO.out]; exact HLD.out.symm
          show _ = _
          omega
        have gA2 : ∀ g, blkOf A2 = some g → w.heap.size ≤ g := fun g hg => Nat.le_trans gW (Nat.le_trans (by first | exact Nat.le_refl _ | simp) (g2 g hg))
        go_wp2_with fail
        refine (right_calls T A2 n2 c2 _ (by omega)).mono ?_
        rintro e w3 ⟨rfl, b3⟩
        have bkV3 := bkV.below b3 bkV.lt
        have bkR3 := bkR.below b3 bkR.lt
        have o3 := oV.below b3 oV.lt
        have e3 := bnext e1s b3
        have m2 : w3.cell? ⟨gy, 0, none⟩ = some (.string T) := bkV3.cell 0
        have m3 : w3.cell? ⟨gy, 1, none⟩ = some (.slice A2 n2 c2) := bkV3.cell 1
        have r0 : w3.cell? ⟨w.heap.size, 0, none⟩ = some (.string ⟨#[]⟩) := bkR3.cell 0
        have r1 : w3.cell? ⟨w.heap.size, 1, none⟩ = some (.slice none 0 0) := bkR3.cell 1
        have rf0 := bkR3.frozen 0
        have rf1 := bkR3.frozen 1
        have HFN : Hid (Bx.firstN l = if Bx.right T n2 = true then v else 0) := by
          show _ = _
          unfold Bx.firstN
          have h1 := HL.out
          have h2 := HN.out
          rw [if_neg (by omega), HO.out, if_neg (by omega), HTT.out, HN2.out]
        clear m0 m1 k0 k1 f0 f1
        cases hq : Bx.right T n2
        · have HF : Hid (Bx.firstN l = 0) := by rw [HFN.out, hq]; exact rfl
          have bkz := ((bkR3.set_ 0 (.string ⟨#[]⟩)).set_ 1 (.slice none 0 0))
          have belz := (e3.setCell (p := ⟨w.heap.size, 0, none⟩) (Nat.le_refl _) (.string ⟨#[]⟩)).setCell (p := ⟨w.heap.size, 1, none⟩) (Nat.le_refl _) (.slice none 0 0)
          have z0 : ((w3.setCell ⟨w.heap.size, 0, none⟩ (.string ⟨#[]⟩)).setCell ⟨w.heap.size, 1, none⟩ (.slice none 0 0)).cell? ⟨w.heap.size, 0, none⟩ = some (.string ⟨#[]⟩) := bkz.cell 0
          have z1 : ((w3.setCell ⟨w.heap.size, 0, none⟩ (.string ⟨#[]⟩)).setCell ⟨w.heap.size, 1, none⟩ (.slice none 0 0)).cell? ⟨w.heap.size, 1, none⟩ = some (.slice none 0 0) := bkz.cell 1
          clear hq
          go_wp2
          refine bodyPost_ret (v := .tuple #[zbox, .int .i64 0]) (by simp [results, Try.results82, go_sem, z0, z1]) rfl ?_
          exact .inl ⟨HF.out, rfl, belz⟩
        · have HF : Hid (Bx.firstN l = v) := by rw [HFN.out, hq]; exact rfl
          have bkz := ((bkR3.set_ 0 (.string T)).set_ 1 (.slice A2 n2 c2))
          have belz := (e3.setCell (p := ⟨w.heap.size, 0, none⟩) (Nat.le_refl _) (.string T)).setCell (p := ⟨w.heap.size, 1, none⟩) (Nat.le_refl _) (.slice A2 n2 c2)
          have z0 : ((w3.setCell ⟨w.heap.size, 0, none⟩ (.string T)).setCell ⟨w.heap.size, 1, none⟩ (.slice A2 n2 c2)).cell? ⟨w.heap.size, 0, none⟩ = some (.string T) := bkz.cell 0
          have z1 : ((w3.setCell ⟨w.heap.size, 0, none⟩ (.string T)).setCell ⟨w.heap.size, 1, none⟩ (.slice A2 n2 c2)).cell? ⟨w.heap.size, 1, none⟩ = some (.slice A2 n2 c2) := bkz.cell 1
          have oz := (o3.setFar (p := ⟨w.heap.size, 0, none⟩) (far8 o3 bkR3) (.string T)).setFar (p := ⟨w.heap.size, 1, none⟩) (far8 o3 bkR3) (.slice A2 n2 c2)
          clear hq
          go_wp2
          refine bodyPost_ret (v := .tuple #[boxV T A2 n2 c2, .int .i64 (v : Int)]) (by simp [results, Try.results82, go_sem, z0, z1]) rfl ?_
          refine .inr ⟨by rw [HF.out]; omega, A2, n2, c2, ?_, oz, gA2, belz⟩
          rw [HF.out, HTT.out]
end Go.Proofs.Ytakglalebjkpeaa.C16
namespace Go.Proofs.Ytakglalebjkpeaa.C16
open Go.RowKit Kin

/-- bytes of the call's own, and an error -/
def RetBE (w : World) (l : List UInt8) (E : Int) (e : Ending) (w' : World) : Prop :=
  ∃ A n c, e = .returned (.tuple #[.slice A n c, .int .i64 E]) ∧ Own8 w' 5 A n c l ∧ (∀ g, blkOf A = some g → w.heap.size ≤ g) ∧ Below w.heap.size w w'
def wrL (L : List Bx.Box) : List UInt8 := if L.all Bx.rightB = true then Bx.file L else []
def wrE (L : List Bx.Box) : Int := if L.all Bx.rightB = true then 0 else 161
theorem wr_yes {L : List Bx.Box} (h : L.all Bx.rightB = true) : wrL L = Bx.file L ∧ wrE L = 0 := by unfold wrL wrE; rw [if_pos h, if_pos h]; exact ⟨rfl, rfl⟩
theorem wr_no {L : List Bx.Box} (h : L.all Bx.rightB = false) : wrL L = [] ∧ wrE L = 161 := by unfold wrL wrE; rw [h, if_neg (by simp), if_neg (by simp)]; exact ⟨rfl, rfl⟩
theorem all_no {L : List Bx.Box} {k : Nat} {x : Bx.Box} (h : L[k]? = some x) (hx : Bx.rightB x = false) : L.all Bx.rightB = false := by
  cases e : L.all Bx.rightB
  · rfl
  · rw [List.all_eq_true] at e
    rw [e x (List.mem_of_getElem? h)] at hx; cases hx
theorem all_snoc {L : List Bx.Box} {x : Bx.Box} (h : L.all Bx.rightB = true) (hx : Bx.rightB x = true) : (L ++ [x]).all Bx.rightB = true := by
  rw [List.all_append, h]; simp [hx]
theorem sizes_take (L : List Bx.Box) (k : Nat) : Bx.sizes (L.take k) ≤ Bx.sizes L := by
  have := Bx.sizes_append (L.take k) (L.drop k)
  rw [List.take_append_drop] at this
  omega
theorem sizes_snoc (L : List Bx.Box) (x : Bx.Box) : Bx.sizes (L ++ [x]) = Bx.sizes L + (8 + x.2.length) := by
  rw [Bx.sizes_append]; simp [Bx.sizes]
theorem file_snoc (L : List Bx.Box) (x : Bx.Box) : Bx.file (L ++ [x]) = Bx.file L ++ Bx.enc x := by
  rw [Bx.file_append]; simp [Bx.file]
theorem enc_parts (L : List UInt8) (t : ByteArray) (d : List UInt8) {k : Nat} (h : k = d.length) : ((L ++ Bx.four (8 + k)) ++ t.data.toList) ++ d = L ++ Bx.enc (t, d) := by subst h; simp [Bx.enc]

theorem four_cells (xn : Nat) (h : xn ≤ 1048576) : #[Value.int .u8 ((8 + (xn : Int)) / 16777216), .int .u8 ((8 + (xn : Int)) / 65536), .int .u8 ((8 + (xn : Int)) / 256 % 256), .int .u8 ((8 + (xn : Int)) % 256)].toList = B8 (Bx.four (8 + xn)) := by
  unfold B8 Bx.four
  rw [List.map_cons, List.map_cons, List.map_cons, List.map_cons, List.map_nil, Bx.u8m, Bx.u8m, Bx.u8m, Bx.u8m]
  have c1 : (((8 + xn) / 16777216 % 256 : Nat) : Int) = (8 + (xn : Int)) / 16777216 := by omega
  have c2 : (((8 + xn) / 65536 % 256 : Nat) : Int) = (8 + (xn : Int)) / 65536 := by omega
  have c3 : (((8 + xn) / 256 % 256 : Nat) : Int) = (8 + (xn : Int)) / 256 % 256 := by omega
  have c4 : (((8 + xn) % 256 : Nat) : Int) = (8 + (xn : Int)) % 256 := by omega
  rw [c1, c2, c3, c4]
theorem app_nextS {w W W' : World} {g : Nat} {t : TypeId} {cs : Array Value} {A : Option Addr} {n c : Nat} {l : List UInt8} {e : TypeId} (bk : Blk W g t cs) (own : Own8 W e A n c l) (bel : Below w.heap.size w W) (gA : ∀ k, blkOf A = some k → w.heap.size ≤ k) (grow : W.grownBy W' (blkOf A)) (hne : e ≠ t := by decide) :
    Blk W' g t cs ∧ Below w.heap.size w W' := by
  have h : blkOf A ≠ some g := by have := own_blk_ne own.2 bk hne; rwa [ownBlock_slice] at this
  exact ⟨bk.grown grow (Ne.symm h), bel.grown grow bel.size gA⟩
theorem app_next {w W W' : World} {g : Nat} {t : TypeId} {cs : Array Value} {A A' : Option Addr} {n c : Nat} {l : List UInt8} {e : TypeId} (bk : Blk W g t cs) (own : Own8 W e A n c l) (bel : Below w.heap.size w W) (gA : ∀ k, blkOf A = some k → w.heap.size ≤ k) (grow : W.grownBy W' (blkOf A)) (at1 : blkOf A' = blkOf A ∨ blkOf A' = some W.heap.size) (hne : e ≠ t := by decide) :
    Blk W' g t cs ∧ Below w.heap.size w W' ∧ (∀ k, blkOf A' = some k → w.heap.size ≤ k) := by
  obtain ⟨h1, h2⟩ := app_nextS bk own bel gA grow hne
  refine ⟨h1, h2, fun k hk => ?_⟩
  rcases at1 with e | e
  · exact gA k (by rw [← e]; exact hk)
  · rw [hk] at e; injection e with e; rw [e]; exact bel.size

theorem app_nxt {w W W' : World} {A A' : Option Addr} {n c : Nat} {l : List UInt8} {e : TypeId} (_ : Own8 W e A n c l) (bel : Below w.heap.size w W) (gA : ∀ k, blkOf A = some k → w.heap.size ≤ k) (grow : W.grownBy W' (blkOf A)) (at1 : blkOf A' = blkOf A ∨ blkOf A' = some W.heap.size) :
    Below w.heap.size w W' ∧ (∀ k, blkOf A' = some k → w.heap.size ≤ k) := by
  refine ⟨bel.grown grow bel.size gA, fun k hk => ?_⟩
  rcases at1 with e | e
  · exact gA k (by rw [← e]; exact hk)
  · rw [hk] at e; injection e with e; rw [e]; exact bel.size

set_option maxRecDepth 100000 in
set_option maxHeartbeats 2000000 in
theorem write_calls (A : Option Addr) (n c : Nat) (xs : List Bx.Cel) (w : World) (hn : n = xs.length) (hm : n ≤ 9223372036854775807) (hA : Bx.Boxes w w.heap.size A xs) (hS : Bx.sizes (Bx.boxs xs) ≤ 1099511627776) :
    Calls Try.prog 48 #[.slice A n c] w (RetBE w (wrL (Bx.boxs xs)) (wrE (Bx.boxs xs))) := by
  have HN := hide hn
  have HS := hide hS
  clear hn hS
  go_enter Try.func48, Try.ntmps48
  go_wp2
  go_loopw [4, 13] (fun sv iv wr => ∃ (k s : Nat), k ≤ n ∧ iv = .int .i64 (k : Int) ∧ sv = .int .i64 (s : Int) ∧ Hid (s = Bx.sizes ((Bx.boxs xs).take k)) ∧ s ≤ 1099511627776 ∧ Hid (((Bx.boxs xs).take k).all Bx.rightB = true) ∧ Below w.heap.size w wr) (fun _ iv _ => n - (intOf iv).toNat)
  case atStart => exact ⟨0, 0, by omega, rfl, rfl, rfl, by omega, rfl, Below.refl _ _⟩
  case round =>
    obtain ⟨k, s, hk, rfl, rfl, hs, hs2, hr, bel⟩ := hrel
    by_cases hlt : k < n
    · have hkx : k < xs.length := by rw [← HN.out]; exact hlt
      obtain ⟨b, off, rfl, hb, c0, c1, hok⟩ := (hA.below bel).at_ hkx
      have hlen := hide hok.1
      have hmx := hok.2.1
      unfold maxLen at hmx
      have HT := hide (Bx.take_boxs xs hkx)
      have HG := hide (Bx.boxs_at xs hkx)
      have HZ := hide (sizes_take (Bx.boxs xs) (k + 1))
      rw [HT.out, sizes_snoc] at HZ
      obtain ⟨x, hx⟩ : ∃ x, xs[k] = x := ⟨_, rfl⟩
      rw [hx] at c0 c1 hlen hmx HT HG HZ
      obtain ⟨t, xA, xn, xc, xd⟩ := x
      dsimp only at c0 c1 hlen hmx HT HG HZ
      have hz : s + (8 + xn) ≤ 1099511627776 := by have := HZ.out; have := hs.out; have := hlen.out; have := HS.out; omega
      clear hx hok
      have HA := hide hA
      clear hA
      have i0 : (0 : Int) ≤ (k : Int) := by omega
      have i1 : (k : Int) < (n : Int) := by omega
      go_wp2_with fail
      generalize hW : wr.alloc (.cells #[.string t, .slice xA xn xc] 53) = W at *
      have bW : Below wr.heap.size wr W := by rw [← hW]; exact (Below.refl _ _).alloc (Nat.le_refl _) _
      have bk : Blk W wr.heap.size 53 #[.string t, .slice xA xn xc] := by rw [← hW]; exact Blk.new _ _ _
      clear hW
      refine (right_calls t xA xn xc W hmx).mono ?_
      rintro e w2 ⟨rfl, b2⟩
      have bk2 := bk.below b2 bk.lt
      have c2 : w2.cell? ⟨wr.heap.size, 1, none⟩ = some (.slice xA xn xc) := bk2.cell 1
      have bel2 := (bel.trans (bW.mono bel.size)).trans (b2.mono (Nat.le_trans bel.size bW.size))
      cases hq : Bx.right t xn
      · have HE := hide (wr_no (all_no HG.out (show Bx.rightB (t, xd) = false by unfold Bx.rightB; rw [← hlen.out]; exact hq)))
        clear hq
        go_wp2
        go_ret2
        rw [HE.out.1, HE.out.2]
        exact ⟨_, _, _, rfl, Own8.nil _ _, by simp [blkOf], bel2⟩
      · have HE := hide (all_snoc hr.out (show Bx.rightB (t, xd) = true by unfold Bx.rightB; rw [← hlen.out]; exact hq))
        rw [← HT.out] at HE
        clear hq
        go_wp2
        go_roundw
        case rel => exact ⟨k + 1, s + (8 + xn), by omega, by go_num, by go_num, by rw [HT.out, sizes_snoc, ← hs.out, hlen.out]; exact rfl, by omega, HE, bel2⟩
        case measure => simp [intOf]; omega
    · obtain rfl : n = k := by omega
      have HT := hide (List.take_of_length_le (l := Bx.boxs xs) (i := n) (by rw [Bx.length_boxs, ← HN.out]; omega))
      rw [HT.out] at hr hs
      have HE := hide (wr_yes hr.out)
      clear hlt
      have hmk : ∀ w', Sem.run Try.prog (Instr.makeSlice 31 (.int .i64 0) (.int .i64 (s : Int))) w' = .ok (.slice (some ⟨w'.heap.size, 0, none⟩) 0 s) (w'.alloc (.cells (madeCells #[.int .u8 0] s) 5)) := run_make80 bytesT .i64 .i64 s (by omega)
      go_wp2_with fail
      have own0 := Own8.new0 wr (madeCells #[.int .u8 0] s) 5 s (size_madeCells _ _) (by unfold maxLen; omega)
      have bel0 := bel.alloc bel.size (.cells (madeCells #[.int .u8 0] s) 5)
      have g0 : w.heap.size ≤ wr.heap.size := bel.size
      generalize wr.alloc (.cells (madeCells #[.int .u8 0] s) 5) = W0 at *
      clear hmk bel hs2
      go_loopw [7, 31] (fun sv iv wr' => ∃ (k n1 c1 : Nat) (A1 : Option Addr), k ≤ n ∧ iv = .int .i64 (k : Int) ∧ sv = .slice A1 n1 c1 ∧ Own8 wr' 5 A1 n1 c1 (Bx.file ((Bx.boxs xs).take k)) ∧ (∀ g, blkOf A1 = some g → w.heap.size ≤ g) ∧ Below w.heap.size w wr') (fun _ iv _ => n - (intOf iv).toNat)
      case atStart => exact ⟨0, 0, s, _, by omega, rfl, rfl, own0, by intro g hg; simp [blkOf] at hg; omega, bel0⟩
      case round =>
        obtain ⟨k, n1, c1, A1, hk', rfl, rfl, own, gA, bel⟩ := hrel
        by_cases hlt : k < n
        · have hkx : k < xs.length := by rw [← HN.out]; exact hlt
          obtain ⟨b, off, rfl, hb, c0, c1', hok⟩ := (hA.below bel).at_ hkx
          have hlen := hide hok.1
          have HA2 : Hid (∀ w', Below w.heap.size w w' → Byt w' w.heap.size xs[k].A xs[k].d) := fun w' hb => ((hA.below hb).2 _ (List.getElem_mem hkx)).2.2
          have HT := hide (Bx.take_boxs xs hkx)
          have HG := hide (Bx.boxs_at xs hkx)
          have HR := hide (List.all_eq_true.1 hr.out _ (List.mem_of_getElem? HG.out))
          have HZ := hide (sizes_take (Bx.boxs xs) (k + 1))
          have HL := hide (Bx.length_file ((Bx.boxs xs).take k) (by rw [List.all_eq_true]; intro y hy; exact List.all_eq_true.1 hr.out y (List.mem_of_mem_take hy)))
          rw [HT.out, sizes_snoc, ← HL.out, ← own.1] at HZ
          obtain ⟨x, hx⟩ : ∃ x, xs[k] = x := ⟨_, rfl⟩
          rw [hx] at c0 c1' hlen HT HG HZ HR HA2
          obtain ⟨t, xA, xn, xc, xd⟩ := x
          dsimp only at c0 c1' hlen HT HG HZ HR HA2
          obtain ⟨hr4, hrm⟩ := Bx.right_of HR.out
          dsimp only at hr4 hrm
          rw [← hlen.out] at hrm
          replace hr4 : t.size ≤ 4 := Nat.le_of_eq hr4
          have hz : n1 + (8 + xn) ≤ 1099511627776 := by have := HZ.out; have := hlen.out; have := HS.out; omega
          clear hx hok own0 bel0
          have HA := hide hA
          clear hA
          have i0 : (0 : Int) ≤ (k : Int) := by omega
          have i1 : (k : Int) < (n : Int) := by omega
          have HC : Hid (#[Value.int .u8 ((8 + (xn : Int)) / 16777216), .int .u8 ((8 + (xn : Int)) / 65536), .int .u8 ((8 + (xn : Int)) / 256 % 256), .int .u8 ((8 + (xn : Int)) % 256)].toList = B8 (Bx.four (8 + xn))) := by
            exact four_cells xn hrm
          have bkV := (Blk.new wr 53 #[.string t, .slice xA xn xc]).alloc (.cells #[.int .u8 ((8 + (xn : Int)) / 16777216), .int .u8 ((8 + (xn : Int)) / 65536), .int .u8 ((8 + (xn : Int)) / 256 % 256), .int .u8 ((8 + (xn : Int)) % 256)] 5)
          have ownV := (own.alloc (.cells #[.string t, .slice xA xn xc] 53)).alloc (.cells #[.int .u8 ((8 + (xn : Int)) / 16777216), .int .u8 ((8 + (xn : Int)) / 65536), .int .u8 ((8 + (xn : Int)) / 256 % 256), .int .u8 ((8 + (xn : Int)) % 256)] 5)
          have belV := (bel.alloc bel.size (.cells #[.string t, .slice xA xn xc] 53)).alloc (by have := bel.size; simp; omega) (.cells #[.int .u8 ((8 + (xn : Int)) / 16777216), .int .u8 ((8 + (xn : Int)) / 65536), .int .u8 ((8 + (xn : Int)) / 256 % 256), .int .u8 ((8 + (xn : Int)) % 256)] 5)
          have fourV := Byt.newAt (wr.alloc (.cells #[.string t, .slice xA xn xc] 53)) #[.int .u8 ((8 + (xn : Int)) / 16777216), .int .u8 ((8 + (xn : Int)) / 65536), .int .u8 ((8 + (xn : Int)) / 256 % 256), .int .u8 ((8 + (xn : Int)) % 256)] 5 (0, 0) _ (wr.heap.size + 1) (by simp) HC.out
          go_wp2_with (first
            | (at_builtin; refine wpList_append8 (by rfl) (.tmp 40) (.tmp 52) 31 5 (by rfl) bytesT _ _ _ _ (by rfl) ownV _ _ _ _ (Bx.four (8 + xn)) (by rfl) fourV (by rfl) (by omega) ?_; intro A2 c2 w2 own2 grow2 at2; have F2 := app_next bkV ownV belV gA grow2 at2; have k0 : w2.cell? ⟨wr.heap.size, 0, none⟩ = some (.string t) := F2.1.cell 0; have k1 : w2.cell? ⟨wr.heap.size, 1, none⟩ = some (.slice xA xn xc) := F2.1.cell 1)
            | (at_builtin; refine wpList_append8s (by rfl) (.tmp 54) (.tmp 56) 31 5 9 (by rfl) bytesT Try.underlying9 _ _ _ _ (by rfl) own2 w.heap.size F2.2.2 F2.2.1.size t (by rfl) (by omega) ?_; intro A3 c3 w3 own3 grow3 g3; have F3 := app_nextS F2.1 own2 F2.2.1 F2.2.2 grow3; clear k0 k1; have k1 : w3.cell? ⟨wr.heap.size, 1, none⟩ = some (.slice xA xn xc) := F3.1.cell 1)
            | (at_builtin; refine wpList_append8 (by rfl) (.tmp 58) (.tmp 60) 31 5 (by rfl) bytesT _ _ _ _ (by rfl) own3 _ _ _ _ xd (by rfl) (HA2.out w3 F3.2) hlen.out (by omega) ?_; intro A4 c4 w4 own4 grow4 at4; have F4 := app_next F3.1 own3 F3.2 g3 grow4 at4))
          have own5 := own4
          rw [enc_parts _ _ _ hlen.out, ← file_snoc, ← HT.out] at own5
          go_roundw
          case rel => exact ⟨k + 1, _, c4, A4, by omega, by go_num, rfl, own5, F4.2.2, F4.2.1⟩
          case measure => simp [intOf]; omega
        · obtain rfl : n = k := by omega
          rw [HT.out] at own
          clear hlt
          go_wp2
          go_ret2
          rw [HE.out.1, HE.out.2]
          exact ⟨_, _, _, rfl, own, gA, bel⟩
end Go.Proofs.Ytakglalebjkpeaa.C16
namespace Go.Proofs.Ytakglalebjkpeaa.C16
open Go.RowKit Kin

set_option maxRecDepth 100000 in
set_option maxHeartbeats 2000000 in
theorem refwrite_calls (A : Option Addr) (n c : Nat) (xs : List Bx.Cel) (w : World) (hn : n = xs.length) (hm : n ≤ 9223372036854775807) (hA : Bx.Boxes w w.heap.size A xs) (hS : Bx.sizes (Bx.boxs xs) ≤ 1099511627776) (hts : ∀ x ∈ xs, x.t.size ≤ 9223372036854775807) :
    Calls Try.prog 53 #[.slice A n c] w (RetBE w (wrL (Bx.boxs xs)) (wrE (Bx.boxs xs))) := by
  have HN := hide hn
  have HS := hide hS
  have HTS := hide hts
  clear hn hS hts
  go_enter Try.func53, Try.ntmps53
  go_wp2
  go_loopw [4, 5] (fun sv iv wr' => ∃ (k n1 c1 : Nat) (A1 : Option Addr), k ≤ n ∧ iv = .int .i64 (k : Int) ∧ sv = .slice A1 n1 c1 ∧ Hid (((Bx.boxs xs).take k).all Bx.rightB = true) ∧ Own8 wr' 5 A1 n1 c1 (Bx.file ((Bx.boxs xs).take k)) ∧ (∀ g, blkOf A1 = some g → w.heap.size ≤ g) ∧ Below w.heap.size w wr') (fun _ iv _ => n - (intOf iv).toNat)
  case atStart => exact ⟨0, 0, 0, none, by omega, rfl, rfl, rfl, Own8.nil _ _, by simp [blkOf], Below.refl _ _⟩
  case round =>
    obtain ⟨k, n1, c1, A1, hk, rfl, rfl, hr, own, gA, bel⟩ := hrel
    by_cases hlt : k < n
    · have hkx : k < xs.length := by rw [← HN.out]; exact hlt
      obtain ⟨b, off, rfl, hb, c0, c1', hok⟩ := hA.at_ hkx
      have hlen := hide hok.1
      have hmx := hok.2.1
      have htx := HTS.out _ (List.getElem_mem hkx)
      unfold maxLen at hmx
      have HA2 : Hid (∀ w', Below w.heap.size w w' → Byt w' w.heap.size xs[k].A xs[k].d) := fun w' hb => ((hA.below hb).2 _ (List.getElem_mem hkx)).2.2
      have HT := hide (Bx.take_boxs xs hkx)
      have HG := hide (Bx.boxs_at xs hkx)
      have HZ := hide (sizes_take (Bx.boxs xs) (k + 1))
      have HL := hide (Bx.length_file ((Bx.boxs xs).take k) hr.out)
      rw [HT.out, sizes_snoc, ← HL.out, ← own.1] at HZ
      obtain ⟨x, hx⟩ : ∃ x, xs[k] = x := ⟨_, rfl⟩
      rw [hx] at c0 c1' hlen HT HG HZ HA2 hmx htx
      obtain ⟨t, xA, xn, xc, xd⟩ := x
      dsimp only at c0 c1' hlen HT HG HZ HA2 hmx htx
      have hz : n1 + (8 + xn) ≤ 1099511627776 := by have := HZ.out; have := hlen.out; have := HS.out; omega
      have HC : Hid (∀ w', Below w.heap.size w w' → w'.cell? ⟨b, off + k * 2, none⟩ = some (.string t) ∧ w'.cell? ⟨b, off + k * 2 + 1, none⟩ = some (.slice xA xn xc)) := fun w' h => ⟨(h.cell (p := ⟨b, off + k * 2, none⟩) hb).trans c0, (h.cell (p := ⟨b, off + k * 2 + 1, none⟩) hb).trans c1'⟩
      clear hx hok c0 c1'
      have HA := hide hA
      clear hA
      have i0 : (0 : Int) ≤ (k : Int) := by omega
      have i1 : (k : Int) < (n : Int) := by omega
      have ⟨k0, k1⟩ := HC.out _ bel
      go_wp2_with fail
      refine (refright_calls t xA xn xc _ hmx htx).mono ?_
      rintro e w2 ⟨rfl, b2⟩
      have bel2 := bel.trans (b2.mono bel.size)
      have own2 := own.below b2 own.lt
      cases hq : Bx.right t xn
      · have HE := hide (wr_no (all_no HG.out (show Bx.rightB (t, xd) = false by unfold Bx.rightB; rw [← hlen.out]; exact hq)))
        clear hq
        go_wp2
        go_ret2
        rw [HE.out.1, HE.out.2]
        exact ⟨_, _, _, rfl, Own8.nil _ _, by simp [blkOf], bel2⟩
      · have HE := hide (all_snoc hr.out (show Bx.rightB (t, xd) = true by unfold Bx.rightB; rw [← hlen.out]; exact hq))
        rw [← HT.out] at HE
        obtain ⟨hr4, hrm⟩ := Bx.right_of hq
        replace hr4 : t.size ≤ 4 := Nat.le_of_eq hr4
        have ⟨k2, k3⟩ := HC.out _ bel2
        have e8 : ((8 + xn : Nat) : Int) = (xn : Int) + 8 := by omega
        have HF := hide (four_calls (8 + xn))
        rw [e8] at HF
        clear hq own bel k0 k1 e8
        go_wp2_with (first
          | (go_at_call 28; refine (HF.out _ (by omega)).mono ?_; rintro e w3 ⟨A3, n3, c3, rfl, o3, g3, b3⟩; have bel3 := bel2.trans (b3.mono bel2.size); have own3 := own2.below b3 own2.lt; have hn3 : n3 ≤ 4 := Nat.le_of_eq o3.1)
          | (at_builtin; refine wpList_append8 (by rfl) (.tmp 20) (.tmp 28) 31 5 (by rfl) bytesT _ _ _ _ (by rfl) own3 _ _ _ _ (Bx.four (8 + xn)) (by rfl) o3.byt o3.1 (by omega) ?_; intro A4 c4 w4 own4 grow4 at4; have F4 := app_nxt own3 bel3 gA grow4 at4; have ⟨k4, k5⟩ := HC.out _ F4.1)
          | (at_builtin; refine wpList_append8s (by rfl) (.tmp 30) (.tmp 35) 31 5 9 (by rfl) bytesT Try.underlying9 _ _ _ _ (by rfl) own4 w.heap.size F4.2 F4.1.size t (by rfl) (by omega) ?_; intro A5 c5 w5 own5 grow5 g5; have F5 := F4.1.grown grow5 F4.1.size F4.2; have ⟨k6, k7⟩ := HC.out _ F5)
          | (at_builtin; refine wpList_append8 (by rfl) (.tmp 37) (.tmp 42) 31 5 (by rfl) bytesT _ _ _ _ (by rfl) own5 _ _ _ _ xd (by rfl) (HA2.out w5 F5) hlen.out (by omega) ?_; intro A6 c6 w6 own6 grow6 at6; have F6 := app_nxt own5 F5 g5 grow6 at6))
        have own7 := own6
        rw [enc_parts _ _ _ hlen.out, ← file_snoc, ← HT.out] at own7
        go_roundw
        case rel => exact ⟨k + 1, _, c6, A6, by omega, by go_num, rfl, HE, own7, F6.2, F6.1⟩
        case measure => simp [intOf]; omega
    · obtain rfl : n = k := by omega
      have HT := hide (List.take_of_length_le (l := Bx.boxs xs) (i := n) (by rw [Bx.length_boxs, ← HN.out]; omega))
      rw [HT.out] at hr own
      have HE := hide (wr_yes hr.out)
      clear hlt
      go_wp2
      go_ret2
      rw [HE.out.1, HE.out.2]
      exact ⟨_, _, _, rfl, own, gA, bel⟩
end Go.Proofs.Ytakglalebjkpeaa.C16
namespace Go.Proofs.Ytakglalebjkpeaa.C16
open Go.RowKit Kin

/-- bytes, and whether they were found -/
def RetFind (w : World) (L : List Bx.Box) (k : ByteArray) (e : Ending) (w' : World) : Prop :=
  ∃ A n c, e = .returned (.tuple #[.slice A n c, .bool (Bx.find L k).2]) ∧ n = (Bx.find L k).1.length ∧ Byt w' w'.heap.size A (Bx.find L k).1 ∧ Below w.heap.size w w'
theorem tl_inj {t k : ByteArray} (e : t.toList = k.toList) : t = k := by
  rw [Lib.toList_data, Lib.toList_data] at e
  exact ByteArray.ext (Array.toList_inj.1 e)
theorem tl_ne {t k : ByteArray} (h : ¬ t = k) : (t.toList == k.toList) = false := by
  rw [beq_eq_false_iff_ne]
  exact fun e => h (tl_inj e)
theorem tl_eq {t k : ByteArray} (h : t = k) : (t.toList == k.toList) = true := by rw [h]; simp
theorem find_drop {L : List Bx.Box} {i : Nat} {x : Bx.Box} {k : ByteArray} (h : L[i]? = some x) : Bx.find (L.drop i) k = if x.1 = k then (x.2, true) else Bx.find (L.drop (i + 1)) k := by
  obtain ⟨hi, hx⟩ := List.getElem?_eq_some_iff.1 h
  rw [List.drop_eq_getElem_cons hi, hx]
  rfl

end Go.Proofs.Ytakglalebjkpeaa.C16
namespace Go.Proofs.Ytakglalebjkpeaa.C16
open Go.RowKit Kin

theorem textsT : IsRows Try.prog 74 9 1 16 := isRows_of (z := .string ⟨#[]⟩) Try.underlying74 (by decide) (by kernel_rfl) rfl
def kindRow (x : Bx.Cel) : List Value := [.string x.t]
theorem OwnR.new0 (w : World) (cs : Array Value) (e : TypeId) (k c : Nat) (hs : cs.size = c * k) (hm : c ≤ maxLen) : OwnR (w.alloc (.cells cs e)) e k (some ⟨w.heap.size, 0, none⟩) 0 c [] :=
  ⟨rfl, by simp, by simp, Or.inr ⟨w.heap.size, c, cs, rfl, Nat.zero_le _, heap_alloc_new w _, Nat.zero_le _, hm, hs, by simp⟩⟩
theorem take_map {xs : List Bx.Cel} {k : Nat} (h : k < xs.length) : (xs.take (k + 1)).map kindRow = (xs.take k).map kindRow ++ [kindRow xs[k]] := by
  rw [List.take_add_one, List.getElem?_eq_getElem h, List.map_append]; rfl

set_option maxRecDepth 100000 in
set_option maxHeartbeats 1000000 in
theorem kinds_calls (A : Option Addr) (n c : Nat) (xs : List Bx.Cel) (w : World) (hn : n = xs.length) (hm : n ≤ 1099511627776) (hA : Bx.Boxes w w.heap.size A xs) :
    Calls Try.prog 56 #[.slice A n c] w fun e w' => ∃ A' n' c', e = .returned (.slice A' n' c') ∧ OwnR w' 9 1 A' n' c' (xs.map kindRow) ∧ (∀ g, blkOf A' = some g → w.heap.size ≤ g) ∧ Below w.heap.size w w' := by
  have HN := hide hn
  clear hn
  have hmk : ∀ w', Sem.run Try.prog (Instr.makeSlice 74 (.int .i64 0) (.int .i64 (n : Int))) w' = .ok (.slice (some ⟨w'.heap.size, 0, none⟩) 0 n) (w'.alloc (.cells (madeCells #[.string ⟨#[]⟩] n) 9)) := fun w' => by
    obtain ⟨ht, _, i, z, hi, hz, hsize, hby, _⟩ := textsT
    have hz' : i.zero = some (.string ⟨#[]⟩) := by
      have : (Try.prog.info? 9).map (fun i => i.zero) = some (some (.string ⟨#[]⟩)) := by kernel_rfl
      rw [hi] at this
      simpa using this
    have := run_make0 (P := Try.prog) 74 9 i _ ht hi hz' .i64 .i64 n (by rw [hby]; omega) (by unfold maxLen; omega) w'
    rw [hsize, Nat.mul_one] at this
    exact this
  go_enter Try.func56, Try.ntmps56
  go_wp2_with fail
  have own0 := OwnR.new0 w (madeCells #[.string ⟨#[]⟩] n) 9 1 n (by rw [size_madeCells, Nat.mul_one]) (by unfold maxLen; omega)
  have bel0 : Below w.heap.size w (w.alloc (.cells (madeCells #[.string ⟨#[]⟩] n) 9)) := (Below.refl _ _).alloc (Nat.le_refl _) _
  generalize w.alloc (.cells (madeCells #[.string ⟨#[]⟩] n) 9) = W0 at *
  clear hmk
  go_loopw [3, 11] (fun sv iv wr => ∃ (k n1 c1 : Nat) (A1 : Option Addr), k ≤ n ∧ iv = .int .i64 (k : Int) ∧ sv = .slice A1 n1 c1 ∧ OwnR wr 9 1 A1 n1 c1 ((xs.take k).map kindRow) ∧ (∀ g, blkOf A1 = some g → w.heap.size ≤ g) ∧ Below w.heap.size w wr) (fun _ iv _ => n - (intOf iv).toNat)
  case atStart => exact ⟨0, 0, n, _, by omega, rfl, rfl, own0, by intro g hg; simp [blkOf] at hg; omega, bel0⟩
  case round =>
    obtain ⟨k, n1, c1, A1, hk, rfl, rfl, own, gA, bel⟩ := hrel
    clear own0 bel0
    by_cases hlt : k < n
    · have hkx : k < xs.length := by rw [← HN.out]; exact hlt
      obtain ⟨b, off, rfl, hb, c0, c1', _⟩ := (hA.below bel).at_ hkx
      have HT := hide (take_map hkx)
      have hn1 : n1 ≤ 1099511627776 := by have := own.1; rw [List.length_map, List.length_take] at this; omega
      obtain ⟨x, hx⟩ : ∃ x, xs[k] = x := ⟨_, rfl⟩
      rw [hx] at c0 c1' HT
      obtain ⟨t, xA, xn, xc, xd⟩ := x
      dsimp only at c0 c1' HT
      clear hx
      have HA := hide hA
      clear hA
      have i0 : (0 : Int) ≤ (k : Int) := by omega
      have i1 : (k : Int) < (n : Int) := by omega
      have own1 := own.alloc (.cells #[.string t, .slice xA xn xc] 53)
      have bel1 := bel.alloc bel.size (.cells #[.string t, .slice xA xn xc] 53)
      have recN : Recs ((wr.alloc (.cells #[.string t, .slice xA xn xc] 53)).alloc (.cells #[.string t] 9)) (wr.heap.size + 1 + 1) 1 (some ⟨wr.heap.size + 1, 0, none⟩) [kindRow ⟨t, xA, xn, xc, xd⟩] := by
        have := Recs.new (wr.alloc (.cells #[.string t, .slice xA xn xc] 53)) #[.string t] 9 (0, 0) 1 (kindRow ⟨t, xA, xn, xc, xd⟩) rfl rfl
        rwa [World.size_alloc] at this
      go_wp2_with (at_builtin; refine wpList_appendR (by rfl) (.tmp 15) (.tmp 18) 74 9 1 16 (by rfl) textsT _ _ _ _ (by rfl) (own1.alloc _) _ _ _ _ [kindRow ⟨t, xA, xn, xc, xd⟩] (by rfl) recN (by rfl) (by simp [kindRow]) (by simp [kindRow, Value.oneCell']) (by omega) (by unfold maxLen; omega) ?_; intro A2 c2 w2 own2 grow2 at2)
      have belA := bel1.alloc bel1.size (.cells #[.string t] 9)
      rw [← HT.out] at own2
      go_roundw
      case rel =>
        refine ⟨k + 1, n1 + 1, c2, A2, by omega, by go_num, rfl, own2, ?_, belA.grown grow2 belA.size gA⟩
        intro g hg
        rcases at2 with e | e
        · exact gA g (by rw [← e]; exact hg)
        · rw [hg] at e; injection e with e; rw [e]; exact belA.size
      case measure => simp [intOf]; omega
    · obtain rfl : n = k := by omega
      have HT := hide (List.take_of_length_le (l := xs) (i := n) (by rw [← HN.out]; omega))
      rw [HT.out] at own
      clear hlt
      go_wp2
      go_ret
      exact ⟨A1, n1, c1, rfl, own, gA, bel⟩

theorem boxs_ne {xs ys : List Bx.Cel} {k : Nat} (h1 : k < xs.length) (h2 : k < ys.length) (h : ¬ (xs[k].t = ys[k].t ∧ xs[k].d = ys[k].d)) : decide (Bx.boxs xs = Bx.boxs ys) = false := by
  rw [decide_eq_false_iff_not]
  intro e
  have e1 := Bx.boxs_at xs h1
  rw [e, Bx.boxs_at ys h2] at e1
  injection e1 with e1
  injection e1 with e1 e2
  exact h ⟨e1.symm, e2.symm⟩

end Go.Proofs.Ytakglalebjkpeaa.C16
