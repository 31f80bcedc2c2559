/- Boxes in plain words: which are right, a file of boxes, and how bytes are cut into boxes. No program here; no conditions. -/
import Derived.Test.YtjofojjinoipaaaConv
namespace Bx
open Kin

def okc (c : UInt8) : Bool := !((decide (c.toNat < 97) || decide (122 < c.toNat)) && (decide (c.toNat < 48) || decide (57 < c.toNat)))
/-- is a box of this type with n bytes right? -/
def right (t : ByteArray) (n : Nat) : Bool := decide (t.size = 4) && decide (n ≤ 1048576) && t.data.toList.all okc
abbrev Box := ByteArray × List UInt8
def rightB (x : Box) : Bool := right x.1 x.2.length
def four (n : Nat) : List UInt8 := [UInt8.ofNat (n / 16777216), UInt8.ofNat (n / 65536), UInt8.ofNat (n / 256), UInt8.ofNat n]
def enc (x : Box) : List UInt8 := four (8 + x.2.length) ++ x.1.data.toList ++ x.2
def file : List Box → List UInt8
  | [] => []
  | x :: L => enc x ++ file L
def of4 (l : List UInt8) : Nat := (((l.getD 0 0).toNat * 256 + (l.getD 1 0).toNat) * 256 + (l.getD 2 0).toNat) * 256 + (l.getD 3 0).toNat
def firstT (l : List UInt8) : ByteArray := str ((l.drop 4).take 4)
def firstD (l : List UInt8) : List UInt8 := (l.drop 8).take (of4 l - 8)
/-- how many bytes the first box has; 0, if there is none -/
def firstN (l : List UInt8) : Nat :=
  if l.length < 8 then 0 else if of4 l < 8 ∨ l.length < of4 l then 0 else if right (firstT l) (of4 l - 8) = true then of4 l else 0
def cut : Nat → List UInt8 → List Box
  | 0, _ => []
  | f + 1, l => if firstN l = 0 then [] else (firstT l, firstD l) :: cut f (l.drop (firstN l))
def whole : Nat → List UInt8 → Bool
  | 0, l => l.isEmpty
  | f + 1, l => if l.isEmpty then true else if firstN l = 0 then false else whole f (l.drop (firstN l))
def boxes (l : List UInt8) : List Box := cut l.length l
def even (l : List UInt8) : Bool := whole l.length l
def sizes : List Box → Nat
  | [] => 0
  | x :: L => 8 + x.2.length + sizes L
/-- what is found of a kind -/
def find : List Box → ByteArray → List UInt8 × Bool
  | [], _ => ([], false)
  | x :: L, k => if x.1 = k then (x.2, true) else find L k

theorem length_four (n : Nat) : (four n).length = 4 := rfl
theorem str_data (t : ByteArray) : str t.data.toList = t := by
  apply ByteArray.ext
  show t.data.toList.toArray = t.data
  simp
theorem size_data (t : ByteArray) : t.data.toList.length = t.size := rfl
theorem firstN_small {l : List UInt8} (h : l.length < 8) : firstN l = 0 := by unfold firstN; rw [if_pos h]
theorem firstN_ge {l : List UInt8} (h : firstN l ≠ 0) : firstN l = of4 l ∧ 8 ≤ of4 l ∧ of4 l ≤ l.length ∧ 8 ≤ l.length ∧ right (firstT l) (of4 l - 8) = true := by
  unfold firstN at h ⊢
  split at h
  · exact absurd rfl h
  · rename_i h1
    split at h
    · exact absurd rfl h
    · rename_i h2
      split at h
      · rename_i h3
        rw [if_neg h1, if_neg h2, if_pos h3]
        exact ⟨rfl, by omega, by omega, by omega, h3⟩
      · exact absurd rfl h
theorem cut_fuel : ∀ (f g : Nat) (l : List UInt8), l.length ≤ f → l.length ≤ g → cut f l = cut g l
  | 0, 0, _, _, _ => rfl
  | 0, g + 1, l, h, _ => by
    have : l = [] := List.eq_nil_of_length_eq_zero (by omega)
    subst this
    rw [cut, cut, if_pos (firstN_small (by simp))]
  | f + 1, 0, l, _, h => by
    have : l = [] := List.eq_nil_of_length_eq_zero (by omega)
    subst this
    rw [cut, cut, if_pos (firstN_small (by simp))]
  | f + 1, g + 1, l, h1, h2 => by
    unfold cut
    by_cases h : firstN l = 0
    · rw [if_pos h, if_pos h]
    · obtain ⟨e, e8, _, _⟩ := firstN_ge h
      rw [if_neg h, if_neg h, cut_fuel f g _ (by rw [List.length_drop]; omega) (by rw [List.length_drop]; omega)]
theorem whole_fuel : ∀ (f g : Nat) (l : List UInt8), l.length ≤ f → l.length ≤ g → whole f l = whole g l
  | 0, 0, _, _, _ => rfl
  | 0, g + 1, l, h, _ => by
    have : l = [] := List.eq_nil_of_length_eq_zero (by omega)
    subst this
    simp [whole]
  | f + 1, 0, l, _, h => by
    have : l = [] := List.eq_nil_of_length_eq_zero (by omega)
    subst this
    simp [whole]
  | f + 1, g + 1, l, h1, h2 => by
    unfold whole
    by_cases h : firstN l = 0
    · rw [if_pos h, if_pos h]
    · obtain ⟨e, e8, _, _⟩ := firstN_ge h
      rw [if_neg h, if_neg h, whole_fuel f g _ (by rw [List.length_drop]; omega) (by rw [List.length_drop]; omega)]
theorem boxes_no {l : List UInt8} (h : firstN l = 0) : boxes l = [] := by
  unfold boxes
  cases hl : l.length with
  | zero => rfl
  | succ n => unfold cut; rw [if_pos h]
theorem boxes_yes {l : List UInt8} (h : firstN l ≠ 0) : boxes l = (firstT l, firstD l) :: boxes (l.drop (firstN l)) := by
  obtain ⟨e, e8, e9, e10, _⟩ := firstN_ge h
  unfold boxes
  cases hl : l.length with
  | zero => omega
  | succ n =>
    rw [show cut (n + 1) l = if firstN l = 0 then [] else (firstT l, firstD l) :: cut n (l.drop (firstN l)) from rfl, if_neg h]
    rw [cut_fuel n (l.drop (firstN l)).length _ (by rw [List.length_drop]; omega) (Nat.le_refl _)]
theorem length_cut : ∀ (f : Nat) (l : List UInt8), (cut f l).length ≤ f
  | 0, _ => Nat.le_refl _
  | f + 1, l => by
    unfold cut
    split
    · simp
    · have := length_cut f (l.drop (firstN l))
      simp only [List.length_cons]
      omega
theorem length_boxes (l : List UInt8) : (boxes l).length ≤ l.length := length_cut _ _
theorem even_nil : even [] = true := rfl
theorem even_no {l : List UInt8} (h0 : 0 < l.length) (h : firstN l = 0) : even l = false := by
  unfold even
  cases hl : l.length with
  | zero => omega
  | succ n =>
    unfold whole
    rw [if_neg (by intro e; rw [List.isEmpty_iff] at e; subst e; simp at h0), if_pos h]
theorem even_yes {l : List UInt8} (h : firstN l ≠ 0) : even l = even (l.drop (firstN l)) := by
  obtain ⟨e, e8, e9, e10, _⟩ := firstN_ge h
  unfold even
  cases hl : l.length with
  | zero => omega
  | succ n =>
    rw [show whole (n + 1) l = if l.isEmpty then true else if firstN l = 0 then false else whole n (l.drop (firstN l)) from rfl, if_neg (by intro e; rw [List.isEmpty_iff] at e; subst e; simp at hl), if_neg h]
    rw [whole_fuel n (l.drop (firstN l)).length _ (by rw [List.length_drop]; omega) (Nat.le_refl _)]

theorem u8m (n : Nat) : (UInt8.ofNat n).toNat = n % 256 := by simp
theorem of4_four (n : Nat) (h : n < 4294967296) (r : List UInt8) : of4 (four n ++ r) = n := by
  simp [of4, four, List.getD]
  omega
theorem four_of4 (l : List UInt8) (h : 4 ≤ l.length) : four (of4 l) = l.take 4 := by
  rcases l with _ | ⟨a, _ | ⟨b, _ | ⟨c, _ | ⟨d, l⟩⟩⟩⟩ <;> simp at h
  simp only [of4, List.getD, List.getElem?_cons_zero, List.getElem?_cons_succ, Option.getD_some, four, List.take_succ_cons, List.take_zero]
  have ha := a.toNat_lt
  have hb := b.toNat_lt
  have hc := c.toNat_lt
  have hd := d.toNat_lt
  have key : ∀ (x : UInt8) (n : Nat), n % 256 = x.toNat → UInt8.ofNat n = x := by
    intro x n e
    apply UInt8.toNat_inj.1
    rw [u8m, e]
  simp only [List.cons.injEq, and_true]
  exact ⟨key _ _ (by omega), key _ _ (by omega), key _ _ (by omega), key _ _ (by omega)⟩
theorem right_of {t : ByteArray} {n : Nat} (h : right t n = true) : t.size = 4 ∧ n ≤ 1048576 := by
  unfold right at h
  simp at h
  exact ⟨h.1.1, h.1.2⟩
theorem first_enc {x : Box} (h : rightB x = true) (r : List UInt8) : firstN (enc x ++ r) = 8 + x.2.length ∧ firstT (enc x ++ r) = x.1 ∧ firstD (enc x ++ r) = x.2 ∧ (enc x ++ r).drop (8 + x.2.length) = r := by
  obtain ⟨t, d⟩ := x
  obtain ⟨h4, hm⟩ := right_of h
  have hl : t.data.toList.length = 4 := by rw [size_data]; exact h4
  have e0 : enc (t, d) ++ r = four (8 + d.length) ++ (t.data.toList ++ (d ++ r)) := by simp [enc]
  have e4 : of4 (enc (t, d) ++ r) = 8 + d.length := by rw [e0]; exact of4_four _ (by simp at hm; omega) _
  have d4 : (enc (t, d) ++ r).drop 4 = t.data.toList ++ (d ++ r) := by rw [e0]; rfl
  have d8 : (enc (t, d) ++ r).drop 8 = d ++ r := by
    rw [show 8 = 4 + 4 from rfl, ← List.drop_drop, d4, ← hl]; exact List.drop_left
  have hlen : (enc (t, d) ++ r).length = 8 + d.length + r.length := by simp [enc, length_four, hl]; omega
  have hT : firstT (enc (t, d) ++ r) = t := by
    unfold firstT
    rw [d4, ← hl, List.take_left, str_data]
  have hD : firstD (enc (t, d) ++ r) = d := by
    unfold firstD
    rw [d8, e4, show 8 + d.length - 8 = d.length by omega]; exact List.take_left
  refine ⟨?_, hT, hD, ?_⟩
  · unfold firstN
    rw [if_neg (by omega), e4, if_neg (by omega), hT, show 8 + d.length - 8 = d.length by omega, if_pos (show right t d.length = true from h)]
  · show List.drop (8 + d.length) _ = r
    rw [← List.drop_drop, d8]; exact List.drop_left
theorem file_behind : ∀ (L : List Box) (_ : L.all rightB = true) (T : List UInt8), boxes (file L ++ T) = L ++ boxes T ∧ even (file L ++ T) = even T
  | [], _, T => ⟨rfl, rfl⟩
  | x :: L, h, T => by
    simp at h
    obtain ⟨e1, e2, e3, e4⟩ := first_enc h.1 (file L ++ T)
    have ih := file_behind L (by simpa using h.2) T
    have hne : firstN (enc x ++ (file L ++ T)) ≠ 0 := by rw [e1]; omega
    show boxes ((enc x ++ file L) ++ T) = _ ∧ even ((enc x ++ file L) ++ T) = _
    rw [List.append_assoc]
    refine ⟨?_, ?_⟩
    · rw [boxes_yes hne, e1, e2, e3, e4, ih.1]; rfl
    · rw [even_yes hne, e1, e4, ih.2]
theorem boxes_file {L : List Box} (h : L.all rightB = true) : boxes (file L) = L ∧ even (file L) = true := by
  have := file_behind L h []
  simpa [boxes_no, firstN_small, even_nil] using this
theorem enc_first {l : List UInt8} (h : firstN l ≠ 0) : enc (firstT l, firstD l) = l.take (firstN l) ∧ rightB (firstT l, firstD l) = true := by
  obtain ⟨e, e8, e9, e10, hr⟩ := firstN_ge h
  have hD : (firstD l).length = of4 l - 8 := by unfold firstD; rw [List.length_take, List.length_drop]; omega
  refine ⟨?_, by unfold rightB; rw [hD]; exact hr⟩
  unfold enc
  rw [show (firstT l, firstD l).2 = firstD l from rfl, hD, show 8 + (of4 l - 8) = of4 l by omega, four_of4 l (by omega), e]
  have e2 : (firstT l, firstD l).1.data.toList = (l.drop 4).take 4 := rfl
  rw [e2]
  unfold firstD
  have s1 : l.take (of4 l) = l.take 8 ++ (l.drop 8).take (of4 l - 8) := by
    rw [← List.take_add]; congr 1; omega
  have s2 : l.take 8 = l.take 4 ++ (l.drop 4).take 4 := by rw [← List.take_add]
  rw [s1, s2]
theorem file_boxes : ∀ (n : Nat) (l : List UInt8), l.length ≤ n → (boxes l).all rightB = true ∧ (even l = true → file (boxes l) = l)
  | 0, l, h => by
    have : l = [] := List.eq_nil_of_length_eq_zero (by omega)
    subst this
    exact ⟨rfl, fun _ => rfl⟩
  | n + 1, l, h => by
    by_cases h0 : firstN l = 0
    · rw [boxes_no h0]
      refine ⟨rfl, fun he => ?_⟩
      by_cases hl : 0 < l.length
      · rw [even_no hl h0] at he; cases he
      · have h1 : l = [] := List.eq_nil_of_length_eq_zero (by omega)
        rw [h1]; rfl
    · obtain ⟨e, e8, e9, e10, hr⟩ := firstN_ge h0
      obtain ⟨f1, f2⟩ := enc_first h0
      have ih := file_boxes n (l.drop (firstN l)) (by rw [List.length_drop]; omega)
      rw [boxes_yes h0, even_yes h0]
      refine ⟨by simp only [List.all_cons, f2, Bool.true_and]; exact ih.1, fun he => ?_⟩
      show enc _ ++ file _ = l
      rw [f1, ih.2 he, List.take_append_drop]
theorem boxes_right (l : List UInt8) : (boxes l).all rightB = true := (file_boxes _ l (Nat.le_refl _)).1
theorem file_even {l : List UInt8} (h : even l = true) : file (boxes l) = l := (file_boxes _ l (Nat.le_refl _)).2 h
theorem even_less {L : List Box} (h : L.all rightB = true) {m : List UInt8} {b : UInt8} (e : file L = m ++ [b]) : even m = false := by
  cases hm : even m
  · rfl
  · have h1 := file_even hm
    have h2 := (file_behind (boxes m) (boxes_right m) [b]).2
    rw [h1, ← e, (boxes_file h).2] at h2
    rw [even_no (by simp) (firstN_small (by simp))] at h2
    cases h2
theorem even_more {L : List Box} (h : L.all rightB = true) (n : Nat) (hn : n < 8) : even (file L ++ List.replicate n 0) = decide (n = 0) := by
  rw [(file_behind L h _).2]
  cases n with
  | zero => rfl
  | succ n => rw [even_no (by simp) (firstN_small (by simp; omega))]; rfl
theorem file_append : ∀ (a b : List Box), file (a ++ b) = file a ++ file b
  | [], b => rfl
  | x :: a, b => by show enc x ++ file (a ++ b) = (enc x ++ file a) ++ file b; rw [file_append a b, List.append_assoc]
theorem length_enc {x : Box} (h : rightB x = true) : (enc x).length = 8 + x.2.length := by
  obtain ⟨h4, _⟩ := right_of h
  simp [enc, length_four, h4]
  omega
theorem length_file : ∀ (L : List Box) (_ : L.all rightB = true), (file L).length = sizes L
  | [], _ => rfl
  | x :: L, h => by
    simp at h
    show (enc x ++ file L).length = 8 + x.2.length + sizes L
    rw [List.length_append, length_enc h.1, length_file L (by simpa using h.2)]
theorem sizes_append : ∀ (a b : List Box), sizes (a ++ b) = sizes a + sizes b
  | [], b => by simp [sizes]
  | x :: a, b => by
    rw [List.cons_append]
    show 8 + x.2.length + sizes (a ++ b) = 8 + x.2.length + sizes a + sizes b
    rw [sizes_append a b]; omega
theorem find_append : ∀ (a b : List Box) (k : ByteArray), find (a ++ b) k = if (find a k).2 = true then find a k else find b k
  | [], b, k => rfl
  | x :: a, b, k => by
    rw [List.cons_append]
    rw [show find (x :: (a ++ b)) k = if x.1 = k then (x.2, true) else find (a ++ b) k from rfl, show find (x :: a) k = if x.1 = k then (x.2, true) else find a k from rfl]
    by_cases h : x.1 = k
    · rw [if_pos h, if_pos h]; rfl
    · rw [if_neg h, if_neg h]; exact find_append a b k
end Bx
