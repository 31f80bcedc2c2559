/- Acts played: the bits that they leave; what is got back of them. Plain; no conditions. -/
import Derived.Test.YtapfapggepagmaaBitsRAny
namespace Go.Proofs.Ytapfapggepagmaa
open Go.RowKit Kin

/-- an act that was done: a number that was put, or an alignment -/
def DoneRow (row : List Value) : Prop := (∃ n v : Nat, row = [.int .i64 1, .int .i64 (n : Int), .int .u64 (v : Int)] ∧ n ≤ 64 ∧ v < 2 ^ n) ∨ ∃ n v : Int, row = [.int .i64 2, .int .i64 n, .int .u64 v]
/-- the bits behind an act -/
def actB (B : List Bool) : List Value → List Bool
  | [.int _ k, .int _ n, .int _ v] => if k = 2 then Bit.fill B else B ++ Bit.digits v.toNat n.toNat
  | _ => B
def play (rows : List (List Value)) : List Bool := rows.foldl actB []
theorem play_nil : play [] = [] := rfl
theorem play_snoc (rows : List (List Value)) (r : List Value) : play (rows ++ [r]) = actB (play rows) r := by simp [play]
theorem actB_put (B : List Bool) (n v : Nat) : actB B [.int .i64 1, .int .i64 (n : Int), .int .u64 (v : Int)] = B ++ Bit.digits v n := by simp [actB]
theorem actB_fill (B : List Bool) (n v : Int) : actB B [.int .i64 2, .int .i64 n, .int .u64 v] = Bit.fill B := by simp [actB]
theorem actB_pre (B : List Bool) (r : List Value) : B <+: actB B r := by
  unfold actB
  split
  · split
    · exact List.prefix_append _ _
    · exact List.prefix_append _ _
  · exact List.prefix_rfl
theorem play_pre (rows more : List (List Value)) : play rows <+: play (rows ++ more) := by
  unfold play
  rw [List.foldl_append]
  generalize rows.foldl actB [] = B
  induction more generalizing B with
  | nil => exact List.prefix_rfl
  | cons r more ih => exact (actB_pre B r).trans (ih _)
theorem play_step (rows : List (List Value)) (j : Nat) (r : List Value) (h : rows[j]? = some r) : play (rows.take (j + 1)) = actB (play (rows.take j)) r := by
  rw [List.take_add_one, h, Option.toList_some, play_snoc]
theorem play_take (rows : List (List Value)) (j : Nat) : play (rows.take j) <+: play rows := by
  have := play_pre (rows.take j) (rows.drop j)
  rwa [List.take_append_drop] at this

theorem get_of_pre {B C : List Bool} {n v : Nat} (h : B ++ Bit.digits v n <+: C) (hv : v < 2 ^ n) : Bit.get (Bit.pack C) B.length n = v := by
  obtain ⟨D, rfl⟩ := h
  rw [Bit.get_pack _ _ _ (by rw [List.length_append, List.length_append, Bit.length_digits]; omega), List.append_assoc, List.drop_left, List.take_left' (by rw [Bit.length_digits]), Bit.num_digits, Nat.mod_eq_of_lt hv]
theorem row_pack_get (C : List Bool) (i : Nat) : (Bit.row (Bit.pack C)).getD i false = C.getD i false := by
  by_cases h : i < 8 * (Bit.pack C).length
  · rw [List.getD, Bit.row_at _ h, Option.getD_some, Bit.rbit_pack]
  · rw [List.getD, List.getElem?_eq_none (by rw [Bit.length_row]; omega), List.getD, List.getElem?_eq_none]
    rw [Bit.length_pack] at h; omega
theorem fill_get (B : List Bool) (i : Nat) (h1 : B.length ≤ i) : (Bit.fill B).getD i false = false := by
  unfold Bit.fill
  rw [List.getD, List.getElem?_append_right h1, List.getElem?_replicate]
  split <;> rfl
theorem restB_fill {B C : List Bool} (h : Bit.fill B <+: C) : Bit.restB (Bit.row (Bit.pack C)) B.length = true := by
  refine restB_of fun i h1 h2 => ?_
  rw [row_pack_get]
  obtain ⟨D, rfl⟩ := h
  have := fill_get B i h1
  rw [List.getD, List.getElem?_append_left (by rw [Bit.length_fill]; exact h2)]
  exact this
theorem restB_end (C : List Bool) : Bit.restB (Bit.row (Bit.pack C)) C.length = true := by
  refine restB_of fun i h1 _ => ?_
  rw [row_pack_get, List.getD, List.getElem?_eq_none h1]; rfl
end Go.Proofs.Ytapfapggepagmaa
