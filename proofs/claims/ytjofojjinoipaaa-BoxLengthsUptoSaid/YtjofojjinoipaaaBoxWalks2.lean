/- Four bytes of a number and back, a copy of bytes, and whether boxes are such as are gone through, each by its contract. Conditions: a slice's length is a Go length. -/
import Derived.Test.YtjofojjinoipaaaBoxWalks
namespace Go.Proofs.Ytjofojjinoipaaa
open Go.RowKit Kin

set_option maxRecDepth 100000 in
set_option maxHeartbeats 1000000 in
theorem four_calls (k : Nat) (w : World) (hm : k ≤ 2000000) :
    Calls Try.prog 19 #[.int .i64 (k : Int)] w (RetBytes w (Bx.four k)) := by
  have HC : Hid (#[Value.int .u8 ((k : Int) / 16777216 % 256), Value.int .u8 ((k : Int) / 65536 % 256), Value.int .u8 ((k : Int) / 256 % 256), Value.int .u8 ((k : Int) % 256)].toList = B8 (Bx.four k)) := by
    have u := Bx.u8m
    simp [B8, Bx.four, Hid]
  go_enter Try.func19, Try.ntmps19
  go_wp2
  go_ret
  exact ⟨_, _, _, rfl, Own8.new w _ 5 4 _ rfl HC.out (by decide), by intro g hg; simp [blkOf] at hg; omega, (Below.refl _ _).alloc (Nat.le_refl _) _⟩

set_option maxRecDepth 100000 in
set_option maxHeartbeats 1000000 in
theorem clone_calls (A : Option Addr) (n c : Nat) (l : List UInt8) (w : World) (hn : n = l.length) (hm : n ≤ 140737488355328) {B : Nat} (hA0 : Byt w B A l) :
    Calls Try.prog 22 #[.slice A n c] w (RetBytes w l) := by
  have HN := hide hn
  have hA := hA0.here
  clear hn hA0
  have heq : ∀ w', Sem.run Try.prog (binOp .eql 23 (.slice A n c) (.slice none 0 0)) w' = .ok (.bool A.isNone) w' := fun w' => by
    have := run_equal_slice_nil (P := Try.prog) w' 23 5 A n c Try.underlying23
    simp [binOp, this]
  rcases A with _ | ad
  · have hl : l = [] := by
      rcases l with _ | ⟨b, l⟩
      · rfl
      · obtain ⟨_, _, h, _⟩ := hA (by simp)
        cases h
    subst hl
    go_enter Try.func22, Try.ntmps22
    go_wp2
    go_ret
    exact ⟨_, _, _, rfl, Own8.nil _ _, by simp [blkOf], Below.refl _ _⟩
  · go_enter Try.func22, Try.ntmps22
    go_wp2_with (at_builtin; refine wpList_append8 (by rfl) (.tmp 5) (.tmp 6) 23 5 (by rfl) bytesT _ _ _ [] (by rfl) (Own8.new w #[] 5 0 [] rfl rfl (by decide)) _ _ _ _ l (by rfl) (hA.below ((Below.refl _ _).alloc (Nat.le_refl _) _)) HN.out (by omega) ?_; intro A1 c1 w1 own1 grow1 at1; simp only [Nat.zero_add, List.nil_append] at own1)
    have b1 : Below w.heap.size w w1 := ((Below.refl w.heap.size w).alloc (Nat.le_refl _) _).grown grow1 (by simp) (by intro g hg; simp [blkOf] at hg; omega)
    go_wp2
    go_ret
    refine ⟨_, _, _, rfl, own1, ?_, b1⟩
    intro g hg
    rcases at1 with e | e
    · rw [hg] at e; simp [blkOf] at e; omega
    · rw [hg] at e; simp at e; omega
end Go.Proofs.Ytjofojjinoipaaa
