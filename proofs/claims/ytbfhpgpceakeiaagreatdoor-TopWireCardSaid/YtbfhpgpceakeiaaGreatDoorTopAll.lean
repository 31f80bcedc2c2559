/- Many facts of a world as one, carried over at once. Over any program; no conditions. -/
import Derived.Test.YtbfhpgpceakeiaaGreatDoorTopRow
import Derived.MapKept
namespace Kin
open Go Go.RowKit

/-- a fact of a world that speaks of some blocks alone -/
structure Fact where
  foot : List Nat
  say : World → Prop
  good : ∀ w w', (∀ k ∈ foot, w'.heap[k]? = w.heap[k]?) → say w → say w'
  lt : ∀ w, say w → ∀ k ∈ foot, k < w.heap.size
abbrev Fact.blk (g : Nat) (t : TypeId) (cs : Array Value) : Fact :=
  ⟨[g], fun w => Blk w g t cs, fun w w' h hb => (h g (List.mem_singleton.2 rfl)).trans hb, fun w hb k hk => by rw [List.mem_singleton.1 hk]; exact hb.lt⟩
abbrev Fact.row (g : Nat) (t : TypeId) (xs : List Value) : Fact :=
  ⟨[g], fun w => RowV w g t xs, fun w w' h hb => by obtain ⟨cur, h1, h2⟩ := hb; exact ⟨cur, (h g (List.mem_singleton.2 rfl)).trans h1, h2⟩, fun w hb k hk => by rw [List.mem_singleton.1 hk]; exact hb.lt⟩
/-- a map as it lies there -/
def MapIs (w : World) (g : Nat) (es : Array MapEntry) (n : Nat) : Prop := w.heap[g]? = some (.map es n)
theorem MapIs.lt {w : World} {g : Nat} {es : Array MapEntry} {n : Nat} (h : MapIs w g es n) : g < w.heap.size := (Array.getElem?_eq_some_iff.1 h).1
abbrev Fact.map (g : Nat) (es : Array MapEntry) (n : Nat) : Fact :=
  ⟨[g], fun w => MapIs w g es n, fun w w' h hb => (h g (List.mem_singleton.2 rfl)).trans hb, fun w hb k hk => by rw [List.mem_singleton.1 hk]; exact hb.lt⟩
def All (w : World) : List Fact → Prop
  | [] => True
  | f :: L => f.say w ∧ All w L
def foots : List Fact → List Nat
  | [] => []
  | f :: L => f.foot ++ foots L
theorem All.keep {w w' : World} : ∀ {L : List Fact}, All w L → (∀ k ∈ foots L, w'.heap[k]? = w.heap[k]?) → All w' L
  | [], _, _ => trivial
  | f :: _, h, hk => ⟨f.good w w' (fun k m => hk k (List.mem_append_left _ m)) h.1, All.keep h.2 (fun k m => hk k (List.mem_append_right _ m))⟩
theorem All.lt {w : World} : ∀ {L : List Fact}, All w L → ∀ k ∈ foots L, k < w.heap.size
  | f :: _, h, k, hk => by
    rcases List.mem_append.1 hk with m | m
    · exact f.lt w h.1 k m
    · exact All.lt h.2 k m
theorem All.next {w w' : World} {L : List Fact} (h : All w L) (hb : Below w.heap.size w w') : All w' L := h.keep fun k m => hb.block k (h.lt k m)
theorem All.chg {S : Nat → Prop} {w w' : World} {L : List Fact} (h : All w L) (hc : Chg S w w') (hn : ∀ k ∈ foots L, ¬ S k) : All w' L := h.keep fun k m => hc.block k (h.lt k m) (hn k m)
theorem All.alloc {w : World} {L : List Fact} (h : All w L) (o : Obj) : All (w.alloc o) L := h.next ((Below.refl _ _).alloc (Nat.le_refl _) o)
theorem All.drew {w : World} {L : List Fact} (h : All w L) : All w.drew L := h.keep fun _ _ => rfl
theorem All.drewN {w : World} {L : List Fact} (h : All w L) (n : Nat) : All (w.drewN n) L := h.keep fun _ _ => rfl
theorem All.cons {w : World} {f : Fact} {L : List Fact} (h1 : f.say w) (h : All w L) : All w (f :: L) := ⟨h1, h⟩
theorem All.app {w : World} : ∀ {L M : List Fact}, All w L → All w M → All w (L ++ M)
  | [], _, _, h => h
  | _ :: _, _, h, k => ⟨h.1, All.app h.2 k⟩
/-- one block's fact turned, the others kept -/
theorem not_mem_foots {g : Nat} {L : List Fact} (h : (foots L).all (fun k => decide (k ≠ g)) = true) : ∀ k ∈ foots L, ¬ k = g := fun k m e => by
  have := List.all_eq_true.1 h k m
  simp [e] at this
end Kin
