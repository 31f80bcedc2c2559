/- The request, and the response, of bytes, by the contracts of the program's two parsers. Conditions: at most 2000000 bytes. -/
import Derived.Test.YtijcollcncjdoaaWireParse
namespace Wi
open Kin
/-- parse's error -/
def paE (b : List UInt8) (kind m : Nat) : Int := if b.length < 4 then 201 else if ¬ Crc.sum (ahead b) = told b then 172 else if paOk (ahead b) kind m = true then 0 else 201
def qok (b : List UInt8) : Bool := rq (rdV (ahead b) 1) (str (tail (ahead b) 5)) (rdV (ahead b) 2) ((rdV (ahead b) 3 : Int) - 1)
def pqE (b : List UInt8) : Int := if paE b 0 5 = 0 then (if qok b = true then 0 else 201) else paE b 0 5
def pqI (b : List UInt8) : Int := if pqE b = 0 then (rdV (ahead b) 1 : Int) else 0
def pqP (b : List UInt8) : ByteArray := if pqE b = 0 then str (tail (ahead b) 5) else ⟨#[]⟩
def pqF (b : List UInt8) : Int := if pqE b = 0 then (rdV (ahead b) 2 : Int) else 0
def pqT (b : List UInt8) : Int := if pqE b = 0 then (rdV (ahead b) 3 : Int) - 1 else 0
def rok (b : List UInt8) : Bool := rr (rdV (ahead b) 1) (rdV (ahead b) 2) (rdV (ahead b) 3) (rdV (ahead b) 4) (tail (ahead b) 6).length
def prE (b : List UInt8) : Int := if paE b 1 6 = 0 then (if rok b = true then 0 else 201) else paE b 1 6
def prI (b : List UInt8) : Int := if prE b = 0 then (rdV (ahead b) 1 : Int) else 0
def prS (b : List UInt8) : Int := if prE b = 0 then (rdV (ahead b) 2 : Int) else 0
def prF (b : List UInt8) : Int := if prE b = 0 then (rdV (ahead b) 3 : Int) else 0
def prZ (b : List UInt8) : Int := if prE b = 0 then (rdV (ahead b) 4 : Int) else 0
def prB (b : List UInt8) : List UInt8 := if prE b = 0 then tail (ahead b) 6 else []
end Wi
namespace Go.Proofs.Ytijcollcncjdoaa
open Go.RowKit Kin

/-- parse's answer in two cases -/
theorem par_two {w w' : World} {S : Nat → World → Prop} {b : List UInt8} {kind m : Nat} {e : Ending} (h : RetPar w S b kind m e w') :
    (Wi.paE b kind (m + 2) = 0 ∧ ∃ A n c, e = .returned (.tuple #[.slice A n c, .int .i64 0]) ∧ Own8 w' 5 A n c (Wi.tail (Wi.ahead b) (m + 2)) ∧ (∀ g, blkOf A = some g → w.heap.size ≤ g) ∧ S m w') ∨
    (Wi.paE b kind (m + 2) ≠ 0 ∧ e = .returned (.tuple #[.slice none 0 0, .int .i64 (Wi.paE b kind (m + 2))]) ∧ ∃ k, S k w') := by
  obtain ⟨_, h⟩ := h
  rcases h with ⟨h1, h2, h3, A, n, c, rfl, h4⟩ | ⟨h1, h2, h3, rfl, h4⟩ | ⟨h1, h2, rfl, h4⟩ | ⟨h1, rfl, h4⟩
  · have e0 : Wi.paE b kind (m + 2) = 0 := by unfold Wi.paE; rw [if_neg (by omega), if_neg (by simpa using h2), if_pos h3]
    exact .inl ⟨e0, A, n, c, rfl, h4⟩
  · have e0 : Wi.paE b kind (m + 2) = 201 := by unfold Wi.paE; rw [if_neg (by omega), if_neg (by simpa using h2), if_neg (by rw [h3]; decide)]
    rw [e0]
    exact .inr ⟨by decide, rfl, h4⟩
  · have e0 : Wi.paE b kind (m + 2) = 172 := by unfold Wi.paE; rw [if_neg (by omega), if_pos h2]
    rw [e0]
    exact .inr ⟨by decide, rfl, h4⟩
  · have e0 : Wi.paE b kind (m + 2) = 201 := by unfold Wi.paE; rw [if_pos h1]
    rw [e0]
    exact .inr ⟨by decide, rfl, h4⟩

def sv (k i : Nat) (v : Nat) : Int := if i < k then (v : Int) else 0
abbrev zreq : Array Value := #[.int .i64 0, .string ⟨#[]⟩, .int .i64 0, .int .i64 0]
abbrev zres : Array Value := #[.int .i64 0, .int .i64 0, .int .i64 0, .int .i64 0, .slice none 0 0]
/-- what lies in a request's cells behind k stores -/
def SQ (w0 : World) (g0 gq : Nat) (l : List UInt8) (k : Nat) (W : World) : Prop :=
  Blk W gq 23 #[.int .i64 (sv k 0 (Wi.rdV l 1)), .string ⟨#[]⟩, .int .i64 (sv k 1 (Wi.rdV l 2)), .int .i64 (sv k 2 (Wi.rdV l 3))] ∧ Blk W g0 23 zreq ∧ Below w0.heap.size w0 W
/-- likewise a response's, and the status beside it -/
def SR (w0 : World) (g0 gq gs : Nat) (l : List UInt8) (k : Nat) (W : World) : Prop :=
  Blk W gq 27 #[.int .i64 (sv k 0 (Wi.rdV l 1)), .int .i64 0, .int .i64 (sv k 2 (Wi.rdV l 3)), .int .i64 (sv k 3 (Wi.rdV l 4)), .slice none 0 0] ∧ Blk W gs 3 #[.int .i64 (sv k 1 (Wi.rdV l 2))] ∧ Blk W g0 27 zres ∧ Below w0.heap.size w0 W
theorem SQ.stable {w0 w : World} {g0 gq : Nat} {l : List UInt8} (h0 : w0.heap.size ≤ w.heap.size) (hg0 : g0 < w.heap.size) (hgq : gq < w.heap.size) : ∀ k W W', SQ w0 g0 gq l k W → Chg (fun q => w.heap.size ≤ q) W W' → SQ w0 g0 gq l k W' := by
  rintro k W W' ⟨h1, h2, h3⟩ hc
  exact ⟨hc.blk h1 (by show ¬ _ ≤ _; omega), hc.blk h2 (by show ¬ _ ≤ _; omega), h3.trans (hc.below (fun i (hi : _ ≤ i) => by omega) h3.size)⟩
theorem SR.stable {w0 w : World} {g0 gq gs : Nat} {l : List UInt8} (h0 : w0.heap.size ≤ w.heap.size) (hg0 : g0 < w.heap.size) (hgq : gq < w.heap.size) (hgs : gs < w.heap.size) : ∀ k W W', SR w0 g0 gq gs l k W → Chg (fun q => w.heap.size ≤ q) W W' → SR w0 g0 gq gs l k W' := by
  rintro k W W' ⟨h1, h4, h2, h3⟩ hc
  exact ⟨hc.blk h1 (by show ¬ _ ≤ _; omega), hc.blk h4 (by show ¬ _ ≤ _; omega), hc.blk h2 (by show ¬ _ ≤ _; omega), h3.trans (hc.below (fun i (hi : _ ≤ i) => by omega) h3.size)⟩
theorem SQ.store {w0 : World} {g0 gq : Nat} {l : List UInt8} (hq : w0.heap.size ≤ gq) (hne : g0 ≠ gq) : ∀ k (_hk : k < [(gq, 0), (gq, 2), (gq, 3)].length) W, SQ w0 g0 gq l k W → (∃ x : Int, W.cell? ⟨([(gq, 0), (gq, 2), (gq, 3)][k]).1, ([(gq, 0), (gq, 2), (gq, 3)][k]).2, none⟩ = some (.int .i64 x)) ∧ W.frozen? ⟨([(gq, 0), (gq, 2), (gq, 3)][k]).1, ([(gq, 0), (gq, 2), (gq, 3)][k]).2, none⟩ = false ∧ SQ w0 g0 gq l (k + 1) (W.setCell ⟨([(gq, 0), (gq, 2), (gq, 3)][k]).1, ([(gq, 0), (gq, 2), (gq, 3)][k]).2, none⟩ (.int .i64 (Wi.rdV l (k + 1) : Int))) := by
  rintro k hk W ⟨h1, h2, h3⟩
  have hk3 : k = 0 ∨ k = 1 ∨ k = 2 := by simp at hk; omega
  rcases hk3 with rfl | rfl | rfl
  · exact ⟨⟨_, h1.cell 0⟩, h1.frozen 0, h1.set_ 0 _, h2.far hne _, h3.setCell hq _⟩
  · exact ⟨⟨_, h1.cell 2⟩, h1.frozen 2, h1.set_ 2 _, h2.far hne _, h3.setCell hq _⟩
  · exact ⟨⟨_, h1.cell 3⟩, h1.frozen 3, h1.set_ 3 _, h2.far hne _, h3.setCell hq _⟩
theorem SR.store {w0 : World} {g0 gq gs : Nat} {l : List UInt8} (hq : w0.heap.size ≤ gq) (hs : w0.heap.size ≤ gs) (hne : g0 ≠ gq) (hns : g0 ≠ gs) (hqs : gq ≠ gs) : ∀ k (_hk : k < [(gq, 0), (gs, 0), (gq, 2), (gq, 3)].length) W, SR w0 g0 gq gs l k W → (∃ x : Int, W.cell? ⟨([(gq, 0), (gs, 0), (gq, 2), (gq, 3)][k]).1, ([(gq, 0), (gs, 0), (gq, 2), (gq, 3)][k]).2, none⟩ = some (.int .i64 x)) ∧ W.frozen? ⟨([(gq, 0), (gs, 0), (gq, 2), (gq, 3)][k]).1, ([(gq, 0), (gs, 0), (gq, 2), (gq, 3)][k]).2, none⟩ = false ∧ SR w0 g0 gq gs l (k + 1) (W.setCell ⟨([(gq, 0), (gs, 0), (gq, 2), (gq, 3)][k]).1, ([(gq, 0), (gs, 0), (gq, 2), (gq, 3)][k]).2, none⟩ (.int .i64 (Wi.rdV l (k + 1) : Int))) := by
  rintro k hk W ⟨h1, h4, h2, h3⟩
  have hk3 : k = 0 ∨ k = 1 ∨ k = 2 ∨ k = 3 := by simp at hk; omega
  rcases hk3 with rfl | rfl | rfl | rfl
  · exact ⟨⟨_, h1.cell 0⟩, h1.frozen 0, h1.set_ 0 _, h4.far (Ne.symm hqs) _, h2.far hne _, h3.setCell hq _⟩
  · exact ⟨⟨_, h4.cell 0⟩, h4.frozen 0, h1.far hqs _, h4.set_ 0 _, h2.far hns _, h3.setCell hs _⟩
  · exact ⟨⟨_, h1.cell 2⟩, h1.frozen 2, h1.set_ 2 _, h4.far (Ne.symm hqs) _, h2.far hne _, h3.setCell hq _⟩
  · exact ⟨⟨_, h1.cell 3⟩, h1.frozen 3, h1.set_ 3 _, h4.far (Ne.symm hqs) _, h2.far hne _, h3.setCell hq _⟩
theorem ptrs_new (w : World) (ps : List (Nat × Nat)) (cs : Array Value) (e : TypeId) (g : Nat) (hg : w.heap.size = g) (h : cs.toList = (addrs ps).map fun p => .pointer (some p)) : Recs (w.alloc (.cells cs e)) (w.alloc (.cells cs e)).heap.size 1 (some ⟨g, 0, none⟩) (ptrRows (addrs ps)) := by
  subst hg
  intro _
  refine ⟨w.heap.size, 0, rfl, by simp, fun i row hi => ?_⟩
  rw [ptrRows, List.getElem?_map, Option.map_eq_some_iff] at hi
  obtain ⟨p, hp, rfl⟩ := hi
  refine ⟨rfl, fun j v hj => ?_⟩
  rcases j with _ | j
  · simp at hj
    subst hj
    rw [cell_of_row _ _ _ cs e (0, 0) (heap_alloc_new w _), Nat.zero_add, Nat.mul_one, Nat.add_zero]
    have : cs.toList[i]? = some (.pointer (some p)) := by rw [h, List.getElem?_map, hp]; exact rfl
    simpa using this
  · simp at hj

theorem set4 {w V : World} {g : Nat} {t : TypeId} {a b c d : Value} (h : Blk V g t #[a, b, c, d]) (hb : Below w.heap.size w V) (hg : w.heap.size ≤ g) (x y z u : Value) :
    Blk ((((V.setCell ⟨g, 0, none⟩ x).setCell ⟨g, 1, none⟩ y).setCell ⟨g, 2, none⟩ z).setCell ⟨g, 3, none⟩ u) g t #[x, y, z, u] ∧ Below w.heap.size w ((((V.setCell ⟨g, 0, none⟩ x).setCell ⟨g, 1, none⟩ y).setCell ⟨g, 2, none⟩ z).setCell ⟨g, 3, none⟩ u) :=
  ⟨by simpa using (((h.set_ 0 x).set_ 1 y).set_ 2 z).set_ 3 u, (((hb.setCell (p := ⟨g, 0, none⟩) hg x).setCell (p := ⟨g, 1, none⟩) hg y).setCell (p := ⟨g, 2, none⟩) hg z).setCell (p := ⟨g, 3, none⟩) hg u⟩
theorem set5 {w V : World} {g : Nat} {t : TypeId} {a b c d e : Value} (h : Blk V g t #[a, b, c, d, e]) (hb : Below w.heap.size w V) (hg : w.heap.size ≤ g) (x y z u v : Value) :
    Blk (((((V.setCell ⟨g, 0, none⟩ x).setCell ⟨g, 1, none⟩ y).setCell ⟨g, 2, none⟩ z).setCell ⟨g, 3, none⟩ u).setCell ⟨g, 4, none⟩ v) g t #[x, y, z, u, v] ∧ Below w.heap.size w (((((V.setCell ⟨g, 0, none⟩ x).setCell ⟨g, 1, none⟩ y).setCell ⟨g, 2, none⟩ z).setCell ⟨g, 3, none⟩ u).setCell ⟨g, 4, none⟩ v) :=
  ⟨by simpa using ((((h.set_ 0 x).set_ 1 y).set_ 2 z).set_ 3 u).set_ 4 v, ((((hb.setCell (p := ⟨g, 0, none⟩) hg x).setCell (p := ⟨g, 1, none⟩) hg y).setCell (p := ⟨g, 2, none⟩) hg z).setCell (p := ⟨g, 3, none⟩) hg u).setCell (p := ⟨g, 4, none⟩) hg v⟩
theorem rdV_lt (l : List UInt8) (i : Nat) : Wi.rdV l i < 9223372036854775808 := Gol.gV_lt _

def RetQ (w : World) (b : List UInt8) (e : Ending) (w' : World) : Prop :=
  e = .returned (.tuple #[reqV (Wi.pqI b) (Wi.pqP b) (Wi.pqF b) (Wi.pqT b), .int .i64 (Wi.pqE b)]) ∧ Below w.heap.size w w'
theorem pq_bad {b : List UInt8} (h : Wi.pqE b ≠ 0) : reqV (Wi.pqI b) (Wi.pqP b) (Wi.pqF b) (Wi.pqT b) = .agg zreq := by
  unfold Wi.pqI Wi.pqP Wi.pqF Wi.pqT
  rw [if_neg h, if_neg h, if_neg h, if_neg h]
theorem pq_good {b : List UInt8} (h : Wi.pqE b = 0) : reqV (Wi.pqI b) (Wi.pqP b) (Wi.pqF b) (Wi.pqT b) = reqV (Wi.rdV (Wi.ahead b) 1) (str (Wi.tail (Wi.ahead b) 5)) (Wi.rdV (Wi.ahead b) 2) ((Wi.rdV (Wi.ahead b) 3 : Int) - 1) := by
  unfold Wi.pqI Wi.pqP Wi.pqF Wi.pqT
  rw [if_pos h, if_pos h, if_pos h, if_pos h]

set_option maxRecDepth 100000 in
set_option maxHeartbeats 4000000 in
theorem prq_calls (A : Option Addr) (n c : Nat) (b : List UInt8) (w : World) (hn : n = b.length) (hc : n ≤ c) (hm : n ≤ 2000000) (hA : Byt w w.heap.size A b) :
    Calls Try.prog 16 #[.slice A n c] w (RetQ w b) := by
  have s1 : (w.alloc (.cells zreq 23)).heap.size = w.heap.size + 1 := World.size_alloc _ _
  have s2 : ((w.alloc (.cells zreq 23)).alloc (.cells zreq 23)).heap.size = w.heap.size + 1 + 1 := by rw [World.size_alloc, s1]
  have n1 := Blk.new w 23 zreq
  have n2 := Blk.new (w.alloc (.cells zreq 23)) 23 zreq
  rw [s1] at n2
  have r3 := ptrs_new ((w.alloc (.cells zreq 23)).alloc (.cells zreq 23)) [(w.heap.size + 1, 0), (w.heap.size + 1, 2), (w.heap.size + 1, 3)] #[.pointer (some ⟨w.heap.size + 1, 0, none⟩), .pointer (some ⟨w.heap.size + 1, 2, none⟩), .pointer (some ⟨w.heap.size + 1, 3, none⟩)] 51 _ s2 rfl
  have bA : Below w.heap.size w (((w.alloc (.cells zreq 23)).alloc (.cells zreq 23)).alloc (.cells #[.pointer (some ⟨w.heap.size + 1, 0, none⟩), .pointer (some ⟨w.heap.size + 1, 2, none⟩), .pointer (some ⟨w.heap.size + 1, 3, none⟩)] 51)) := (((Below.refl _ _).alloc (Nat.le_refl _) _).alloc (by rw [s1]; omega) _).alloc (by rw [s2]; omega) _
  have s3 : (((w.alloc (.cells zreq 23)).alloc (.cells zreq 23)).alloc (.cells #[.pointer (some ⟨w.heap.size + 1, 0, none⟩), .pointer (some ⟨w.heap.size + 1, 2, none⟩), .pointer (some ⟨w.heap.size + 1, 3, none⟩)] 51)).heap.size = w.heap.size + 1 + 1 + 1 := by rw [World.size_alloc, s2]
  have hS : SQ w w.heap.size (w.heap.size + 1) (Wi.ahead b) 0 (((w.alloc (.cells zreq 23)).alloc (.cells zreq 23)).alloc (.cells #[.pointer (some ⟨w.heap.size + 1, 0, none⟩), .pointer (some ⟨w.heap.size + 1, 2, none⟩), .pointer (some ⟨w.heap.size + 1, 3, none⟩)] 51)) := ⟨n2.alloc _, (n1.alloc _).alloc _, bA⟩
  have hst := SQ.stable (w0 := w) (w := (((w.alloc (.cells zreq 23)).alloc (.cells zreq 23)).alloc (.cells #[.pointer (some ⟨w.heap.size + 1, 0, none⟩), .pointer (some ⟨w.heap.size + 1, 2, none⟩), .pointer (some ⟨w.heap.size + 1, 3, none⟩)] 51))) (g0 := w.heap.size) (gq := w.heap.size + 1) (l := Wi.ahead b) (by omega) (by omega) (by omega)
  have hpa := parse_calls A n c b 0 (some ⟨w.heap.size + 1 + 1, 0, none⟩) 3 3 _ (SQ w w.heap.size (w.heap.size + 1) (Wi.ahead b)) _ hn hc hm ((hA.below bA).more (by omega)) (by omega) rfl (by omega) r3 hS hst (SQ.store (by omega) (by omega)) (by
    intro k hk
    have hk3 : k = 0 ∨ k = 1 ∨ k = 2 := by simp at hk; omega
    rcases hk3 with rfl | rfl | rfl
    · show w.heap.size + 1 < _; omega
    · show w.heap.size + 1 < _; omega
    · show w.heap.size + 1 < _; omega)
  have HN := hide hn
  clear hn r3 n1 n2 hst hS s1 s2 hA
  go_enter Try.func16, Try.ntmps16
  go_wp2_with fail
  refine hpa.mono ?_
  intro e w1 hr
  have hr := par_two hr
  clear hpa
  rcases hr with ⟨h0, A1, n1, c1, rfl, o1, g1, S1⟩ | ⟨h0, rfl, k, S1⟩
  · obtain ⟨q1, q0, bel1⟩ := S1
    have q1 : Blk w1 (w.heap.size + 1) 23 #[.int .i64 (Wi.rdV (Wi.ahead b) 1 : Int), .string ⟨#[]⟩, .int .i64 (Wi.rdV (Wi.ahead b) 2 : Int), .int .i64 (Wi.rdV (Wi.ahead b) 3 : Int)] := q1
    have l3 := rdV_lt (Wi.ahead b) 3
    have HE0 := hide h0
    have HQ0 : Hid (Wi.qok b = Wi.rq (Wi.rdV (Wi.ahead b) 1) (str (Wi.tail (Wi.ahead b) 5)) (Wi.rdV (Wi.ahead b) 2) ((Wi.rdV (Wi.ahead b) 3 : Int) - 1)) := rfl
    have HPG := hide (@pq_good b)
    have HPB := hide (@pq_bad b)
    have hgA : ∀ q, blkOf A1 = some q → w.heap.size + 1 < q := fun q hq => by have := g1 q hq; omega
    clear g1 h0 s3 bA
    generalize Wi.rdV (Wi.ahead b) 1 = v1 at *
    generalize Wi.rdV (Wi.ahead b) 2 = v2 at *
    generalize Wi.rdV (Wi.ahead b) 3 = v3 at *
    have c3 : w1.cell? ⟨w.heap.size + 1, 3, none⟩ = some (.int .i64 (v3 : Int)) := q1.cell 3
    have z3 := q1.frozen 3
    have qq := q1.set_ 3 (.int .i64 ((v3 : Int) - 1))
    have c1' : (w1.setCell ⟨w.heap.size + 1, 3, none⟩ (.int .i64 ((v3 : Int) - 1))).cell? ⟨w.heap.size + 1, 1, none⟩ = some (.string ⟨#[]⟩) := qq.cell 1
    have z1' := qq.frozen 1
    have o1' : Own8 (w1.setCell ⟨w.heap.size + 1, 3, none⟩ (.int .i64 ((v3 : Int) - 1))) 5 A1 n1 c1 (Wi.tail (Wi.ahead b) 5) := (chg_one w1 (w.heap.size + 1) 3 _).own o1 (fun q hq e => by have : q = _ := e; have := hgA q hq; omega)
    have hcv : Sem.run Try.prog (convert 25 9 (.slice A1 n1 c1)) (w1.setCell ⟨w.heap.size + 1, 3, none⟩ (.int .i64 ((v3 : Int) - 1))) = .ok (.string (str (Wi.tail (Wi.ahead b) 5))) (w1.setCell ⟨w.heap.size + 1, 3, none⟩ (.int .i64 ((v3 : Int) - 1))) := run_conv8 bytesT Try.underlying9 A1 n1 c1 _ o1'.byt o1'.1
    generalize str (Wi.tail (Wi.ahead b) 5) = T at *
    have q2 : Blk ((w1.setCell ⟨w.heap.size + 1, 3, none⟩ (.int .i64 ((v3 : Int) - 1))).setCell ⟨w.heap.size + 1, 1, none⟩ (.string T)) (w.heap.size + 1) 23 #[.int .i64 (v1 : Int), .string T, .int .i64 (v2 : Int), .int .i64 ((v3 : Int) - 1)] := by simpa using qq.set_ 1 (.string T)
    have q02 : Blk ((w1.setCell ⟨w.heap.size + 1, 3, none⟩ (.int .i64 ((v3 : Int) - 1))).setCell ⟨w.heap.size + 1, 1, none⟩ (.string T)) w.heap.size 23 zreq := (q0.far (by show _ ≠ _ + 1; omega) _).far (by show _ ≠ _ + 1; omega) _
    have bel2 : Below w.heap.size w ((w1.setCell ⟨w.heap.size + 1, 3, none⟩ (.int .i64 ((v3 : Int) - 1))).setCell ⟨w.heap.size + 1, 1, none⟩ (.string T)) := (bel1.setCell (p := ⟨w.heap.size + 1, 3, none⟩) (by show _ ≤ _ + 1; omega) _).setCell (p := ⟨w.heap.size + 1, 1, none⟩) (by show _ ≤ _ + 1; omega) _
    clear o1 o1' q1 q0 bel1 qq hgA
    have e0 : ((w1.setCell ⟨w.heap.size + 1, 3, none⟩ (.int .i64 ((v3 : Int) - 1))).setCell ⟨w.heap.size + 1, 1, none⟩ (.string T)).cell? ⟨w.heap.size + 1, 0, none⟩ = some (.int .i64 (v1 : Int)) := q2.cell 0
    have e1 : ((w1.setCell ⟨w.heap.size + 1, 3, none⟩ (.int .i64 ((v3 : Int) - 1))).setCell ⟨w.heap.size + 1, 1, none⟩ (.string T)).cell? ⟨w.heap.size + 1, 1, none⟩ = some (.string T) := q2.cell 1
    have e2 : ((w1.setCell ⟨w.heap.size + 1, 3, none⟩ (.int .i64 ((v3 : Int) - 1))).setCell ⟨w.heap.size + 1, 1, none⟩ (.string T)).cell? ⟨w.heap.size + 1, 2, none⟩ = some (.int .i64 (v2 : Int)) := q2.cell 2
    have e3 : ((w1.setCell ⟨w.heap.size + 1, 3, none⟩ (.int .i64 ((v3 : Int) - 1))).setCell ⟨w.heap.size + 1, 1, none⟩ (.string T)).cell? ⟨w.heap.size + 1, 3, none⟩ = some (.int .i64 ((v3 : Int) - 1)) := q2.cell 3
    have hrq := rq_calls v1 T v2 ((v3 : Int) - 1) ((w1.setCell ⟨w.heap.size + 1, 3, none⟩ (.int .i64 ((v3 : Int) - 1))).setCell ⟨w.heap.size + 1, 1, none⟩ (.string T))
    rw [← HQ0.out] at hrq
    go_wp2_with fail
    clear hcv z1' c1' z3 c3
    generalize (w1.setCell ⟨w.heap.size + 1, 3, none⟩ (.int .i64 ((v3 : Int) - 1))).setCell ⟨w.heap.size + 1, 1, none⟩ (.string T) = W2 at *
    refine hrq.mono ?_
    rintro e w3 ⟨rfl, b3⟩
    have q3 := q2.below b3 q2.lt
    have q03 := q02.below b3 q02.lt
    have bel3 := bnext bel2 b3
    have z0 := q03.frozen 0
    have z1 := q03.frozen 1
    have z2 := q03.frozen 2
    have z3 := q03.frozen 3
    have k0 : w3.cell? ⟨w.heap.size, 0, none⟩ = some (.int .i64 0) := q03.cell 0
    have k1 : w3.cell? ⟨w.heap.size, 1, none⟩ = some (.string ⟨#[]⟩) := q03.cell 1
    have k2 : w3.cell? ⟨w.heap.size, 2, none⟩ = some (.int .i64 0) := q03.cell 2
    have k3 : w3.cell? ⟨w.heap.size, 3, none⟩ = some (.int .i64 0) := q03.cell 3
    clear hrq e0 e1 e2 e3 q2 q02 b3 bel2
    cases hq : Wi.qok b
    · have HE : Hid (Wi.pqE b = 201) := by unfold Wi.pqE; rw [HE0.out, if_pos rfl, hq]; exact rfl
      have HV := HPB.out (by rw [HE.out]; decide)
      obtain ⟨qF, bF⟩ := set4 q03 bel3 (Nat.le_refl _) (.int .i64 0) (.string ⟨#[]⟩) (.int .i64 0) (.int .i64 0)
      go_wp2
      generalize ((((w3.setCell ⟨w.heap.size, 0, none⟩ (.int .i64 0)).setCell ⟨w.heap.size, 1, none⟩ (.string ⟨#[]⟩)).setCell ⟨w.heap.size, 2, none⟩ (.int .i64 0)).setCell ⟨w.heap.size, 3, none⟩ (.int .i64 0)) = F at *
      have y0 : F.cell? ⟨w.heap.size, 0, none⟩ = some (.int .i64 0) := qF.cell 0
      have y1 : F.cell? ⟨w.heap.size, 1, none⟩ = some (.string ⟨#[]⟩) := qF.cell 1
      have y2 : F.cell? ⟨w.heap.size, 2, none⟩ = some (.int .i64 0) := qF.cell 2
      have y3 : F.cell? ⟨w.heap.size, 3, none⟩ = some (.int .i64 0) := qF.cell 3
      refine bodyPost_ret (v := .tuple #[.agg zreq, .int .i64 201]) (by simp [results, Try.results16, go_sem, y0, y1, y2, y3]) rfl ?_
      exact ⟨by rw [HV, HE.out], bF⟩
    · have HE : Hid (Wi.pqE b = 0) := by unfold Wi.pqE; rw [HE0.out, if_pos rfl, hq]; exact rfl
      have HV := HPG.out HE.out
      have e0 : w3.cell? ⟨w.heap.size + 1, 0, none⟩ = some (.int .i64 (v1 : Int)) := q3.cell 0
      have e1 : w3.cell? ⟨w.heap.size + 1, 1, none⟩ = some (.string T) := q3.cell 1
      have e2 : w3.cell? ⟨w.heap.size + 1, 2, none⟩ = some (.int .i64 (v2 : Int)) := q3.cell 2
      have e3 : w3.cell? ⟨w.heap.size + 1, 3, none⟩ = some (.int .i64 ((v3 : Int) - 1)) := q3.cell 3
      obtain ⟨qF, bF⟩ := set4 q03 bel3 (Nat.le_refl _) (.int .i64 v1) (.string T) (.int .i64 v2) (.int .i64 ((v3 : Int) - 1))
      go_wp2
      generalize ((((w3.setCell ⟨w.heap.size, 0, none⟩ (.int .i64 v1)).setCell ⟨w.heap.size, 1, none⟩ (.string T)).setCell ⟨w.heap.size, 2, none⟩ (.int .i64 v2)).setCell ⟨w.heap.size, 3, none⟩ (.int .i64 ((v3 : Int) - 1))) = F at *
      have y0 : F.cell? ⟨w.heap.size, 0, none⟩ = some (.int .i64 v1) := qF.cell 0
      have y1 : F.cell? ⟨w.heap.size, 1, none⟩ = some (.string T) := qF.cell 1
      have y2 : F.cell? ⟨w.heap.size, 2, none⟩ = some (.int .i64 v2) := qF.cell 2
      have y3 : F.cell? ⟨w.heap.size, 3, none⟩ = some (.int .i64 ((v3 : Int) - 1)) := qF.cell 3
      refine bodyPost_ret (v := .tuple #[reqV v1 T v2 ((v3 : Int) - 1), .int .i64 0]) (by simp [results, Try.results16, go_sem, y0, y1, y2, y3]) rfl ?_
      exact ⟨by rw [HV, HE.out], bF⟩
  · obtain ⟨_, q0, bel1⟩ := S1
    have HE : Hid (Wi.pqE b = Wi.paE b 0 5) := if_neg h0
    have hE : Wi.pqE b ≠ 0 := by rw [HE.out]; exact h0
    have HV := hide (pq_bad hE)
    have en : (Wi.paE b 0 5 != 0) = true := by simpa using h0
    have z0 := q0.frozen 0
    have z1 := q0.frozen 1
    have z2 := q0.frozen 2
    have z3 := q0.frozen 3
    have k0 : w1.cell? ⟨w.heap.size, 0, none⟩ = some (.int .i64 0) := q0.cell 0
    have k1 : w1.cell? ⟨w.heap.size, 1, none⟩ = some (.string ⟨#[]⟩) := q0.cell 1
    have k2 : w1.cell? ⟨w.heap.size, 2, none⟩ = some (.int .i64 0) := q0.cell 2
    have k3 : w1.cell? ⟨w.heap.size, 3, none⟩ = some (.int .i64 0) := q0.cell 3
    clear h0 hE
    obtain ⟨qF, bF⟩ := set4 q0 bel1 (Nat.le_refl _) (.int .i64 0) (.string ⟨#[]⟩) (.int .i64 0) (.int .i64 0)
    go_wp2
    generalize ((((w1.setCell ⟨w.heap.size, 0, none⟩ (.int .i64 0)).setCell ⟨w.heap.size, 1, none⟩ (.string ⟨#[]⟩)).setCell ⟨w.heap.size, 2, none⟩ (.int .i64 0)).setCell ⟨w.heap.size, 3, none⟩ (.int .i64 0)) = F at *
    have y0 : F.cell? ⟨w.heap.size, 0, none⟩ = some (.int .i64 0) := qF.cell 0
    have y1 : F.cell? ⟨w.heap.size, 1, none⟩ = some (.string ⟨#[]⟩) := qF.cell 1
    have y2 : F.cell? ⟨w.heap.size, 2, none⟩ = some (.int .i64 0) := qF.cell 2
    have y3 : F.cell? ⟨w.heap.size, 3, none⟩ = some (.int .i64 0) := qF.cell 3
    refine bodyPost_ret (v := .tuple #[.agg zreq, .int .i64 (Wi.paE b 0 5)]) (by simp [results, Try.results16, go_sem, y0, y1, y2, y3]) rfl ?_
    exact ⟨by rw [HV.out, HE.out], bF⟩
def RetR (w : World) (b : List UInt8) (e : Ending) (w' : World) : Prop :=
  ∃ A n c, e = .returned (.tuple #[resV (Wi.prI b) (Wi.prS b) (Wi.prF b) (Wi.prZ b) A n c, .int .i64 (Wi.prE b)]) ∧ Own8 w' 5 A n c (Wi.prB b) ∧ (∀ g, blkOf A = some g → w.heap.size ≤ g) ∧ Below w.heap.size w w'
theorem pr_bad {b : List UInt8} (h : Wi.prE b ≠ 0) : resV (Wi.prI b) (Wi.prS b) (Wi.prF b) (Wi.prZ b) none 0 0 = .agg zres ∧ Wi.prB b = [] := by
  unfold Wi.prI Wi.prS Wi.prF Wi.prZ Wi.prB
  rw [if_neg h, if_neg h, if_neg h, if_neg h, if_neg h]
  exact ⟨rfl, rfl⟩
theorem pr_good {b : List UInt8} (h : Wi.prE b = 0) : (∀ A n c, resV (Wi.prI b) (Wi.prS b) (Wi.prF b) (Wi.prZ b) A n c = resV (Wi.rdV (Wi.ahead b) 1) (Wi.rdV (Wi.ahead b) 2) (Wi.rdV (Wi.ahead b) 3) (Wi.rdV (Wi.ahead b) 4) A n c) ∧ Wi.prB b = Wi.tail (Wi.ahead b) 6 := by
  unfold Wi.prI Wi.prS Wi.prF Wi.prZ Wi.prB
  rw [if_pos h, if_pos h, if_pos h, if_pos h, if_pos h]
  exact ⟨fun _ _ _ => rfl, rfl⟩

set_option maxRecDepth 100000 in
set_option maxHeartbeats 4000000 in
theorem prr_calls (A : Option Addr) (n c : Nat) (b : List UInt8) (w : World) (hn : n = b.length) (hc : n ≤ c) (hm : n ≤ 2000000) (hA : Byt w w.heap.size A b) :
    Calls Try.prog 18 #[.slice A n c] w (RetR w b) := by
  have s1 : (w.alloc (.cells zres 27)).heap.size = w.heap.size + 1 := World.size_alloc _ _
  have s2 : ((w.alloc (.cells zres 27)).alloc (.cells zres 27)).heap.size = w.heap.size + 1 + 1 := by rw [World.size_alloc, s1]
  have s2' : (((w.alloc (.cells zres 27)).alloc (.cells zres 27)).alloc (.cells #[.int .i64 0] 3)).heap.size = w.heap.size + 1 + 1 + 1 := by rw [World.size_alloc, s2]
  have n1 := Blk.new w 27 zres
  have n2 := Blk.new (w.alloc (.cells zres 27)) 27 zres
  rw [s1] at n2
  have n3 := Blk.new ((w.alloc (.cells zres 27)).alloc (.cells zres 27)) 3 #[.int .i64 0]
  rw [s2] at n3
  have r3 := ptrs_new (((w.alloc (.cells zres 27)).alloc (.cells zres 27)).alloc (.cells #[.int .i64 0] 3)) [(w.heap.size + 1, 0), (w.heap.size + 1 + 1, 0), (w.heap.size + 1, 2), (w.heap.size + 1, 3)] #[.pointer (some ⟨w.heap.size + 1, 0, none⟩), .pointer (some ⟨w.heap.size + 1 + 1, 0, none⟩), .pointer (some ⟨w.heap.size + 1, 2, none⟩), .pointer (some ⟨w.heap.size + 1, 3, none⟩)] 51 _ s2' rfl
  have bA : Below w.heap.size w ((((w.alloc (.cells zres 27)).alloc (.cells zres 27)).alloc (.cells #[.int .i64 0] 3)).alloc (.cells #[.pointer (some ⟨w.heap.size + 1, 0, none⟩), .pointer (some ⟨w.heap.size + 1 + 1, 0, none⟩), .pointer (some ⟨w.heap.size + 1, 2, none⟩), .pointer (some ⟨w.heap.size + 1, 3, none⟩)] 51)) := ((((Below.refl _ _).alloc (Nat.le_refl _) _).alloc (by rw [s1]; omega) _).alloc (by rw [s2]; omega) _).alloc (by rw [s2']; omega) _
  have s3 : ((((w.alloc (.cells zres 27)).alloc (.cells zres 27)).alloc (.cells #[.int .i64 0] 3)).alloc (.cells #[.pointer (some ⟨w.heap.size + 1, 0, none⟩), .pointer (some ⟨w.heap.size + 1 + 1, 0, none⟩), .pointer (some ⟨w.heap.size + 1, 2, none⟩), .pointer (some ⟨w.heap.size + 1, 3, none⟩)] 51)).heap.size = w.heap.size + 1 + 1 + 1 + 1 := by rw [World.size_alloc, s2']
  have hS : SR w w.heap.size (w.heap.size + 1) (w.heap.size + 1 + 1) (Wi.ahead b) 0 ((((w.alloc (.cells zres 27)).alloc (.cells zres 27)).alloc (.cells #[.int .i64 0] 3)).alloc (.cells #[.pointer (some ⟨w.heap.size + 1, 0, none⟩), .pointer (some ⟨w.heap.size + 1 + 1, 0, none⟩), .pointer (some ⟨w.heap.size + 1, 2, none⟩), .pointer (some ⟨w.heap.size + 1, 3, none⟩)] 51)) := ⟨(n2.alloc _).alloc _, n3.alloc _, ((n1.alloc _).alloc _).alloc _, bA⟩
  have hst := SR.stable (w0 := w) (w := ((((w.alloc (.cells zres 27)).alloc (.cells zres 27)).alloc (.cells #[.int .i64 0] 3)).alloc (.cells #[.pointer (some ⟨w.heap.size + 1, 0, none⟩), .pointer (some ⟨w.heap.size + 1 + 1, 0, none⟩), .pointer (some ⟨w.heap.size + 1, 2, none⟩), .pointer (some ⟨w.heap.size + 1, 3, none⟩)] 51))) (g0 := w.heap.size) (gq := w.heap.size + 1) (gs := w.heap.size + 1 + 1) (l := Wi.ahead b) (by omega) (by omega) (by omega) (by omega)
  have hpa := parse_calls A n c b 1 (some ⟨w.heap.size + 1 + 1 + 1, 0, none⟩) 4 4 _ (SR w w.heap.size (w.heap.size + 1) (w.heap.size + 1 + 1) (Wi.ahead b)) _ hn hc hm ((hA.below bA).more (by omega)) (by omega) rfl (by omega) r3 hS hst (SR.store (by omega) (by omega) (by omega) (by omega) (by omega)) (by
    intro k hk
    have hk3 : k = 0 ∨ k = 1 ∨ k = 2 ∨ k = 3 := by simp at hk; omega
    rcases hk3 with rfl | rfl | rfl | rfl
    · show w.heap.size + 1 < _; omega
    · show w.heap.size + 1 + 1 < _; omega
    · show w.heap.size + 1 < _; omega
    · show w.heap.size + 1 < _; omega)
  have HN := hide hn
  clear hn r3 n1 n2 n3 hst hS s1 s2 s2' hA
  go_enter Try.func18, Try.ntmps18
  go_wp2_with fail
  refine hpa.mono ?_
  intro e w1 hr
  have hr := par_two hr
  clear hpa
  rcases hr with ⟨h0, A1, n1, c1, rfl, o1, g1, S1⟩ | ⟨h0, rfl, k, S1⟩
  · obtain ⟨q1, qs, q0, bel1⟩ := S1
    have q1 : Blk w1 (w.heap.size + 1) 27 #[.int .i64 (Wi.rdV (Wi.ahead b) 1 : Int), .int .i64 0, .int .i64 (Wi.rdV (Wi.ahead b) 3 : Int), .int .i64 (Wi.rdV (Wi.ahead b) 4 : Int), .slice none 0 0] := q1
    have qs : Blk w1 (w.heap.size + 1 + 1) 3 #[.int .i64 (Wi.rdV (Wi.ahead b) 2 : Int)] := qs
    have HE0 := hide h0
    have HN1 : Hid (n1 = (Wi.tail (Wi.ahead b) 6).length) := o1.1
    have HQ0 : Hid (Wi.rok b = Wi.rr (Wi.rdV (Wi.ahead b) 1) (Wi.rdV (Wi.ahead b) 2) (Wi.rdV (Wi.ahead b) 3) (Wi.rdV (Wi.ahead b) 4) n1) := by rw [HN1.out]; exact rfl
    have hn1 : n1 ≤ 2000000 := by
      rw [HN1.out]
      unfold Wi.tail Wi.ahead
      rw [List.length_drop, List.length_take]
      have := HN.out
      omega
    have HPG := hide (@pr_good b)
    have HPB := hide (@pr_bad b)
    have hgA : ∀ q, blkOf A1 = some q → w.heap.size + 1 < q := fun q hq => by have := g1 q hq; omega
    have g1' : ∀ q, blkOf A1 = some q → w.heap.size ≤ q := fun q hq => by have := g1 q hq; omega
    clear g1 h0 s3 bA
    generalize Wi.rdV (Wi.ahead b) 1 = v1 at *
    generalize Wi.rdV (Wi.ahead b) 2 = v2 at *
    generalize Wi.rdV (Wi.ahead b) 3 = v3 at *
    generalize Wi.rdV (Wi.ahead b) 4 = v4 at *
    have cs : w1.cell? ⟨w.heap.size + 1 + 1, 0, none⟩ = some (.int .i64 (v2 : Int)) := qs.cell 0
    have c1' : w1.cell? ⟨w.heap.size + 1, 1, none⟩ = some (.int .i64 0) := q1.cell 1
    have z1 := q1.frozen 1
    have qq := q1.set_ 1 (.int .i64 (v2 : Int))
    have c4' : (w1.setCell ⟨w.heap.size + 1, 1, none⟩ (.int .i64 (v2 : Int))).cell? ⟨w.heap.size + 1, 4, none⟩ = some (.slice none 0 0) := qq.cell 4
    have z4' := qq.frozen 4
    have q2 : Blk ((w1.setCell ⟨w.heap.size + 1, 1, none⟩ (.int .i64 (v2 : Int))).setCell ⟨w.heap.size + 1, 4, none⟩ (.slice A1 n1 c1)) (w.heap.size + 1) 27 #[.int .i64 (v1 : Int), .int .i64 (v2 : Int), .int .i64 (v3 : Int), .int .i64 (v4 : Int), .slice A1 n1 c1] := by simpa using qq.set_ 4 (.slice A1 n1 c1)
    have o2 : Own8 ((w1.setCell ⟨w.heap.size + 1, 1, none⟩ (.int .i64 (v2 : Int))).setCell ⟨w.heap.size + 1, 4, none⟩ (.slice A1 n1 c1)) 5 A1 n1 c1 (Wi.tail (Wi.ahead b) 6) := (chg_one (w1.setCell ⟨w.heap.size + 1, 1, none⟩ (.int .i64 (v2 : Int))) (w.heap.size + 1) 4 _).own ((chg_one w1 (w.heap.size + 1) 1 _).own o1 (fun q hq e => by have : q = _ := e; have := hgA q hq; omega)) (fun q hq e => by have : q = _ := e; have := hgA q hq; omega)
    have q02 : Blk ((w1.setCell ⟨w.heap.size + 1, 1, none⟩ (.int .i64 (v2 : Int))).setCell ⟨w.heap.size + 1, 4, none⟩ (.slice A1 n1 c1)) w.heap.size 27 zres := (q0.far (by show _ ≠ _ + 1; omega) _).far (by show _ ≠ _ + 1; omega) _
    have bel2 : Below w.heap.size w ((w1.setCell ⟨w.heap.size + 1, 1, none⟩ (.int .i64 (v2 : Int))).setCell ⟨w.heap.size + 1, 4, none⟩ (.slice A1 n1 c1)) := (bel1.setCell (p := ⟨w.heap.size + 1, 1, none⟩) (by show _ ≤ _ + 1; omega) _).setCell (p := ⟨w.heap.size + 1, 4, none⟩) (by show _ ≤ _ + 1; omega) _
    clear o1 q1 q0 bel1 qq qs hgA
    have e0 : ((w1.setCell ⟨w.heap.size + 1, 1, none⟩ (.int .i64 (v2 : Int))).setCell ⟨w.heap.size + 1, 4, none⟩ (.slice A1 n1 c1)).cell? ⟨w.heap.size + 1, 0, none⟩ = some (.int .i64 (v1 : Int)) := q2.cell 0
    have e1 : ((w1.setCell ⟨w.heap.size + 1, 1, none⟩ (.int .i64 (v2 : Int))).setCell ⟨w.heap.size + 1, 4, none⟩ (.slice A1 n1 c1)).cell? ⟨w.heap.size + 1, 1, none⟩ = some (.int .i64 (v2 : Int)) := q2.cell 1
    have e2 : ((w1.setCell ⟨w.heap.size + 1, 1, none⟩ (.int .i64 (v2 : Int))).setCell ⟨w.heap.size + 1, 4, none⟩ (.slice A1 n1 c1)).cell? ⟨w.heap.size + 1, 2, none⟩ = some (.int .i64 (v3 : Int)) := q2.cell 2
    have e3 : ((w1.setCell ⟨w.heap.size + 1, 1, none⟩ (.int .i64 (v2 : Int))).setCell ⟨w.heap.size + 1, 4, none⟩ (.slice A1 n1 c1)).cell? ⟨w.heap.size + 1, 3, none⟩ = some (.int .i64 (v4 : Int)) := q2.cell 3
    have e4 : ((w1.setCell ⟨w.heap.size + 1, 1, none⟩ (.int .i64 (v2 : Int))).setCell ⟨w.heap.size + 1, 4, none⟩ (.slice A1 n1 c1)).cell? ⟨w.heap.size + 1, 4, none⟩ = some (.slice A1 n1 c1) := q2.cell 4
    have hrq := rr_calls v1 v2 v3 v4 A1 n1 c1 ((w1.setCell ⟨w.heap.size + 1, 1, none⟩ (.int .i64 (v2 : Int))).setCell ⟨w.heap.size + 1, 4, none⟩ (.slice A1 n1 c1)) (by omega)
    rw [← HQ0.out] at hrq
    go_wp2_with fail
    clear c4' z4' c1' z1 cs
    generalize ((w1.setCell ⟨w.heap.size + 1, 1, none⟩ (.int .i64 (v2 : Int))).setCell ⟨w.heap.size + 1, 4, none⟩ (.slice A1 n1 c1)) = W2 at *
    refine hrq.mono ?_
    rintro e w3 ⟨rfl, b3⟩
    have q3 := q2.below b3 q2.lt
    have o3 := o2.below b3 o2.lt
    have q03 := q02.below b3 q02.lt
    have bel3 := bnext bel2 b3
    have z0 := q03.frozen 0
    have z1 := q03.frozen 1
    have z2 := q03.frozen 2
    have z3 := q03.frozen 3
    have z4 := q03.frozen 4
    have k0 : w3.cell? ⟨w.heap.size, 0, none⟩ = some (.int .i64 0) := q03.cell 0
    have k1 : w3.cell? ⟨w.heap.size, 1, none⟩ = some (.int .i64 0) := q03.cell 1
    have k2 : w3.cell? ⟨w.heap.size, 2, none⟩ = some (.int .i64 0) := q03.cell 2
    have k3 : w3.cell? ⟨w.heap.size, 3, none⟩ = some (.int .i64 0) := q03.cell 3
    have k4 : w3.cell? ⟨w.heap.size, 4, none⟩ = some (.slice none 0 0) := q03.cell 4
    clear hrq e0 e1 e2 e3 e4 q2 q02 b3 bel2 o2
    cases hq : Wi.rok b
    · have HE : Hid (Wi.prE b = 201) := by unfold Wi.prE; rw [HE0.out, if_pos rfl, hq]; exact rfl
      obtain ⟨HV, HB⟩ := HPB.out (by rw [HE.out]; decide)
      obtain ⟨qF, bF⟩ := set5 q03 bel3 (Nat.le_refl _) (.int .i64 0) (.int .i64 0) (.int .i64 0) (.int .i64 0) (.slice none 0 0)
      go_wp2
      generalize (((((w3.setCell ⟨w.heap.size, 0, none⟩ (.int .i64 0)).setCell ⟨w.heap.size, 1, none⟩ (.int .i64 0)).setCell ⟨w.heap.size, 2, none⟩ (.int .i64 0)).setCell ⟨w.heap.size, 3, none⟩ (.int .i64 0)).setCell ⟨w.heap.size, 4, none⟩ (.slice none 0 0)) = F at *
      have y0 : F.cell? ⟨w.heap.size, 0, none⟩ = some (.int .i64 0) := qF.cell 0
      have y1 : F.cell? ⟨w.heap.size, 1, none⟩ = some (.int .i64 0) := qF.cell 1
      have y2 : F.cell? ⟨w.heap.size, 2, none⟩ = some (.int .i64 0) := qF.cell 2
      have y3 : F.cell? ⟨w.heap.size, 3, none⟩ = some (.int .i64 0) := qF.cell 3
      have y4 : F.cell? ⟨w.heap.size, 4, none⟩ = some (.slice none 0 0) := qF.cell 4
      refine bodyPost_ret (v := .tuple #[.agg zres, .int .i64 201]) (by simp [results, Try.results18, go_sem, y0, y1, y2, y3, y4]) rfl ?_
      exact ⟨none, 0, 0, by rw [HV, HE.out], by rw [HB]; exact Own8.nil _ _, by simp [blkOf], bF⟩
    · have HE : Hid (Wi.prE b = 0) := by unfold Wi.prE; rw [HE0.out, if_pos rfl, hq]; exact rfl
      obtain ⟨HV, HB⟩ := HPG.out HE.out
      have e0 : w3.cell? ⟨w.heap.size + 1, 0, none⟩ = some (.int .i64 (v1 : Int)) := q3.cell 0
      have e1 : w3.cell? ⟨w.heap.size + 1, 1, none⟩ = some (.int .i64 (v2 : Int)) := q3.cell 1
      have e2 : w3.cell? ⟨w.heap.size + 1, 2, none⟩ = some (.int .i64 (v3 : Int)) := q3.cell 2
      have e3 : w3.cell? ⟨w.heap.size + 1, 3, none⟩ = some (.int .i64 (v4 : Int)) := q3.cell 3
      have e4 : w3.cell? ⟨w.heap.size + 1, 4, none⟩ = some (.slice A1 n1 c1) := q3.cell 4
      obtain ⟨qF, bF⟩ := set5 q03 bel3 (Nat.le_refl _) (.int .i64 (v1 : Int)) (.int .i64 (v2 : Int)) (.int .i64 (v3 : Int)) (.int .i64 (v4 : Int)) (.slice A1 n1 c1)
      have oF : Own8 (((((w3.setCell ⟨w.heap.size, 0, none⟩ (.int .i64 (v1 : Int))).setCell ⟨w.heap.size, 1, none⟩ (.int .i64 (v2 : Int))).setCell ⟨w.heap.size, 2, none⟩ (.int .i64 (v3 : Int))).setCell ⟨w.heap.size, 3, none⟩ (.int .i64 (v4 : Int))).setCell ⟨w.heap.size, 4, none⟩ (.slice A1 n1 c1)) 5 A1 n1 c1 (Wi.tail (Wi.ahead b) 6) := by
        have hh : ∀ q, blkOf A1 = some q → ¬ One w.heap.size q := fun q hq e => own_blk_ne o3.2 q03 (by decide) (by rw [ownBlock_slice, hq, show q = w.heap.size from e])
        exact (chg_one _ w.heap.size 4 _).own ((chg_one _ w.heap.size 3 _).own ((chg_one _ w.heap.size 2 _).own ((chg_one _ w.heap.size 1 _).own ((chg_one _ w.heap.size 0 _).own o3 hh) hh) hh) hh) hh
      go_wp2
      generalize (((((w3.setCell ⟨w.heap.size, 0, none⟩ (.int .i64 (v1 : Int))).setCell ⟨w.heap.size, 1, none⟩ (.int .i64 (v2 : Int))).setCell ⟨w.heap.size, 2, none⟩ (.int .i64 (v3 : Int))).setCell ⟨w.heap.size, 3, none⟩ (.int .i64 (v4 : Int))).setCell ⟨w.heap.size, 4, none⟩ (.slice A1 n1 c1)) = F at *
      have y0 : F.cell? ⟨w.heap.size, 0, none⟩ = some (.int .i64 (v1 : Int)) := qF.cell 0
      have y1 : F.cell? ⟨w.heap.size, 1, none⟩ = some (.int .i64 (v2 : Int)) := qF.cell 1
      have y2 : F.cell? ⟨w.heap.size, 2, none⟩ = some (.int .i64 (v3 : Int)) := qF.cell 2
      have y3 : F.cell? ⟨w.heap.size, 3, none⟩ = some (.int .i64 (v4 : Int)) := qF.cell 3
      have y4 : F.cell? ⟨w.heap.size, 4, none⟩ = some (.slice A1 n1 c1) := qF.cell 4
      refine bodyPost_ret (v := .tuple #[resV v1 v2 v3 v4 A1 n1 c1, .int .i64 0]) (by simp [results, Try.results18, go_sem, y0, y1, y2, y3, y4]) rfl ?_
      exact ⟨A1, n1, c1, by rw [HV, HE.out], by rw [HB]; exact oF, g1', bF⟩
  · obtain ⟨_, _, q0, bel1⟩ := S1
    have HE : Hid (Wi.prE b = Wi.paE b 1 6) := if_neg h0
    have hE : Wi.prE b ≠ 0 := by rw [HE.out]; exact h0
    have HV := hide (pr_bad hE)
    have en : (Wi.paE b 1 6 != 0) = true := by simpa using h0
    have z0 := q0.frozen 0
    have z1 := q0.frozen 1
    have z2 := q0.frozen 2
    have z3 := q0.frozen 3
    have z4 := q0.frozen 4
    have k0 : w1.cell? ⟨w.heap.size, 0, none⟩ = some (.int .i64 0) := q0.cell 0
    have k1 : w1.cell? ⟨w.heap.size, 1, none⟩ = some (.int .i64 0) := q0.cell 1
    have k2 : w1.cell? ⟨w.heap.size, 2, none⟩ = some (.int .i64 0) := q0.cell 2
    have k3 : w1.cell? ⟨w.heap.size, 3, none⟩ = some (.int .i64 0) := q0.cell 3
    have k4 : w1.cell? ⟨w.heap.size, 4, none⟩ = some (.slice none 0 0) := q0.cell 4
    clear h0 hE
    obtain ⟨qF, bF⟩ := set5 q0 bel1 (Nat.le_refl _) (.int .i64 0) (.int .i64 0) (.int .i64 0) (.int .i64 0) (.slice none 0 0)
    go_wp2
    generalize (((((w1.setCell ⟨w.heap.size, 0, none⟩ (.int .i64 0)).setCell ⟨w.heap.size, 1, none⟩ (.int .i64 0)).setCell ⟨w.heap.size, 2, none⟩ (.int .i64 0)).setCell ⟨w.heap.size, 3, none⟩ (.int .i64 0)).setCell ⟨w.heap.size, 4, none⟩ (.slice none 0 0)) = F at *
    have y0 : F.cell? ⟨w.heap.size, 0, none⟩ = some (.int .i64 0) := qF.cell 0
    have y1 : F.cell? ⟨w.heap.size, 1, none⟩ = some (.int .i64 0) := qF.cell 1
    have y2 : F.cell? ⟨w.heap.size, 2, none⟩ = some (.int .i64 0) := qF.cell 2
    have y3 : F.cell? ⟨w.heap.size, 3, none⟩ = some (.int .i64 0) := qF.cell 3
    have y4 : F.cell? ⟨w.heap.size, 4, none⟩ = some (.slice none 0 0) := qF.cell 4
    refine bodyPost_ret (v := .tuple #[.agg zres, .int .i64 (Wi.paE b 1 6)]) (by simp [results, Try.results18, go_sem, y0, y1, y2, y3, y4]) rfl ?_
    exact ⟨none, 0, 0, by rw [HV.out.1, HE.out], by rw [HV.out.2]; exact Own8.nil _ _, by simp [blkOf], bF⟩
end Go.Proofs.Ytijcollcncjdoaa
