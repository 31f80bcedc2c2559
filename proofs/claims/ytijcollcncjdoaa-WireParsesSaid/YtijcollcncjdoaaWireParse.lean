/- What the program's parse reads: a sum, numbers, a tail, by its contract. Conditions: at most 2^20 bytes. -/
import Derived.Test.YtijcollcncjdoaaWireConcat
import Derived.Test.YtijcollcncjdoaaGolGets
import Derived.Test.YtijcollcncjdoaaBitsRAny
namespace Wi
open Kin
def rdK (l : List UInt8) : Nat → Nat
  | 0 => 0
  | i + 1 => rdK l i + Gol.gK (Go.Proofs.Ytijcollcncjdoaa.bitsOf l (rdK l i))
def rdV (l : List UInt8) (i : Nat) : Nat := Gol.gV (Go.Proofs.Ytijcollcncjdoaa.bitsOf l (rdK l i))
def rdE (l : List UInt8) (i : Nat) : Int := Gol.gE (Go.Proofs.Ytijcollcncjdoaa.bitsOf l (rdK l i))
def of4 (l : List UInt8) : Nat := (((l.getD 0 0).toNat * 256 + (l.getD 1 0).toNat) * 256 + (l.getD 2 0).toNat) * 256 + (l.getD 3 0).toNat
/-- what is ahead of the sum, and the sum that is told -/
def ahead (b : List UInt8) : List UInt8 := b.take (b.length - 4)
def told (b : List UInt8) : Nat := of4 (b.drop (b.length - 4))
def numsOk (l : List UInt8) (m : Nat) : Bool := (List.range m).all fun i => rdE l i == 0
/-- are m numbers, the first of a kind, and a tail as long as the last one says? -/
def paOk (l : List UInt8) (kind m : Nat) : Bool := numsOk l m && rdV l 0 == kind && Go.Proofs.Ytijcollcncjdoaa.Bit.restB (Bit.row l) (rdK l m) && ((l.drop ((rdK l m + 7) / 8)).length == rdV l (m - 1))
def tail (l : List UInt8) (m : Nat) : List UInt8 := l.drop ((rdK l m + 7) / 8)
end Wi
namespace Go.Proofs.Ytijcollcncjdoaa
open Go.RowKit Kin

theorem or_add (a k b : Nat) (hb : b < 2 ^ k) : (a * 2 ^ k) ||| b = a * 2 ^ k + b := by
  rw [Nat.mul_comm, Nat.two_pow_add_eq_or_of_lt hb]
theorem or4 (a b c d : Nat) (ha : a < 2 ^ 8) (hb : b < 2 ^ 8) (hc : c < 2 ^ 8) (hd : d < 2 ^ 8) :
    bits .or .u32 (bits .or .u32 (bits .or .u32 ((a : Int) * 16777216) ((b : Int) * 65536)) ((c : Int) * 256)) (d : Int) = ((((a * 256 + b) * 256 + c) * 256 + d : Nat) : Int) := by
  have e1 : (a : Int) * 16777216 = ((a * 16777216 : Nat) : Int) := by omega
  have e2 : (b : Int) * 65536 = ((b * 65536 : Nat) : Int) := by omega
  have e3 : (c : Int) * 256 = ((c * 256 : Nat) : Int) := by omega
  have o1 := or_add a 24 (b * 65536) (by omega)
  have o2 := or_add (a * 256 + b) 16 (c * 256) (by omega)
  have o3 := or_add ((a * 256 + b) * 256 + c) 8 d (by omega)
  simp only [Nat.reducePow] at o1 o2 o3
  rw [e1, e2, e3, u32_or_nat _ _ (by omega) (by omega), o1, show a * 16777216 + b * 65536 = (a * 256 + b) * 65536 by omega, u32_or_nat _ _ (by omega) (by omega), o2, show (a * 256 + b) * 65536 + c * 256 = ((a * 256 + b) * 256 + c) * 256 by omega, u32_or_nat _ _ (by omega) (by omega), o3]

def addrs (ps : List (Nat × Nat)) : List Addr := ps.map fun p => ⟨p.1, p.2, none⟩
theorem ptr_new (w : World) (p : Addr) (e : TypeId) (g : Nat) (hg : w.heap.size = g) : Recs (w.alloc (.cells #[.pointer (some p)] e)) (g + 1) 1 (some ⟨g, 0, none⟩) (ptrRows [p]) := by
  subst hg
  exact Recs.new w #[.pointer (some p)] e (0, 0) 1 [.pointer (some p)] rfl rfl
theorem recs_more {w : World} {B B' k : Nat} {A : Option Addr} {xs : List (List Value)} (h : Recs w B k A xs) (hB : B ≤ B') : Recs w B' k A xs := fun hl => by
  obtain ⟨b, off, e, hb, hc⟩ := h hl
  exact ⟨b, off, e, by omega, hc⟩
/-- six new blocks: two numbers, two rows of a pointer each, a row of three slices -/
theorem par_six (w : World) (Ap : Option Addr) (np cp : Nat) (ps : List (Nat × Nat)) (B : Nat) (hB : B ≤ w.heap.size) (hP : Recs w B 1 Ap (ptrRows (addrs ps))) :
    let V6 := ((((w.alloc (.cells #[.int .i64 0] 3)).alloc (.cells #[.int .i64 0] 3)).alloc (.cells #[.pointer (some ⟨w.heap.size, 0, none⟩)] 51)).alloc (.cells #[.pointer (some ⟨w.heap.size + 1, 0, none⟩)] 51)).alloc (.cells #[.slice (some ⟨w.heap.size + 1 + 1, 0, none⟩) 1 1, .slice Ap np cp, .slice (some ⟨w.heap.size + 1 + 1 + 1, 0, none⟩) 1 1] 64)
    Blk V6 w.heap.size 3 #[.int .i64 0] ∧ Blk V6 (w.heap.size + 1) 3 #[.int .i64 0] ∧ Recs V6 V6.heap.size 1 (some ⟨w.heap.size + 1 + 1, 0, none⟩) (ptrRows [⟨w.heap.size, 0, none⟩]) ∧ Recs V6 V6.heap.size 1 Ap (ptrRows (addrs ps)) ∧ Recs V6 V6.heap.size 1 (some ⟨w.heap.size + 1 + 1 + 1, 0, none⟩) (ptrRows [⟨w.heap.size + 1, 0, none⟩]) ∧
    Blk V6 (w.heap.size + 1 + 1 + 1 + 1) 64 #[.slice (some ⟨w.heap.size + 1 + 1, 0, none⟩) 1 1, .slice Ap np cp, .slice (some ⟨w.heap.size + 1 + 1 + 1, 0, none⟩) 1 1] ∧ Below w.heap.size w V6 := by
  intro V6
  have s1 : (w.alloc (.cells #[.int .i64 0] 3)).heap.size = w.heap.size + 1 := World.size_alloc _ _
  have s2 : ((w.alloc (.cells #[.int .i64 0] 3)).alloc (.cells #[.int .i64 0] 3)).heap.size = w.heap.size + 1 + 1 := by rw [World.size_alloc, s1]
  have s3 : (((w.alloc (.cells #[.int .i64 0] 3)).alloc (.cells #[.int .i64 0] 3)).alloc (.cells #[.pointer (some ⟨w.heap.size, 0, none⟩)] 51)).heap.size = w.heap.size + 1 + 1 + 1 := by rw [World.size_alloc, s2]
  have s4 : ((((w.alloc (.cells #[.int .i64 0] 3)).alloc (.cells #[.int .i64 0] 3)).alloc (.cells #[.pointer (some ⟨w.heap.size, 0, none⟩)] 51)).alloc (.cells #[.pointer (some ⟨w.heap.size + 1, 0, none⟩)] 51)).heap.size = w.heap.size + 1 + 1 + 1 + 1 := by rw [World.size_alloc, s3]
  have s5 : V6.heap.size = w.heap.size + 1 + 1 + 1 + 1 + 1 := by show (World.alloc _ _).heap.size = _; rw [World.size_alloc, s4]
  have n2 := Blk.new (w.alloc (.cells #[.int .i64 0] 3)) 3 #[.int .i64 0]
  rw [s1] at n2
  have n6 := Blk.new ((((w.alloc (.cells #[.int .i64 0] 3)).alloc (.cells #[.int .i64 0] 3)).alloc (.cells #[.pointer (some ⟨w.heap.size, 0, none⟩)] 51)).alloc (.cells #[.pointer (some ⟨w.heap.size + 1, 0, none⟩)] 51)) 64 #[.slice (some ⟨w.heap.size + 1 + 1, 0, none⟩) 1 1, .slice Ap np cp, .slice (some ⟨w.heap.size + 1 + 1 + 1, 0, none⟩) 1 1]
  rw [s4] at n6
  have bA : Below w.heap.size w V6 := (((((Below.refl _ _).alloc (Nat.le_refl _) _).alloc (by rw [s1]; omega) _).alloc (by rw [s2]; omega) _).alloc (by rw [s3]; omega) _).alloc (by rw [s4]; omega) _
  have r1 := ptr_new ((w.alloc (.cells #[.int .i64 0] 3)).alloc (.cells #[.int .i64 0] 3)) ⟨w.heap.size, 0, none⟩ 51 _ s2
  have r3 := ptr_new (((w.alloc (.cells #[.int .i64 0] 3)).alloc (.cells #[.int .i64 0] 3)).alloc (.cells #[.pointer (some ⟨w.heap.size, 0, none⟩)] 51)) ⟨w.heap.size + 1, 0, none⟩ 51 _ s3
  refine ⟨((((Blk.new w 3 #[.int .i64 0]).alloc _).alloc _).alloc _).alloc _, ((n2.alloc _).alloc _).alloc _, ?_, recs_more (hP.below (bA.mono hB)) (by omega), ?_, n6, bA⟩
  · exact recs_more (r1.below (((Below.refl _ _).alloc (by rw [s3]; omega) _).alloc (by rw [s4]; omega) _)) (by omega)
  · exact recs_more (r3.below ((Below.refl _ _).alloc (by rw [s4]; omega) _)) (by omega)

/-- the numbers' cells of parse behind k stores and kr reads -/
def PSt (B : Nat) (S : Nat → World → Prop) (l : List UInt8) (f1 f2 gr rr : Nat) (A : Option Addr) (c np : Nat) (L : List Addr) (k kr : Nat) (W : World) : Prop :=
  OwnR W 51 1 A (1 + np + 1) c (ptrRows L) ∧ Blk W f1 3 #[.int .i64 (if 0 < k then (Wi.rdV l 0 : Int) else 0)] ∧ Blk W f2 3 #[.int .i64 (if np + 1 < k then (Wi.rdV l (np + 1) : Int) else 0)] ∧ ReaderIs W gr rr l (Wi.rdK l kr) ∧ S (min (k - 1) np) W ∧ B ≤ W.heap.size
theorem PSt.read {B : Nat} {S : Nat → World → Prop} {l : List UInt8} {f1 f2 gr rr c np k kr kr' : Nat} {A : Option Addr} {L : List Addr} {W W' : World} (h : PSt B S l f1 f2 gr rr A c np L k kr W) (hg : Chg (One gr) W W') (hr : ReaderIs W' gr rr l (Wi.rdK l kr')) (hB : B ≤ gr) (hSb : ∀ k W W', S k W → Chg (fun q => B ≤ q) W W' → S k W') : PSt B S l f1 f2 gr rr A c np L k kr' W' := by
  obtain ⟨h1, h2, h3, h4, h5, h6⟩ := h
  have n1 : ¬ One gr f1 := fun e => (h2.ne_ h4.1 (by decide)) e
  have n2 : ¬ One gr f2 := fun e => (h3.ne_ h4.1 (by decide)) e
  exact ⟨hg.ownR h1 (fun q hq e => h1.ne_blk h4.1 (by decide) (by rw [hq, show q = gr from e])), hg.blk h2 n1, hg.blk h3 n2, hr, hSb _ _ _ h5 (hg.mono (fun i _ e => by have : i = gr := e; omega)), Nat.le_trans h6 hg.size⟩
theorem chg_one (W : World) (q o : Nat) (v : Value) : Chg (One q) W (W.setCell ⟨q, o, none⟩ v) := (Chg.refl (One q) W).setCell (p := ⟨q, o, none⟩) (.inl rfl) v
theorem PSt.step {B : Nat} {S : Nat → World → Prop} {l : List UInt8} {f1 f2 gr rr c np k kr : Nat} {A : Option Addr} {ps : List (Nat × Nat)} {W : World} (h : PSt B S l f1 f2 gr rr A c np ([⟨f1, 0, none⟩] ++ addrs ps ++ [⟨f2, 0, none⟩]) k kr W)
    (hnp : np = ps.length) (f12 : f1 ≠ f2) (z1 : B ≤ f1) (z2 : B ≤ f2) (zg : B ≤ gr) (zr : B ≤ rr) (zA : ∀ q, blkOf A = some q → B ≤ q) (hlt : ∀ k (hk : k < ps.length), (ps[k]).1 < B) (hSb : ∀ k W W', S k W → Chg (fun q => B ≤ q) W W' → S k W')
    (hSs : ∀ k (hk : k < ps.length) W, S k W → (∃ x : Int, W.cell? ⟨(ps[k]).1, (ps[k]).2, none⟩ = some (.int .i64 x)) ∧ W.frozen? ⟨(ps[k]).1, (ps[k]).2, none⟩ = false ∧ S (k + 1) (W.setCell ⟨(ps[k]).1, (ps[k]).2, none⟩ (.int .i64 (Wi.rdV l (k + 1) : Int))))
    {q o : Nat} (hp : ([⟨f1, 0, none⟩] ++ addrs ps ++ [⟨f2, 0, none⟩] : List Addr)[k]? = some ⟨q, o, none⟩) :
    (∃ x : Int, W.cell? ⟨q, o, none⟩ = some (.int .i64 x)) ∧ W.frozen? ⟨q, o, none⟩ = false ∧ PSt B S l f1 f2 gr rr A c np ([⟨f1, 0, none⟩] ++ addrs ps ++ [⟨f2, 0, none⟩]) (k + 1) kr (W.setCell ⟨q, o, none⟩ (.int .i64 (Wi.rdV l k : Int))) := by
  obtain ⟨h1, h2, h3, h4, h5, h6⟩ := h
  have hcg := chg_one W q o (.int .i64 (Wi.rdV l k : Int))
  have la : (addrs ps).length = np := by rw [addrs, List.length_map, hnp]
  have h6' := Nat.le_trans h6 hcg.size
  have nr := h4.ne
  rcases Nat.eq_zero_or_pos k with rfl | hk0
  · simp at hp
    obtain ⟨rfl, rfl⟩ := hp
    have ng : ¬ One f1 gr := fun e => (h2.ne_ h4.1 (by decide)) e.symm
    have nrr : ¬ One f1 rr := fun e => own_blk_ne h4.2.1.2 h2 (by decide) (by rw [ownBlock_slice]; exact congrArg some e)
    have n2 : ¬ One f1 f2 := fun e => f12 e.symm
    refine ⟨⟨_, h2.cell 0⟩, h2.frozen 0, hcg.ownR h1 (fun q hq e => h1.ne_blk h2 (by decide) (by rw [hq, show q = f1 from e])), ?_, ?_, h4.keep hcg ng nrr, hSb _ _ _ h5 (hcg.mono (fun i _ e => by have : i = f1 := e; omega)), h6'⟩
    · have := h2.set_ 0 (.int .i64 (Wi.rdV l 0 : Int))
      rw [if_pos (by omega)]
      exact this
    · have := hcg.blk h3 n2
      rw [if_neg (by omega)] at this ⊢
      exact this
  · by_cases hk : k ≤ np
    · obtain ⟨j, rfl⟩ : ∃ j, k = j + 1 := ⟨k - 1, by omega⟩
      have hj : j < ps.length := by omega
      have e1 : ([⟨f1, 0, none⟩] ++ addrs ps ++ [⟨f2, 0, none⟩] : List Addr)[j + 1]? = some ⟨(ps[j]).1, (ps[j]).2, none⟩ := by
        rw [List.append_assoc, List.singleton_append, List.getElem?_cons_succ, List.getElem?_append_left (by omega), addrs, List.getElem?_map, List.getElem?_eq_getElem hj]
        exact rfl
      rw [e1] at hp
      injection hp with hp
      injection hp with hq ho
      subst hq ho
      have hl := hlt j hj
      have e2 : min (j + 1 - 1) np = j := by omega
      have e3 : min (j + 1 + 1 - 1) np = j + 1 := by omega
      rw [e2] at h5
      obtain ⟨s1, s2, s3⟩ := hSs j hj W h5
      refine ⟨s1, s2, hcg.ownR h1 (fun q hq e => by have : q = _ := e; have := zA q hq; omega), ?_, ?_, h4.keep hcg (fun e => by have : gr = _ := e; omega) (fun e => by have : rr = _ := e; omega), by rw [e3]; exact s3, h6'⟩
      · have := hcg.blk h2 (fun e => by have : f1 = _ := e; omega)
        rw [if_pos (by omega)] at this ⊢
        exact this
      · have := hcg.blk h3 (fun e => by have : f2 = _ := e; omega)
        rw [if_neg (by omega)] at this ⊢
        exact this
    · have hkl : k < ([⟨f1, 0, none⟩] ++ addrs ps ++ [⟨f2, 0, none⟩] : List Addr).length := (List.getElem?_eq_some_iff.1 hp).1
      have hkk : k = np + 1 := by
        rw [List.length_append, List.length_append, la] at hkl
        simp at hkl
        omega
      subst hkk
      have e1 : ([⟨f1, 0, none⟩] ++ addrs ps ++ [⟨f2, 0, none⟩] : List Addr)[np + 1]? = some ⟨f2, 0, none⟩ := by
        rw [List.append_assoc, List.singleton_append, List.getElem?_cons_succ, List.getElem?_append_right (by omega), la, Nat.sub_self]
        exact rfl
      rw [e1] at hp
      injection hp with hp
      injection hp with hq ho
      subst hq ho
      have ng : ¬ One f2 gr := fun e => (h3.ne_ h4.1 (by decide)) e.symm
      have nrr : ¬ One f2 rr := fun e => own_blk_ne h4.2.1.2 h3 (by decide) (by rw [ownBlock_slice]; exact congrArg some e)
      have e2 : min (np + 1 - 1) np = np := by omega
      have e3 : min (np + 1 + 1 - 1) np = np := by omega
      rw [e2] at h5
      refine ⟨⟨_, h3.cell 0⟩, h3.frozen 0, hcg.ownR h1 (fun q hq e => h1.ne_blk h3 (by decide) (by rw [hq, show q = f2 from e])), ?_, ?_, h4.keep hcg ng nrr, by rw [e3]; exact hSb _ _ _ h5 (hcg.mono (fun i _ e => by have : i = f2 := e; omega)), h6'⟩
      · have := hcg.blk h2 (fun e => f12 e)
        rw [if_pos (by omega)] at this ⊢
        exact this
      · have := h3.set_ 0 (.int .i64 (Wi.rdV l (np + 1) : Int))
        rw [if_pos (by omega)]
        exact this
theorem numsOk_zero (l : List UInt8) : Wi.numsOk l 0 = true := rfl
theorem numsOk_succ (l : List UInt8) (k : Nat) (h : Wi.numsOk l k = true) (h0 : Wi.rdE l k = 0) : Wi.numsOk l (k + 1) = true := by
  unfold Wi.numsOk at *
  rw [List.range_succ, List.all_append, h]
  simp [h0]
theorem numsOk_bad (l : List UInt8) (k m : Nat) (hk : k < m) (h0 : Wi.rdE l k ≠ 0) : Wi.numsOk l m = false := by
  unfold Wi.numsOk
  rw [List.all_eq_false]
  exact ⟨k, List.mem_range.2 hk, by simp [h0]⟩

set_option maxRecDepth 100000 in
set_option maxHeartbeats 1000000 in
theorem clone_calls (A : Option Addr) (n c : Nat) (l : List UInt8) (w : World) (hn : n = l.length) (hm : n ≤ 140737488355328) {B : Nat} (hA0 : Byt w B A l) :
    Calls Try.prog 43 #[.slice A n c] w (RetBytes w l) := by
  have HN := hide hn
  have hA := hA0.here
  clear hn hA0
  have heq : ∀ w', Sem.run Try.prog (binOp .eql 25 (.slice A n c) (.slice none 0 0)) w' = .ok (.bool A.isNone) w' := fun w' => by
    have := run_equal_slice_nil (P := Try.prog) w' 25 5 A n c Try.underlying25
    simp [binOp, this]
  rcases A with _ | ad
  · have hl : l = [] := by
      rcases l with _ | ⟨b, l⟩
      · rfl
      · obtain ⟨_, _, h, _⟩ := hA (by simp)
        cases h
    subst hl
    go_enter Try.func43, Try.ntmps43
    go_wp2
    go_ret
    exact ⟨_, _, _, rfl, Own8.nil _ _, by simp [blkOf], Below.refl _ _⟩
  · go_enter Try.func43, Try.ntmps43
    go_wp2_with (at_builtin; refine wpList_append8 (by rfl) (.tmp 5) (.tmp 6) 25 5 (by rfl) bytesT _ _ _ [] (by rfl) (Own8.new w #[] 5 0 [] rfl rfl (by decide)) _ _ _ _ l (by rfl) (hA.below ((Below.refl _ _).alloc (Nat.le_refl _) _)) HN.out (by omega) ?_; intro A1 c1 w1 own1 grow1 at1; simp only [Nat.zero_add, List.nil_append] at own1)
    have b1 : Below w.heap.size w w1 := ((Below.refl w.heap.size w).alloc (Nat.le_refl _) _).grown grow1 (by simp) (by intro g hg; simp [blkOf] at hg; omega)
    go_wp2
    go_ret
    refine ⟨_, _, _, rfl, own1, ?_, b1⟩
    intro g hg
    rcases at1 with e | e
    · rw [hg] at e; simp [blkOf] at e; omega
    · rw [hg] at e; simp at e; omega
/-- what parse answers; S says what the pointers' cells hold -/
def RetPar (w : World) (S : Nat → World → Prop) (b : List UInt8) (kind m : Nat) (e : Ending) (w' : World) : Prop :=
  w.heap.size ≤ w'.heap.size ∧
  ((4 ≤ b.length ∧ Crc.sum (Wi.ahead b) = Wi.told b ∧ Wi.paOk (Wi.ahead b) kind (m + 2) = true ∧ ∃ A n c, e = .returned (.tuple #[.slice A n c, .int .i64 0]) ∧ Own8 w' 5 A n c (Wi.tail (Wi.ahead b) (m + 2)) ∧ (∀ g, blkOf A = some g → w.heap.size ≤ g) ∧ S m w') ∨
   (4 ≤ b.length ∧ Crc.sum (Wi.ahead b) = Wi.told b ∧ Wi.paOk (Wi.ahead b) kind (m + 2) = false ∧ e = .returned (.tuple #[.slice none 0 0, .int .i64 201]) ∧ ∃ k, S k w') ∨
   (4 ≤ b.length ∧ ¬ Crc.sum (Wi.ahead b) = Wi.told b ∧ e = .returned (.tuple #[.slice none 0 0, .int .i64 172]) ∧ ∃ k, S k w') ∨
   (b.length < 4 ∧ e = .returned (.tuple #[.slice none 0 0, .int .i64 201]) ∧ ∃ k, S k w'))

set_option maxRecDepth 100000 in
set_option maxHeartbeats 8000000 in
theorem parse_calls (A : Option Addr) (n c : Nat) (b : List UInt8) (kind : Nat) (Ap : Option Addr) (np cp : Nat) (ps : List (Nat × Nat)) (S : Nat → World → Prop) (w : World) (hn : n = b.length) (hc : n ≤ c) (hm : n ≤ 2000000) (hA : Byt w w.heap.size A b) (_hk : kind ≤ 1)
    (hnp : np = ps.length) (hmp : np ≤ 10) (hP : Recs w w.heap.size 1 Ap (ptrRows (addrs ps))) (hS0 : S 0 w) (hSb : ∀ k W W', S k W → Chg (fun q => w.heap.size ≤ q) W W' → S k W')
    (hSs : ∀ k (hk : k < ps.length) W, S k W → (∃ x : Int, W.cell? ⟨(ps[k]).1, (ps[k]).2, none⟩ = some (.int .i64 x)) ∧ W.frozen? ⟨(ps[k]).1, (ps[k]).2, none⟩ = false ∧ S (k + 1) (W.setCell ⟨(ps[k]).1, (ps[k]).2, none⟩ (.int .i64 (Wi.rdV (Wi.ahead b) (k + 1) : Int)))) (hlt : ∀ k (hk : k < ps.length), (ps[k]).1 < w.heap.size) :
    Calls Try.prog 28 #[.slice A n c, .int .i64 (kind : Int), .slice Ap np cp] w (RetPar w S b kind np) := by
  have HN := hide hn
  have HNP := hide hnp
  have HSb := hide hSb
  have HSs := hide hSs
  have HLT := hide hlt
  have HS0 := hide hS0
  clear hn hnp hSb hSs hlt hS0
  by_cases h4 : n < 4
  · have HL : Hid (b.length < 4) := by rw [← HN.out]; exact h4
    have hneg : (n : Int) - 4 < 0 := by omega
    go_enter Try.func28, Try.ntmps28
    go_wp2
    go_ret2
    exact ⟨Nat.le_refl _, .inr (.inr (.inr ⟨HL.out, rfl, 0, HS0.out⟩))⟩
  · obtain ⟨m, hm4⟩ : ∃ m, n = m + 4 := ⟨n - 4, by omega⟩
    have HL4 : Hid (4 ≤ b.length) := by show _ ≤ _; rw [← HN.out]; omega
    have HMb : Hid (b.length - 4 = m) := by show _ = _; rw [← HN.out]; omega
    subst hm4
    obtain ⟨gb, off, rfl, hgb, hcell⟩ := hA (by have := HN.out; omega)
    have e0 : (((m + 4 : Nat) : Int) - 4) = (m : Int) := by omega
    have hx : ∀ j, j < 4 → m + j < b.length := fun j hj => by have := HN.out; omega
    have c0 : w.cell? ⟨gb, off + m, none⟩ = some (.int .u8 ((b[m]'(hx 0 (by omega))).toNat : Int)) := hcell m _ (List.getElem?_eq_getElem _)
    have c1 : w.cell? ⟨gb, off + (m + 1), none⟩ = some (.int .u8 ((b[m + 1]'(hx 1 (by omega))).toNat : Int)) := hcell (m + 1) _ (List.getElem?_eq_getElem _)
    have c2 : w.cell? ⟨gb, off + (m + 2), none⟩ = some (.int .u8 ((b[m + 2]'(hx 2 (by omega))).toNat : Int)) := hcell (m + 2) _ (List.getElem?_eq_getElem _)
    have c3 : w.cell? ⟨gb, off + (m + 3), none⟩ = some (.int .u8 ((b[m + 3]'(hx 3 (by omega))).toNat : Int)) := hcell (m + 3) _ (List.getElem?_eq_getElem _)
    have HTold : Hid (Wi.told b = (((b[m]'(hx 0 (by omega))).toNat * 256 + (b[m + 1]'(hx 1 (by omega))).toNat) * 256 + (b[m + 2]'(hx 2 (by omega))).toNat) * 256 + (b[m + 3]'(hx 3 (by omega))).toNat) := by
      unfold Wi.told Wi.of4
      rw [HMb.out]
      simp only [List.getD, List.getElem?_drop, Nat.add_zero]
      rw [List.getElem?_eq_getElem (show m < b.length from hx 0 (by omega)), List.getElem?_eq_getElem (hx 1 (by omega)), List.getElem?_eq_getElem (hx 2 (by omega)), List.getElem?_eq_getElem (hx 3 (by omega))]
      exact rfl
    have h0 := (b[m]'(hx 0 (by omega))).toNat_lt
    have h1 := (b[m + 1]'(hx 1 (by omega))).toNat_lt
    have h2 := (b[m + 2]'(hx 2 (by omega))).toNat_lt
    have h3 := (b[m + 3]'(hx 3 (by omega))).toNat_lt
    generalize (b[m]'(hx 0 (by omega))).toNat = y0 at *
    generalize (b[m + 1]'(hx 1 (by omega))).toNat = y1 at *
    generalize (b[m + 2]'(hx 2 (by omega))).toNat = y2 at *
    generalize (b[m + 3]'(hx 3 (by omega))).toNat = y3 at *
    have HO4 := hide (or4 y0 y1 y2 y3 h0 h1 h2 h3)
    clear hcell hx
    go_enter Try.func28, Try.ntmps28
    go_wp2_with fail
    go_quiet (fail)
    rw [HO4.out, ← HTold.out]
    have belD := dN w nq
    have HAh : Hid (Wi.ahead b = b.take m) := by unfold Wi.ahead; rw [HMb.out]; exact rfl
    have hlt32 : Wi.told b < 4294967296 := by rw [HTold.out]; omega
    have yD : Byt (w.drewN nq) w.heap.size (some ⟨gb, off, none⟩) (Wi.ahead b) := by rw [HAh.out]; exact (hA.below belD).take m
    have hPD := hP.below belD
    have SD : S 0 (w.drewN nq) := HSb.out 0 w _ HS0.out (Chg.of_below belD)
    have HLA : Hid (m = (Wi.ahead b).length) := by show _ = _; rw [HAh.out, List.length_take, ← HN.out]; omega
    have hs1 : ∀ w', Sem.run Try.prog (Instr.sliceAt 25 (.slice (some ⟨gb, off, none⟩) (m + 4) c) none (some (.int .i64 (m : Int))) none) w' = .ok (.slice (some ⟨gb, off, none⟩) m c) w' := fun w' => run_cut8h bytesT _ (m + 4) c .i64 m _ rfl (by omega) w'
    clear c0 c1 c2 c3 h0 h1 h2 h3 HO4 hA hP HS0 HTold e0 HAh
    generalize w.drewN nq = wD at *
    obtain ⟨T, hT⟩ : ∃ T, Wi.told b = T := ⟨_, rfl⟩
    have HT := hide hT
    rw [hT] at hlt32 ⊢
    clear hT
    have hsm := C3.sum_calls (some ⟨gb, off, none⟩) m (Wi.ahead b) c wD HLA.out (by rw [← HLA.out]; omega) yD
    have hs32 : Crc.sum (Wi.ahead b) < 4294967296 := Crc.more_lt 0 _
    go_wp2_with fail
    refine hsm.mono ?_
    rintro e w1 ⟨rfl, b1⟩
    have bel1 := bnext belD b1
    have S1 := HSb.out 0 _ _ SD (Chg.of_below b1)
    have y1 := yD.below (b1.mono belD.size)
    have hP1 := hPD.below (b1.mono belD.size)
    clear hsm SD yD hPD b1 belD
    by_cases hse : Crc.sum (Wi.ahead b) = T
    · have HSE := hide hse
      rw [hse]
      have en : ((T : Int) != (T : Int)) = false := by simp
      clear hse hs32
      have hop := open_calls (some ⟨gb, off, none⟩) m c (Wi.ahead b) w1 HLA.out (by omega) y1
      go_wp2_with fail
      refine hop.mono ?_
      rintro e w2 ⟨rfl, rd2, b2⟩
      obtain ⟨gr, hgr⟩ : ∃ g, g = w1.heap.size + 1 := ⟨_, rfl⟩
      obtain ⟨rr, hrr⟩ : ∃ g, g = w1.heap.size := ⟨_, rfl⟩
      rw [← hgr, ← hrr] at rd2
      rw [← hgr]
      have zr : w.heap.size ≤ rr := by rw [hrr]; exact bel1.size
      have zg : w.heap.size ≤ gr := by omega
      have bel2 := bnext bel1 b2
      have S2 := HSb.out 0 _ _ S1 (Chg.of_below b2)
      have hP2 := hP1.below (b2.mono bel1.size)
      clear hgr hrr hop S1 y1 hP1 b2 bel1 en hs1
      have F6 := par_six w2 Ap np cp ps w.heap.size bel2.size hP2
      obtain ⟨k1, k2, q1, q2, q3, q6, b6⟩ := F6
      have rd6 := rd2.below b6
      have S6 := HSb.out 0 _ _ S2 (Chg.of_below b6)
      have bel6 := bnext bel2 b6
      have hcc := concat_calls _ _ _ _ 1 np 1 1 cp 1 [⟨w2.heap.size, 0, none⟩] (addrs ps) [⟨w2.heap.size + 1, 0, none⟩] _ q6 rfl (by rw [addrs, List.length_map]; exact HNP.out) rfl (by omega) (by omega) q1 q2 q3
      have z2 : w.heap.size ≤ w2.heap.size := bel2.size
      clear q1 q2 q3 q6 S2 rd2 hP2 bel2 b6
      go_wp2_with fail
      generalize ((((w2.alloc (.cells #[.int .i64 0] 3)).alloc (.cells #[.int .i64 0] 3)).alloc (.cells #[.pointer (some ⟨w2.heap.size, 0, none⟩)] 51)).alloc (.cells #[.pointer (some ⟨w2.heap.size + 1, 0, none⟩)] 51)).alloc (.cells #[.slice (some ⟨w2.heap.size + 1 + 1, 0, none⟩) 1 1, .slice Ap np cp, .slice (some ⟨w2.heap.size + 1 + 1 + 1, 0, none⟩) 1 1] 64) = V6 at *
      refine hcc.mono ?_
      rintro e w7 ⟨A7, c7, rfl, o7, g7, b7⟩
      have k17 := k1.below b7 k1.lt
      have k27 := k2.below b7 k2.lt
      have rd7 := rd6.below b7
      have S7 := HSb.out 0 _ _ S6 (Chg.of_below b7)
      have z7 : w.heap.size ≤ w7.heap.size := Nat.le_trans bel6.size b7.size
      have gA7 : ∀ q, blkOf A7 = some q → w.heap.size ≤ q := fun q hq => Nat.le_trans bel6.size (g7 q hq)
      obtain ⟨f1, hf1⟩ : ∃ f, f = w2.heap.size := ⟨_, rfl⟩
      obtain ⟨f2, hf2⟩ : ∃ f, f = w2.heap.size + 1 := ⟨_, rfl⟩
      rw [← hf2] at k27 o7 ⊢
      rw [← hf1] at k17 o7 ⊢
      have zf1 : w.heap.size ≤ f1 := by omega
      have zf2 : w.heap.size ≤ f2 := by omega
      have f12 : f1 ≠ f2 := by omega
      clear hf1 hf2 hcc k1 k2 rd6 S6 g7 b7 bel6 z2
      have HP0 : PSt w.heap.size S (Wi.ahead b) f1 f2 gr rr A7 c7 np ([⟨f1, 0, none⟩] ++ addrs ps ++ [⟨f2, 0, none⟩]) 0 0 w7 := ⟨o7, k17, k27, rd7, S7, z7⟩
      clear o7 k17 k27 rd7 S7 z7
      go_wp2
      go_loopw [69] (fun iv wr => ∃ k : Nat, k ≤ 1 + np + 1 ∧ iv = .int .i64 (k : Int) ∧ Hid (Wi.numsOk (Wi.ahead b) k = true) ∧ PSt w.heap.size S (Wi.ahead b) f1 f2 gr rr A7 c7 np ([⟨f1, 0, none⟩] ++ addrs ps ++ [⟨f2, 0, none⟩]) k k wr) (fun iv _ => 1 + np + 1 - (intOf iv).toNat)
      case atStart => exact ⟨0, by omega, rfl, rfl, HP0⟩
      case round =>
        obtain ⟨k, hk', rfl, hno, pst⟩ := hrel
        clear HP0
        by_cases hlt : k < 1 + np + 1
        · obtain ⟨ga, rw_, hAe, hrow, hrl, hcell⟩ := pst.1.at_ hlt
          obtain ⟨q, o, hp⟩ : ∃ q o, ([⟨f1, 0, none⟩] ++ addrs ps ++ [⟨f2, 0, none⟩] : List Addr)[k]? = some ⟨q, o, none⟩ := by
            rw [ptrRows, List.getElem?_map, Option.map_eq_some_iff] at hrow
            obtain ⟨p, hp, _⟩ := hrow
            have hm := List.mem_of_getElem? hp
            simp [addrs] at hm
            rcases hm with rfl | ⟨a, b, _, rfl⟩ | rfl
            · exact ⟨_, _, hp⟩
            · exact ⟨_, _, hp⟩
            · exact ⟨_, _, hp⟩
          have hc1 : wr.cell? ⟨ga, k, none⟩ = some (.pointer (some ⟨q, o, none⟩)) := by
            rw [ptrRows, List.getElem?_map, hp] at hrow
            injection hrow with hrow
            subst hrow
            have := hcell 0 _ rfl
            rw [Nat.mul_one, Nat.add_zero] at this
            exact this
          subst hAe
          clear hcell hrow hrl
          have hge := gget_any gr rr (Wi.ahead b) (Wi.rdK (Wi.ahead b) k) wr pst.2.2.2.1
          have hgv := Gol.gV_lt (bitsOf (Wi.ahead b) (Wi.rdK (Wi.ahead b) k))
          have HE : Hid (Gol.gE (bitsOf (Wi.ahead b) (Wi.rdK (Wi.ahead b) k)) = Wi.rdE (Wi.ahead b) k) := rfl
          have HV : Hid (Gol.gV (bitsOf (Wi.ahead b) (Wi.rdK (Wi.ahead b) k)) = Wi.rdV (Wi.ahead b) k) := rfl
          have HK : Hid (Wi.rdK (Wi.ahead b) k + Gol.gK (bitsOf (Wi.ahead b) (Wi.rdK (Wi.ahead b) k)) = Wi.rdK (Wi.ahead b) (k + 1)) := rfl
          rw [HE.out, HV.out, HK.out] at hge
          rw [HV.out] at hgv
          clear HE HV HK
          have HP := hide hp
          clear hp
          go_wp2_with fail
          refine hge.mono ?_
          rintro e w8 ⟨rfl, rd8, cg8⟩
          have p8 := pst.read cg8 rd8 zg HSb.out
          clear hge rd8 cg8 pst hc1
          by_cases hre : Wi.rdE (Wi.ahead b) k = 0
          · have HRE := hide hre
            rw [hre]
            clear hre
            obtain ⟨⟨x, hcx⟩, hfx, p9⟩ := p8.step HNP.out f12 zf1 zf2 zg zr gA7 HLT.out HSb.out HSs.out HP.out
            have HV2 : Hid (Wi.rdV (Wi.ahead b) k = Wi.rdV (Wi.ahead b) k) := rfl
            generalize hV : Wi.rdV (Wi.ahead b) k = V at p9 hgv ⊢
            go_wp2
            go_roundw
            case rel => exact ⟨k + 1, by omega, by go_num, numsOk_succ _ _ hno.out HRE.out, p9⟩
            case measure => simp [intOf]; omega
          · have HRE := hide hre
            have en : (Wi.rdE (Wi.ahead b) k != 0) = true := by simpa using hre
            clear hre
            go_wp2
            go_ret2
            exact ⟨p8.2.2.2.2.2, .inr (.inl ⟨HL4.out, by rw [HT.out]; exact HSE.out, by unfold Wi.paOk; rw [numsOk_bad _ k _ (by omega) HRE.out]; exact rfl, rfl, _, p8.2.2.2.2.1⟩)⟩
        · obtain rfl : k = 1 + np + 1 := by omega
          have ek : 1 + np + 1 = np + 2 := by omega
          obtain ⟨_, k1, k2, rd, hS, hz⟩ := pst
          rw [if_pos (by omega)] at k1
          rw [if_pos (by omega)] at k2
          have e3 : min (1 + np + 1 - 1) np = np := by omega
          rw [e3] at hS
          have HNO : Hid (Wi.numsOk (Wi.ahead b) (np + 2) = true) := by rw [← ek]; exact hno
          have q1 : wr.cell? ⟨f1, 0, none⟩ = some (.int .i64 (Wi.rdV (Wi.ahead b) 0 : Int)) := k1.cell 0
          have hgv0 : Wi.rdV (Wi.ahead b) 0 < _ := Gol.gV_lt (bitsOf (Wi.ahead b) (Wi.rdK (Wi.ahead b) 0))
          rw [ek] at rd
          clear hno e3 hk' hlt
          by_cases hf : Wi.rdV (Wi.ahead b) 0 = kind
          · have HF := hide hf
            rw [hf] at q1
            have en : ((kind : Int) != (kind : Int)) = false := by simp
            clear hf hgv0
            have hal := ralign_any gr rr _ _ wr rd
            rcases hB : Bit.restB (Bit.row (Wi.ahead b)) (Wi.rdK (Wi.ahead b) (np + 2)) with _ | _
            · have HB := hide hB
              rw [hB, show alE false = 11 from rfl] at hal
              clear hB
              go_wp2_with fail
              refine hal.mono ?_
              rintro e w8 ⟨rfl, rd8, cg8⟩
              have S8 := HSb.out _ _ _ hS (cg8.mono (fun i _ e => by have : i = gr := e; omega))
              go_wp2
              go_ret2
              exact ⟨Nat.le_trans hz cg8.size, .inr (.inl ⟨HL4.out, by rw [HT.out]; exact HSE.out, by unfold Wi.paOk; rw [HB.out]; simp, rfl, _, S8⟩)⟩
            · have HB := hide hB
              rw [hB, show alE true = 0 from rfl, show alK true (Wi.rdK (Wi.ahead b) (np + 2)) = 8 * ((Wi.rdK (Wi.ahead b) (np + 2) + 7) / 8) from rfl] at hal
              clear hB
              go_wp2_with fail
              refine hal.mono ?_
              rintro e w8 ⟨rfl, rd8, cg8⟩
              have S8 := HSb.out _ _ _ hS (cg8.mono (fun i _ e => by have : i = gr := e; omega))
              have k28 := cg8.blk k2 (fun e => (k2.ne_ rd.1 (by decide)) e)
              have hz8 := Nat.le_trans hz cg8.size
              have hrs := rest_calls gr rr _ _ w8 rd8
              rw [show (8 * ((Wi.rdK (Wi.ahead b) (np + 2) + 7) / 8) + 7) / 8 = (Wi.rdK (Wi.ahead b) (np + 2) + 7) / 8 by omega] at hrs
              have HTL : Hid ((Wi.ahead b).drop ((Wi.rdK (Wi.ahead b) (np + 2) + 7) / 8) = Wi.tail (Wi.ahead b) (np + 2)) := rfl
              have HTL2 : Hid ((Wi.tail (Wi.ahead b) (np + 2)).length ≤ 2000000) := by show _ ≤ _; unfold Wi.tail; rw [List.length_drop, ← HLA.out]; omega
              rw [HTL.out] at hrs
              clear hal rd8 cg8 hS k1 k2 q1 rd hz en
              go_wp2_with fail
              refine hrs.mono ?_
              rintro e w9 ⟨A9, n9, c9, rfl, own9, g9, b9⟩
              have HN9 : Hid (n9 = (Wi.tail (Wi.ahead b) (np + 2)).length) := own9.1
              have hn9 : n9 ≤ 2000000 := by rw [HN9.out]; exact HTL2.out
              have hcl := clone_calls A9 n9 c9 _ w9 HN9.out (by omega) own9.byt
              have S9 := HSb.out _ _ _ S8 (Chg.of_below b9)
              have k29 := k28.below b9 k28.lt
              have hz9 := Nat.le_trans hz8 b9.size
              clear hrs S8 k28 hz8 b9 own9 g9
              go_wp2_with fail
              refine hcl.mono ?_
              rintro e w10 ⟨A10, n10, c10, rfl, own10, g10, b10⟩
              have HN10 : Hid (n10 = (Wi.tail (Wi.ahead b) (np + 2)).length) := own10.1
              have hn10 : n10 ≤ 2000000 := by rw [HN10.out]; exact HTL2.out
              have S10 := HSb.out _ _ _ S9 (Chg.of_below b10)
              have k210 := k29.below b10 k29.lt
              have hz10 := Nat.le_trans hz9 b10.size
              have q2 : w10.cell? ⟨f2, 0, none⟩ = some (.int .i64 (Wi.rdV (Wi.ahead b) (np + 1) : Int)) := k210.cell 0
              have g10' : ∀ q, blkOf A10 = some q → w.heap.size ≤ q := fun q hq => Nat.le_trans hz9 (g10 q hq)
              clear hcl S9 k29 hz9 b10 g10
              by_cases hsz : n10 = Wi.rdV (Wi.ahead b) (np + 1)
              · have HSZ := hide hsz
                rw [← hsz] at q2
                have en : ((n10 : Int) != (n10 : Int)) = false := by simp
                clear hsz
                go_wp2
                go_ret2
                refine ⟨hz10, .inl ⟨HL4.out, by rw [HT.out]; exact HSE.out, ?_, A10, n10, c10, rfl, own10, g10', S10⟩⟩
                unfold Wi.paOk
                rw [HNO.out, HB.out, HF.out, HTL.out, ← HN10.out, show np + 2 - 1 = np + 1 from rfl, ← HSZ.out]
                simp
              · have HSZ := hide hsz
                have en : ((n10 : Int) != (Wi.rdV (Wi.ahead b) (np + 1) : Int)) = true := by
                  have : ¬ (n10 : Int) = (Wi.rdV (Wi.ahead b) (np + 1) : Int) := by omega
                  simpa using this
                clear hsz
                go_wp2
                go_ret2
                refine ⟨hz10, .inr (.inl ⟨HL4.out, by rw [HT.out]; exact HSE.out, ?_, rfl, _, S10⟩)⟩
                unfold Wi.paOk
                rw [HTL.out, ← HN10.out, show np + 2 - 1 = np + 1 from rfl, show (n10 == Wi.rdV (Wi.ahead b) (np + 1)) = false by simpa using HSZ.out]
                simp
          · have HF := hide hf
            have en : ((Wi.rdV (Wi.ahead b) 0 : Int) != (kind : Int)) = true := by
              have : ¬ (Wi.rdV (Wi.ahead b) 0 : Int) = (kind : Int) := by omega
              simpa using this
            clear hf
            go_wp2
            go_ret2
            exact ⟨hz, .inr (.inl ⟨HL4.out, by rw [HT.out]; exact HSE.out, by unfold Wi.paOk; rw [show (Wi.rdV (Wi.ahead b) 0 == kind) = false by simpa using HF.out]; simp, rfl, _, hS⟩)⟩
    · have HSE := hide hse
      have en : ((Crc.sum (Wi.ahead b) : Int) != (T : Int)) = true := by
        have : ¬ (Crc.sum (Wi.ahead b) : Int) = (T : Int) := by omega
        simpa using this
      go_wp2
      go_ret2
      exact ⟨bel1.size, .inr (.inr (.inl ⟨HL4.out, by rw [HT.out]; exact HSE.out, rfl, 0, S1⟩))⟩
end Go.Proofs.Ytijcollcncjdoaa
